/- own texts, made small by a tool (wip/ holds them as they were written): no statement of the seat. -/
import Derived.RangeFuncNested
import Derived.RangeFuncLeaves
import Derived.OrdersIn
import Derived.KernelRfl
import Derived.Deep.Upon
import Derived.RangeFuncBound
import Derived.Deep.MidRow
import Derived.Laws.Cover3
import Derived.Laws.Pointers
import Derived.Laws.StructEq
import Derived.Laws.Tables
import Derived.Below
import Derived.Laws.MakeOwn
import Derived.Lib.Overlaps
import Derived.Lib.AppendZerosOnto
import Derived.Lib.SliceRun
import Derived.OpenShut
import Derived.Lib.ConvBytes
import Derived.Laws.BytesArg
import Derived.Laws.Concat
import Derived.MapKept
import Derived.Carry
import Derived.WideKeyArr
import Derived.WideKeyMaps
import Derived.Laws.IdiomRangeMap
import Derived.Shelf.SlSortCmp.NoneTotal
import Derived.Shelf.SlSortCmp.WholeK
import Derived.Ground.SlsfProg
import Derived.WideKeyEntry
import Derived.WalkKit
import Derived.Test.YtikkpokkcdocoaaGreatDoorProg
import Derived.Test.YtikkpokkcdocoaaGreatDoorChecked
set_option linter.unusedVariables false
set_option linter.unusedSimpArgs false
set_option linter.unnecessarySimpa false
open Array renaming getElem?_eq_some_iff→n9,getElem?_toList→S8
open BitVec renaming ofInt→T3
open Bool renaming not_true→Y6,not_false→W5,and_eq_true→U4,or_eq_false_iff→U5
open Decidable renaming not_not→X3
open Go renaming Value→x1,World→x3,TypeId→r9,IntKind→o4,Builtin→Z5,Program→W9,Oper→T5,Operand→S5,FuncId→Q1
open Go.Addr renaming add_mid→T2
open Go.Builtin renaming append_→Z3,len_→V2
open Go.Instr renaming loadAt→u4,fieldAt→u5,storeAt→o6,indexAt→j5,extract→Y3,buildSlice→Y7,sliceAt→V6
open Go.IntKind renaming i64→X7,u64→T1
open Go.Proofs.Tryz renaming prog→x7
open Go.Result renaming andThen→W8
open Go.Sem renaming run_bind→W6,run_pure→V4
open Go.Sort renaming Holds→S7
open Go.Value renaming int→V7
open Go.World renaming putObj_heap_other→Q2
open Int renaming toNat_natCast→u6,eq_ofNat_of_zero_le→U7
open List renaming getElem?_eq_some_iff→x4,mem_of_getElem?→x5,getElem?_eq_getElem→x6,getElem?_map→x8,getD_eq_getElem?_getD→v8,take_add_one→u7,length_map→u9,length_append→r8,replicate→p9,take_length→o5,length_take→o7,mem_append→o9,mem_singleton→l7,mem_map→l9,take_of_length_le→j0,eq_nil_of_length_eq_zero→j4,length_cons→c9,getElem?_set_self→Z0,map_append→Z4,length_set→Z6,getElem?_take_of_lt→Z9,getElem?_append_left→Y1,getElem?_append_right→Y2,getElem?_set_ne→Y8,ext_getElem?→X2,drop_eq_getElem_cons→X8,append_nil→W7,range→V0,length_eq_one_iff→V1,mem_cons→V3,mem_of_mem_take→V5,map_set→U6,map_cons→T4,foldl_cons→T9,set_append_right→S0,getElem_mem→S9,mem_range→Q3
open Nat renaming le_refl→p8,mul_le_mul_right→Y4,le_trans→Y5,zero_le→X4,zero_add→X6,sub_self→U2,add_mul→U8,mul_one→T0,lt_of_lt_of_le→T7,beq→S1,add_assoc→S6,eq_zero_or_pos→Q4
open Option renaming toList_some→o8,isNone_some→j9,map_some→Z7,getD_some→V8,map→U3
open Option.some renaming injEq→X0
open Prod.mk renaming injEq→S2
set_option maxHeartbeats 16000000
open Option renaming some→σ,none→ν
abbrev Λ:=List Int
namespace Go
theorem Ω{p:Prop}(h:p:=by omega):p:=h
theorem Ψ{p:Prop}(h:p:=by kernel_rfl):p:=h
theorem Φ{p:Prop}(h:p:=by decide):p:=h
theorem Ξ{p:Prop}(h:p:=by simp):p:=h
theorem Θ{p:Prop}(h:p:=by simp;omega):p:=h
abbrev Γ(n:Nat):Value:=.pointer (some ⟨n,0,none⟩)
abbrev Δ:Int→Value:=Value.int .i64
end Go
variable{a y:Int}{c w w':x3}{S:Nat->Prop}{N f h j n:Nat}{aM s1 sv v z:x1}{args cs vs xs:List x1}{K:x1->Prop}{ag l:Λ}{D:List Nat}{k:o4}{e t:r9}{cx cy:Bool}
namespace Go.Vc
open Go Go.RowKit
def fw:Obj->Bool
 | .loop _=>false
 | .deferred _=>false
 | .mapIter ..=>false
 |_=>true
def book:Obj->Bool
 | .loop _=>true
 | .deferred _=>true
 |_=>false
theorem xz{o:Obj}(h:book o=true):fw o=false:=by cases o<;>first|rfl|cases h
def re:Obj->Bool
 | .mapIter ..=>true
 |_=>false
theorem EX{o:Obj}(h:re o=true):fw o=false:=by cases o<;>first|rfl|cases h
structure Ext(w w':x3):Prop where
 size:w.heap.size<=w'.heap.size
 aY:∀(r:Nat)(o:Obj),w.heap[r]?=σ o->fw o=true->w'.heap[r]?=σ o
theorem Ext.refl(w:x3):Ext w w:=⟨p8 _,λ_ _ h _=>h⟩
theorem Ext.trans{a b:x3}(h:Ext a b)(k:Ext b c):Ext a c:=
 ⟨Y5 h.size k.size,λr o e I=>k.aY r o (h.aY r o e I) I⟩
structure ae(S:Nat->Prop)(w w':x3):Prop where
 size:w.heap.size<=w'.heap.size
 aY:∀(r:Nat)(o:Obj),w.heap[r]?=σ o->fw o=true->¬S r->w'.heap[r]?=σ o
theorem Ext.V(S:Nat->Prop)(h:Ext w w'):ae S w w':=⟨h.size,λr o a I _=>h.aY r o a I⟩
theorem ae.ext(h:ae S w w')(e:∀r,r<w.heap.size->¬S r):Ext w w':=
 ⟨h.size,λr o a I=>h.aY r o a I (e r (n9.1 a).1)⟩
theorem ae.refl(S:Nat->Prop)(w:x3):ae S w w:=⟨p8 _,λ_ _ h _ _=>h⟩
theorem ae.trans{a b:x3}(h:ae S a b)(k:ae S b c):ae S a c:=
 ⟨Y5 h.size k.size,λr o f I e=>k.aY r o (h.aY r o f I e) I e⟩
theorem ae.mono{T:Nat->Prop}{a b:x3}(h:ae S a b)(f:∀r,r<a.heap.size->S r->T r):ae T a b:=
 ⟨h.size,λr o e I j=>h.aY r o e I λp=>j (f r (n9.1 e).1 p)⟩
theorem Ext.then{a b:x3}(h:Ext a b)(k:ae S b c)(f:∀r,r<a.heap.size->¬S r):Ext a c:=
 ⟨Y5 h.size k.size,λr o e I=>k.aY r o (h.aY r o e I) I (f r (n9.1 e).1)⟩
def jE(w w':x3):Prop:=w'.tape=w.tape/\w.drawn<=w'.drawn
theorem jE.ka(h:w'.tape=w.tape:=by rfl)(k:w'.drawn=w.drawn:=by rfl):jE w w':=⟨h,Nat.le_of_eq k.symm⟩
theorem jE.trans{a b:x3}(k:jE b c)(h:jE a b):jE a c:=⟨k.1.trans h.1,Y5 h.2 k.2⟩
structure cF(w w':x3):Prop where
 os:w'.os=w.os
 tape:jE w w'
 output:w'.output=w.output
 size:w.heap.size<=w'.heap.size
 aY:∀(r:Nat)(o:Obj),w.heap[r]?=σ o->fw o=false->w'.heap[r]?=σ o
structure ct(n:Nat)(w w':x3):Prop where
 os:w'.os=w.os
 tape:jE w w'
 output:w'.output=w.output
 size:w.heap.size<=w'.heap.size
 aY:∀(r:Nat)(o:Obj),w.heap[r]?=σ o->book o=true->w'.heap[r]?=σ o
 old:∀(r:Nat)(o:Obj),r<n->w.heap[r]?=σ o->fw o=false->w'.heap[r]?=σ o
theorem cF.b(h:cF w w'):ct n w w':=⟨h.os,h.tape,h.output,h.size,λr o a I=>h.aY r o a (xz I),λr o _ a I=>h.aY r o a I⟩
theorem ct.refl(n:Nat)(w:x3):ct n w w:=⟨rfl,.ka,rfl,p8 _,λ_ _ h _=>h,λ_ _ _ h _=>h⟩
theorem ct.trans{a b:x3}(h:ct n a b)(k:ct n b c):ct n a c:=
 ⟨k.os.trans h.os,k.tape.trans h.tape,k.output.trans h.output,Y5 h.size k.size,λr o e I=>k.aY r o (h.aY r o e I) I,λr o f e I=>k.old r o f (h.old r o f e I) I⟩
theorem ct.cj(h:ct n w w')(e:w.heap.size<=n):cF w w':=
 ⟨h.os,h.tape,h.output,h.size,λr o a I=>h.old r o (T7 (n9.1 a).1 e) a I⟩
structure fx(n:Nat)(w w':x3):Prop where
 os:w'.os=w.os
 tape:jE w w'
 output:w'.output=w.output
 size:w.heap.size<=w'.heap.size
 old:∀(r:Nat)(o:Obj),r<n->w.heap[r]?=σ o->fw o=false->w'.heap[r]?=σ o
theorem ct.o(h:ct n w w'):fx n w w':=⟨h.os,h.tape,h.output,h.size,h.old⟩
theorem cF.o(h:cF w w'):fx n w w':=⟨h.os,h.tape,h.output,h.size,λr o _ a I=>h.aY r o a I⟩
theorem fx.mono{m:Nat}(h:fx n w w')(hm:m<=n):fx m w w':=⟨h.os,h.tape,h.output,h.size,λr o a=>h.old r o (T7 a hm)⟩
theorem ct.xA{m:Nat}{a b:x3}(h:ct n a b)(k:fx m b c)(hm:a.heap.size<=m):ct n a c:=
 ⟨k.os.trans h.os,k.tape.trans h.tape,k.output.trans h.output,Y5 h.size k.size,
  λr o e I=>k.old r o (T7 (n9.1 e).1 hm) (h.aY r o e I) (xz I),
  λr o f e I=>k.old r o (T7 (n9.1 e).1 hm) (h.old r o f e I) I⟩
def e0(w w':x3):Prop:=∀(r:Nat)(o:Obj),w.heap[r]?=σ o->re o=true->w'.heap[r]?=σ o
theorem e0.refl(w:x3):e0 w w:=λ_ _ h _=>h
theorem e0.trans{a b:x3}(h:e0 a b)(k:e0 b c):e0 a c:=λr o e I=>k r o (h r o e I) I
theorem cF.kb(h:cF w w'):e0 w w':=λr o a I=>h.aY r o a (EX I)
abbrev fy:=Bool×Nat
theorem cF.refl(w:x3):cF w w:=⟨rfl,.ka,rfl,p8 _,λ_ _ h _=>h⟩
theorem cF.trans{a b:x3}(h:cF a b)(k:cF b c):cF a c:=
 ⟨k.os.trans h.os,k.tape.trans h.tape,k.output.trans h.output,Y5 h.size k.size,λr o e I=>k.aY r o (h.aY r o e I) I⟩
theorem rf(w:x3)(n:Nat):Ext w {w with drawn:=n}:=⟨p8 _,λ_ _ h _=>h⟩
theorem pA(w:x3)(n:Nat)(h:w.drawn<=n):cF w {w with drawn:=n}:=⟨rfl,⟨rfl,h⟩,rfl,p8 _,λ_ _ h _=>h⟩
theorem pB(w:x3)(o:Obj):Ext w {w with heap:=w.heap.push o}:=
 ⟨Ξ,λr o' h _=>by
  have a:=(n9.1 h).1;simp only[Array.getElem?_push];rw[if_neg Ω];exact h⟩
theorem pC(w:x3)(o:Obj):cF w {w with heap:=w.heap.push o}:=
 ⟨rfl,.ka,rfl,Ξ,λr o' h _=>by
  have a:=(n9.1 h).1;simp only[Array.getElem?_push];rw[if_neg Ω];exact h⟩
inductive eB where
 |v (x:x1)
 |b (c:Bool)
 |u
def eB.val:eB->x1
 | .v x=>x
 | .b c=>.bool c
 | .u=>undef
def eB.ofConst:x1->eB
 | .bool c=>.b c
 |x=>.v x
theorem eB.EY(x:x1):(eB.ofConst x).val=x:=by cases x<;>rfl
abbrev Env:=List (Nat×eB)
def look:Env->Nat->Option eB
 |[],_=>ν
 |(s,x)::r,t=>bif S1 s t then σ x else look r t
def eJ(e:Env):S5->Option eB
 | .tmp t=>look e t
 | .const x=>σ (eB.ofConst x)
 | .global g=>σ (.v (Γ g))
 | .func f=>σ (.v (.func (.func f) #[] #[]))
def cR(e:Env)(x:S5):x1:=
 match eJ e x with
 |some y=>y.val
 |none=>undef
def known(e:Env):List S5->Bool
 |[]=>true
 |x::r=>(eJ e x).isSome&&known e r
def S7(N:Nat)(e:Env)(a:Act):Prop:=
 a.tmps.size=N/\∀t x,look e t=σ x->a.tmps.getD t undef=x.val
theorem S7.eJ{e:Env}{a:Act}(h:S7 N e a){x:S5}{y:eB}(j:Vc.eJ e x=σ y):a.eval x=y.val:=by
 cases x with
 |tmp t=>exact h.2 t y j
 |const v=>simp[Vc.eJ]at j;subst j;simp[Act.eval,eB.EY]
 |global g=>simp[Vc.eJ]at j;subst j;rfl
 |func f=>simp[Vc.eJ]at j;subst j;rfl
theorem S7.eval{e:Env}{a:Act}(h:S7 N e a){x:S5}(j:(Vc.eJ e x).isSome=true):a.eval x=cR e x:=by
 obtain⟨y,f⟩:=Option.isSome_iff_exists.1 j;rw[h.eJ f];simp[cR,f]
theorem tQ{e:Env}:∀{l:List S5},known e l=true->∀x∈l,(eJ e x).isSome=true
 |[],_,_,a=>by cases a
 |y::r,h,x,a=>by
  simp only[known,U4]at h;cases a with
  |head=>exact h.1
  |tail _ a=>exact tQ h.2 x a
def dX(e:Env)(d:Option Tmp)(x:eB):Env:=
 match d with
 |some t=>(t,x)::e
 |none=>e
def jF(N:Nat)(d:Option Tmp):Bool:=
 match d with
 |some t=>Nat.blt t N
 |none=>true
theorem S7.put{e:Env}{a:Act}(h:S7 N e a){d:Option Tmp}(p:jF N d=true){x:eB}(q:x.val=v):
  S7 N (dX e d x) (a.put d v):=by
 cases d with
 |none=>exact h
 |some t=>
  have r:t<N:=by simpa[jF,Nat.blt_eq]using p
  refine⟨by simp[Act.put,h.1],λs y I=>?_⟩;simp only[dX,look]at I;cases f:S1 t s with
  |true=>
   have j:t=s:=Nat.eq_of_beq_eq_true f;subst j;simp only[f,cond_true,X0]at I;subst I;simp[Act.put,h.1,r,q]
  |false=>
   have j:t≠s:=Nat.ne_of_beq_eq_false f;simp only[f,cond_false]at I;have:=h.2 s y I;simp only[Act.put,Array.getD_eq_getD_getElem?]at this ⊢;rw[Array.getElem?_setIfInBounds_ne j];exact this
def eu(r:Option Nat):Fence:={Fence.wide with round:=r}
theorem tR(r:Option Nat)(n:Nat):(eu r).depth.isSome=true->1<=n:=λh=>by simp[eu,Fence.wide]at h
theorem xB{r:Option Nat}{P:W9}{f:Q1}{args:Array x1}{R:Ending->x3->Prop}(h:Calls P f args w R):CallsIn (eu r) n P f args w R:=by
 have:=(callsIn_wide (n:=n)).2 h;exact this
section
variable(P:W9)
def aC{α:Type}(s:Sem α)(w:x3)(K:α->x3->Prop):Prop:=∃v w',s.run P w= .ok v w'/\cF w w'/\K v w'
def rg{α:Type}(free:fy)(s:Sem α)(w:x3)(K:α->x3->Prop):Prop:=∃v w',s.run P w= .ok v w'/\(free.1=false->ct free.2 w w')/\K v w'
def Split(x:x1)(A B:Prop):Prop:=∃c,x= .bool c/\(c=true->A)/\(c=false->B)
def aV:Bool->S5
 |true=>.const (.bool true)
 |false=>.tmp 0
def ot:S5->Bool
 | .const _=>true
 |_=>false
theorem EZ(op:BinOp)(t:r9)(x y:S5)(a b:x1):eqGuard op t x y a b=eqGuard op t (aV (ot x)) (aV (ot y)) a b:=by
 cases x<;>cases y<;>rfl
def aJ(op:BinOp)(t:r9)(cx cy:Bool)(a b:x1):Sem x1:=do eqGuard op t (aV cx) (aV cy) a b;binOp op t a b
def rh(s:Sem Next):Sem x1:=do
 match <-s with
 | .value v=>pure v
 |_=>stuck "no value"
def bN(x:x1):Sem x1:=rh (execOp (λ_=>x) {dst:=ν,op:=.nilCheck (.tmp 0),type:=0,pos:= "",after:=#[],guard:=ν})
def bG(a:S5->x1):List S5->List x1
 |[]=>[]
 |x::r=>a x::bG a r
theorem ri(a:S5->x1):∀l,bG a l=l.map a
 |[]=>rfl
 |x::r=>by simp[bG,ri a r]
theorem tS(a:S5->x1)(l:Array S5):(bG a l.toList).toArray=l.map a:=by
 apply Array.toList_inj.1;simp[ri]
def partsOf(a:S5->x1):List (Nat×S5)->List (Nat×x1)
 |[]=>[]
 |x::r=>(x.1,a x.2)::partsOf a r
theorem xC(a:S5->x1):∀l,partsOf a l=l.map λ(i,x)=>(i,a x)
 |[]=>rfl
 |x::r=>by simp[partsOf,xC a r]
theorem E0(a:S5->x1)(l:Array (Nat×S5)):(partsOf a l.toList).toArray=l.map λ(i,x)=>(i,a x):=by
 apply Array.toList_inj.1;simp[xC]
def opsOf:Op->List S5
 | .alloc _| .ready _| .waits _=>[]
 | .move x| .assign x| .box _ x| .load _ x| .nilCheck x| .unOp _ _ x| .convert _ _ x| .sliceToArrayPointer _ x| .makeInterface _ x
 | .makeChan _ x| .fieldAddr _ x _| .field _ x _| .range _ x| .next x _| .entry x| .typeAssert x _ _ _| .extract x _| .panic x| .recv _ x _=>[x]
 | .pick c a b=>[c,a,b]
 | .build _ e| .buildSlice _ _ e=>e.toList.map (·.2)
 | .store _ a v| .binOp _ _ a v _| .makeSlice _ a v| .indexAddr _ a v| .index _ a v| .lookup _ a v _| .mapEntry _ a v| .send a v=>[a,v]
 | .makeFunc _ first j=>first.toList++j.toList
 | .makeMap _ r=>match r with
  |some x=>[x]
  |none=>[]
 | .slice _ x l h m=>x::((match l with
  |some y=>[y]
  |none=>[])++((match h with
  |some y=>[y]
  |none=>[])++(match m with
  |some y=>[y]
  |none=>[])))
 | .mapUpdate _ m k v| .entryStore _ m k v| .insert _ m k v=>[m,k,v]
 | .call c=>match c.callee with
  | .value f=>f::c.args.toList
  | .invoke r _=>r::c.args.toList
  | .builtin _=>c.args.toList
 | .go _| .defer _| .select ..=>[]
theorem E1{op:Op}(h1:∀c,op≠ .go c)(e:∀c,op≠ .defer c)(f:∀cs b,op≠ .select cs b):∀x∈op.operands,x∈opsOf op:=by
 intro x a;cases op<;>simp only[Op.operands,opsOf]at a ⊢<;>try (first|(simp at a;done)|(simp at a ⊢;exact a))
 case go c=>exact absurd rfl (h1 c)
 case defer c=>exact absurd rfl (e c)
 case select cs b=>exact absurd rfl (f cs b)
 case makeMap t r=>cases r<;>simp at a ⊢<;>exact a
 case slice t y l h m=>cases l<;>cases h<;>cases m<;>simpa[or_assoc]using a
 case call c=>cases j:c.callee<;>simpa[Call.operands,j]using a
def pD(e:S5->x1):Op->Option (Sem x1)
 | .pick c a b=>σ (do pure (if <-asBool (e c)then e a else e b))
 | .alloc j=>σ (Instr.alloc j true (.tuple #[]))
 | .box j x=>σ (Instr.box j (e x))
 | .build t parts=>σ (Instr.build t (partsOf e parts.toList).toArray)
 | .buildSlice t len parts=>σ (Y7 t len (partsOf e parts.toList).toArray)
 | .load t a=>σ (u4 t (e a))
 | .nilCheck x=>σ (bN (e x))
 | .binOp op h7 x y _=>σ (aJ op h7 (ot x) (ot y) (e x) (e y))
 | .unOp op _ x=>σ (Op.unary op (e x))
 | .convert src dst x=>σ (convert src dst (e x))
 | .makeInterface h7 x=>σ (Instr.makeInterface h7 (e x))
 | .makeFunc fn first p=>σ (Instr.makeFunc fn (bG e first.toList).toArray (bG e p.toList).toArray)
 | .makeMap t r=>σ (Instr.makeMap t (r.map e))
 | .makeSlice t l c=>σ (Instr.makeSlice t (e l) (e c))
 | .slice t x lo hi mx=>σ (V6 t (e x) (lo.map e) (hi.map e) (mx.map e))
 | .fieldAddr s x f=>σ (u5 s (e x) f)
 | .field h7 x f=>σ (Instr.field h7 (e x) f)
 | .indexAddr t x h=>σ (j5 t (e x) (e h))
 | .index h7 x h=>σ (Instr.index h7 (e x) (e h))
 | .lookup h7 x h ok=>σ (Instr.lookup h7 (e x) (e h) ok)
 | .mapEntry t m k=>σ (Instr.mapEntry t (e m) (e k))
 | .range h7 x=>σ (Instr.range h7 (e x))
 | .entry q=>σ (Instr.entry (e q))
 | .typeAssert x h7 w ok=>σ (Instr.typeAssert (e x) h7 w ok)
 | .extract t h=>σ (Y3 (e t) h)
 |_=>ν
def tT(e:S5->x1):Op->Option (Sem Unit)
 | .store t a x=>σ (o6 t (e a) (e x))
 | .mapUpdate t m k x=>σ (Instr.mapUpdate t (e m) (e k) (e x))
 | .insert t m k x=>σ (Instr.mapUpdate t (e m) (e k) (e x))
 | .entryStore t m s x=>σ (Instr.entryStore t (e m) (e s) (e x))
 |_=>ν
def ou(b:Z5)(ats:Array r9)(a:r9)(args:Array x1):Option (Sem x1):=
 match b with
 | .append=>σ (Z3 ats a args)
 | .cap=>σ (Z5.cap_ ats a args)
 | .clear=>σ (Z5.clear_ ats a args)
 | .copy=>σ (Z5.copy_ ats a args)
 | .delete=>σ (Z5.delete_ ats a args)
 | .len=>σ (V2 ats a args)
 | .max=>σ (Z5.max_ ats a args)
 | .min=>σ (Z5.min_ ats a args)
 |_=>ν
theorem E2{s:Sem Next}(h:(rh s).run P w= .ok v w'):s.run P w= .ok (.value v) w':=by
 unfold rh at h;rw[W6]at h;cases I:s.run P w with
 |halt x J=>rw[I]at h;simp[W8]at h
 |ok x J=>
  rw[I]at h;cases x<;>simp_all [W8,stuck,V4]
theorem E3(x:x1)(b:Bool)(t:r9):Instr.next x b 0=Instr.next x b t:=rfl
theorem tU{f:S5->x1}{o:T5}{s:Sem x1}(h:pD f o.op=σ s)(a:s.run P w= .ok v w'):
  (execOp f o).run P w= .ok (.value v) w':=by
 cases e:o.op with
 |nilCheck x=>
  rw[e]at h;cases h;have:=E2 P a;unfold execOp at this ⊢;simpa[e]using this
 |pick c x y=>
  rw[e]at h;cases h;unfold execOp;simp only[e,W6,V4]at a ⊢;cases j:(asBool (f c)).run P w with
  |halt x J=>rw[j]at a;simp[W8]at a
  |ok x J=>rw[j]at a;simp only[W8,Result.ok.injEq]at a ⊢;simp[a]
 |binOp op h7 x y p=>
  rw[e]at h;cases h;unfold execOp;simp only[e];unfold aJ at a;rw[<-EZ]at a;simp only[W6,V4]at a ⊢;rw[a];rfl
 |_=>
  rw[e]at h
  first
   |(cases h;done)
   |(cases h;simp only[tS,E0]at a;unfold execOp;simp only[e,W6,a,W8,V4])
   |(cases h;unfold execOp;simp only[e,W6,a,W8,V4])
theorem E4{a:S5->x1}{o:T5}{s:Sem Unit}(h:tT a o.op=σ s){v:Unit}(f:s.run P w= .ok v w'):
  (execOp a o).run P w= .ok .skip w':=by
 cases e:o.op with
 |_=>
  rw[e]at h
  first
   |(cases h;done)
   |(cases h;unfold execOp;simp only[e,W6,f,W8,V4])
def Enters(f:Q1):Prop:=∀args w,(callFunc f args).run P w= .ok (.enter f args) w
inductive ai(f:Q1)(args:List x1)(w:x3)(K:x1->x3->Prop):Prop
 |code (h1:Enters P f) (h2:Calls P f args.toArray w λe w'=>∃v,e= .returned v/\cF w w'/\K v w')
 |ext (v:x1) (w':x3) (h1:(callFunc f args.toArray).run P w= .ok (.value v) w') (h2:cF w w') (h3:K v w')
inductive gE(f:Q1)(args:List x1)(w:x3)(K:x1->x3->Prop):Prop
 |code (h1:Enters P f) (h2:Calls P f args.toArray w λe w'=>∃v,e= .returned v/\K v w')
 |ext (v:x1) (w':x3) (h1:(callFunc f args.toArray).run P w= .ok (.value v) w') (h3:K v w')
theorem gE.calls{f:Q1}{K:x1->x3->Prop}(h:gE P f args w K)(a:Enters P f):Calls P f args.toArray w λe w'=>∃v,e= .returned v/\K v w':=by
 cases h with
 |code _ h=>exact h
 |ext v w' h1=>rw[a]at h1;cases h1
def hQ(l:Nat)(args:List x1)(w:x3)(K:x1->x3->Prop):Prop:=
 YieldAt Fence.wide 0 P l args.toArray w λe w'=>∃v,e= .returned v/\K v w'
theorem hQ.mono{P:W9}{l:Nat}{K a:x1->x3->Prop}(h:hQ P l args w K)(e:∀v w',K v w'->a v w'):hQ P l args w a:=by
 obtain⟨fn,tmps,f,body,j,p⟩:=h;exact⟨fn,tmps,f,body,j,RoundIn.mono p λ_ w' ⟨v,h1,q⟩=>⟨v,h1,e v w' q⟩⟩
def rj(free:Bool)(f:x1)(args:List x1)(w:x3)(K:x1->x3->Prop):Prop:=
 match f with
 | .func (.func g) first cap=>bif free then gE P g (first.toList++args++cap.toList) w K else ai P g (first.toList++args++cap.toList) w K
 | .func (.yield l) first _=>bif free then free=true/\hQ P l (first.toList++args) w K else hQ P l (first.toList++args) w λv w'=>cF w w'/\K v w'
 |_=>False
def aa(s:Sem x1)(w:x3)(K:x1->Prop):Prop:=∃v,(∀w',Ext w w'->s.run P w'= .ok v w')/\K v
def E5:List (Nat×Nat):=[(9,22),(22,22)]
def E6(s d:Nat):Bool:=E5.any λp=>S1 p.1 s&&S1 p.2 d
def i7(o:T5):Bool:=
 match o.op with
 | .convert s d _=>!E6 s d
 | .move _| .assign _| .pick .. | .load .. | .nilCheck _| .binOp .. | .unOp .. | .makeInterface .. | .makeFunc .. | .slice .. | .fieldAddr .. | .field ..
 | .indexAddr .. | .index .. | .lookup .. | .extract .. | .build .. | .typeAssert ..=>true
 | .call c=>
  match c.callee with
  | .builtin .len| .builtin .cap| .builtin .min| .builtin .max=>true
  |_=>false
 |_=>false
def cu(s:Sem x1)(v:x1)(w':x3):Prop:=∀a,Ext w' a->s.run P a= .ok v a
def lx(o:T5)(e:Env)(w:x3)(K:Env->(x3->Prop)->Prop):Prop:=
 bif known e (opsOf o.op)then
  match o.op with
  | .move x| .assign x=>
   match eJ e x with
   |some y=>K (dX e o.dst y) (λ_=>True)
   |none=>False
  | .pick c a b=>
   match eJ e c with
   |some (.b true)=>(match eJ e a with|some y=>K (dX e o.dst y) (λ_=>True)|none=>False)
   |some (.b false)=>(match eJ e b with|some y=>K (dX e o.dst y) (λ_=>True)|none=>False)
   |some (.v x)=>Split x (K (dX e o.dst (.v (cR e a))) (λ_=>True)) (K (dX e o.dst (.v (cR e b))) (λ_=>True))
   |some .u=>False
   |none=>False
  | .call c=>
   match c.callee with
   | .builtin b=>
    match ou b c.argTypes o.type (bG (cR e) c.args.toList).toArray with
    |some s=>aa P s w λv=>K (dX e o.dst (.v v)) (cu P s v)
    |none=>False
   |_=>False
  |op=>
   match pD (cR e) op with
   |some s=>aa P s w λv=>K (dX e o.dst (.v v)) (cu P s v)
   |none=>False
 else False
def tV(free:fy)(o:T5)(e:Env)(w:x3)(K:Env->x3->Prop):Prop:=
 bif known e (opsOf o.op)then
  match o.op with
  | .call c=>
   match c.callee with
   | .builtin b=>
    match ou b c.argTypes o.type (bG (cR e) c.args.toList).toArray with
    |some s=>aC P s w λv w'=>K (dX e o.dst (.v v)) w'
    |none=>False
   | .value (.func f)=>
    bif free.1 then gE P f (bG (cR e) c.args.toList) w λv w'=>K (dX e o.dst (.v v)) w'
    else ai P f (bG (cR e) c.args.toList) w λv w'=>K (dX e o.dst (.v v)) w'
   | .value x=>rj P free.1 (cR e x) (bG (cR e) c.args.toList) w λv w'=>K (dX e o.dst (.v v)) w'
   | .invoke _ _=>False
  | .next x str=>rg P free (Instr.next (cR e x) str 0) w λv w'=>K (dX e o.dst (.v v)) w'
  |op=>
   match pD (cR e) op with
   |some s=>aC P s w λv w'=>K (dX e o.dst (.v v)) w'
   |none=>
    match tT (cR e) op with
    |some s=>aC P s w λ_ w'=>K (dX e o.dst (.v undef)) w'
    |none=>False
 else False
def ov(free:fy)(o:T5)(e:Env)(w:x3)(K:Env->x3->Prop):Prop:=
 bif i7 o then lx P o e w (λa _=>K a w)else tV P free o e w K
theorem Enters.of{f:Q1}{fn:Func}{c:Code}(a:P.funcs[f]?=σ fn)(e:fn.body=σ c)(h:(fn.name == "runtime.NumGoroutine")=false):Enters P f:=by
 intro args w;have j:fn.name≠ "runtime.NumGoroutine":=by simpa using h
 unfold callFunc;simp[W6,program,Sem.run,W8,a,j,e,V4]
variable{P}
variable{N:Nat}{r:Option Nat}{o:T5}{e:Env}{a:Act}{w:x3}
theorem kc(f:S7 N e a)(hk:known e (opsOf o.op)=true)(I:∀cs b,o.op≠ .select cs b)(h:∀c,o.op≠ .go c:=by simp_all)(j:∀c,o.op≠ .defer c:=by simp_all):
  execOp a.eval o=execOp (cR e) o:=
 execOp_congr o I λx p=>f.eval (tQ hk x (E1 h j I x p))
theorem pE{next:Act->x3->Prop}{Q:Exit->Act->x3->Prop}(j:S7 N e a)(hk:known e (opsOf o.op)=true)(I:∀cs b,o.op≠ .select cs b)(f:∀c,o.op≠ .defer c){v:x1}{w':x3}(p:(execOp (cR e) o).run P w= .ok (.value v) w')(h:next (a.put o.dst v) w')(q:∀c,o.op≠ .go c:=by simp_all):o.wpIn (eu r) 0 P a w next Q:=by
 refine⟨λ_ _=>trivial,?_⟩;rw[T5.semAt_eq _ _ _ f,kc j hk I q f,p,T5.uponIn_value];exact h
theorem E7{next:Act->x3->Prop}{Q:Exit->Act->x3->Prop}(j:S7 N e a)(hk:known e (opsOf o.op)=true)(I:∀cs b,o.op≠ .select cs b)(f:∀c,o.op≠ .defer c){w':x3}(p:(execOp (cR e) o).run P w= .ok .skip w')(h:next (a.put o.dst undef) w')(q:∀c,o.op≠ .go c:=by simp_all):o.wpIn (eu r) 0 P a w next Q:=by
 refine⟨λ_ _=>trivial,?_⟩;rw[T5.semAt_eq _ _ _ f,kc j hk I q f,p,T5.uponIn_skip];exact h
def fi(N:Nat)(free:fy)(K:Env->x3->Prop)(o:T5)(a:Act)(w:x3)(a':Act)(w':x3):Prop:=
 ∃e v,K e w'/\S7 N e a'/\a'=a.put o.dst v/\(free.1=false->ct free.2 w w')
theorem fi.of{free:fy}{K:Env->x3->Prop}{x:eB}(f:K (dX e o.dst x) w')(h:S7 N e a)(j:jF N o.dst=true)(p:x.val=v)(q:free.1=false->ct free.2 w w'):fi N free K o a w (a.put o.dst v) w':=⟨_,v,f,h.put j p,rfl,q⟩
theorem xD{free:fy}{K:Env->x3->Prop}{Q:Exit->Act->x3->Prop}{f:Q1}{args:Array x1}(p:S7 N e a)(q:jF N o.dst=true)(h:Calls P f args w λj w'=>∃v,j= .returned v/\(free.1=false->ct free.2 w w')/\K (dX e o.dst (.v v)) w'):
  o.uponIn (eu r) 0 P a (fi N free K o a w) Q (.ok (.enter f args) w):=by
 rw[T5.uponIn_enter];refine⟨tR _ _,CallsIn.mono (xB h) ?_⟩;rintro j w' ⟨v,rfl,s,x⟩;exact fi.of x p q rfl s
theorem ly{x:S5}{y:eB}(h:eJ e x=σ y):cR e x=y.val:=by simp[cR,h]
theorem xE{l:List S5}{x:S5}(hk:known e l=true)(a:x∈l):∃y,eJ e x=σ y:=Option.isSome_iff_exists.1 (tQ hk x a)
theorem xF{K:Env->(x3->Prop)->Prop}(h:lx P o e w K)(A:S7 N e a)(L:jF N o.dst=true):
  ∃v,∃st:x3->Prop,(∀w',Ext w w'->(execOp a.eval o).run P w'= .ok (.value v) w')/\(∃B,K B st/\S7 N B (a.put o.dst v))/\(∀c,o.op≠ .defer c)/\
   (∀w',st w'->∀j,Ext w' j->(execOp a.eval o).run P j= .ok (.value v) j):=by
 unfold lx at h;cases hk:known e (opsOf o.op)with
 |false=>rw[hk]at h;exact h.elim
 |true=>
  rw[hk]at h;simp only[cond_true]at h;have put:∀{x:eB}{v:x1}{st:x3->Prop},K (dX e o.dst x) st->x.val=v->∃B,K B st/\S7 N B (a.put o.dst v):=λh1 C=>⟨_,h1,A.put L C⟩;cases f:o.op with
  |move x=>
   rw[f]at h;simp only at h;cases q:eJ e x with
   |none=>rw[q]at h;exact h.elim
   |some y=>
    rw[q]at h;have all:∀w':x3,(execOp a.eval o).run P w'= .ok (.value y.val) w':=λw'=>by
     rw[kc A hk (by simp[f])];unfold execOp;simp only[f,V4,ly q]
    exact⟨y.val,_,λw' _=>all w',put h rfl,Ξ,λ_ _ j _=>all j⟩
  |assign x=>
   rw[f]at h;simp only at h;cases q:eJ e x with
   |none=>rw[q]at h;exact h.elim
   |some y=>
    rw[q]at h;have all:∀w':x3,(execOp a.eval o).run P w'= .ok (.value y.val) w':=λw'=>by
     rw[kc A hk (by simp[f])];unfold execOp;simp only[f,V4,ly q]
    exact⟨y.val,_,λw' _=>all w',put h rfl,Ξ,λ_ _ j _=>all j⟩
  |pick c x y=>
   rw[f]at h;simp only at h;have F:=hk;rw[f]at F;obtain⟨R,q⟩:=xE F (x:=x) (by simp[opsOf]);obtain⟨S,J⟩:=xE F (x:=y) (by simp[opsOf]);have E:∀(t:Bool)(w':x3),cR e c= .bool t->(execOp a.eval o).run P w'= .ok (.value (if t=true then cR e x else cR e y)) w':=by
    intro t w' G;rw[kc A hk (by simp[f])];unfold execOp;simp[f,G,asBool,V4]
   cases p:eJ e c with
   |none=>rw[p]at h;exact h.elim
   |some M=>
    rw[p]at h;cases M with
    |b t=>
     cases t with
     |true=>
      simp only[q]at h;exact⟨_,_,λw' _=>E true w' (ly p),put h (by simp[ly q]),Ξ,λ_ _ w' _=>E true w' (ly p)⟩
     |false=>
      simp only[J]at h;exact⟨_,_,λw' _=>E false w' (ly p),put h (by simp[ly J]),Ξ,λ_ _ w' _=>E false w' (ly p)⟩
    |v z=>
     obtain⟨t,O,G,Q⟩:=h;have r:=λw'=>E t w' (by rw[ly p];exact O);cases t with
     |true=>exact⟨_,_,λw' _=>r w',put (G rfl) rfl,Ξ,λ_ _ w' _=>r w'⟩
     |false=>exact⟨_,_,λw' _=>r w',put (Q rfl) rfl,Ξ,λ_ _ w' _=>r w'⟩
    |u=>exact h.elim
  |call c=>
   rw[f]at h;simp only at h;cases p:c.callee with
   |builtin b=>
    rw[p]at h;simp only at h;rw[tS]at h;cases I:ou b c.argTypes o.type (c.args.map (cR e))with
    |none=>rw[I]at h;exact h.elim
    |some s=>
     rw[I]at h;obtain⟨v,r,H⟩:=h;have all:∀w':x3,s.run P w'= .ok v w'->(execOp a.eval o).run P w'= .ok (.value v) w':=λw' r=>by
      rw[kc A hk (by simp[f])];unfold execOp;cases b<;>simp only[ou]at I<;>first|(cases I;done)|(cases I;simp[f,p,resolve,invoke,builtin,r,W8])
     exact⟨v,_,λw' hw=>all w' (r w' hw),put H rfl,Ξ,λw' h1 j C=>all j (h1 j C)⟩
   |value x=>rw[p]at h;exact h.elim
   |invoke x m=>rw[p]at h;exact h.elim
  |_=>
   rw[f]at h
   first
    |(simp only[pD]at h;done)
    |(obtain⟨v,r,H⟩:=h
      refine⟨v,_,λw' hw=>?_,put H rfl,Ξ,λw' h1 j C=>?_⟩
      .rw[kc A hk (by simp[f])];exact tU P (by rw[f];rfl) (r w' hw)
      .rw[kc A hk (by simp[f])];exact tU P (by rw[f];rfl) (h1 j C))
theorem E8{free:fy}{K:Env->x3->Prop}{Q:Exit->Act->x3->Prop}(h:tV P free o e w K)(p:S7 N e a)(C:jF N o.dst=true):
  o.wpIn (eu r) 0 P a w (fi N free K o a w) Q:=by
 unfold tV at h;cases hk:known e (opsOf o.op)with
 |false=>rw[hk]at h;exact h.elim
 |true=>
  rw[hk]at h;simp only[cond_true]at h;cases j:o.op with
  |call c=>
   rw[j]at h;simp only at h;cases E:c.callee with
   |builtin b=>
    rw[E]at h;simp only at h;rw[tS]at h;cases I:ou b c.argTypes o.type (c.args.map (cR e))with
    |none=>rw[I]at h;exact h.elim
    |some s=>
     rw[I]at h;obtain⟨v,w',q,A,B⟩:=h;refine pE p hk (by simp[j]) (by simp[j]) (v:=v) (w':=w') ?_ (fi.of B p C rfl λ_=>A.b);unfold execOp;cases b<;>simp only[ou]at I<;>first|(cases I;done)|(cases I;simp[j,E,resolve,invoke,builtin,q,W8])
   |value x=>
    rw[E]at h;have step:∀(d:Deferred)(y:x1),cR e x=y->Deferred.ofValue y (c.args.map (cR e))=pure d->
      (invoke d.target d.args).run P w=(execOp (cR e) o).run P w:=by
     intro d y z S;unfold execOp;simp only[j,E,resolve,z,S,W6,V4,W8]
    have H:∀(g:Q1)(first cap:Array x1),cR e x= .func (.func g) first cap->
      (execOp (cR e) o).run P w=(callFunc g (first.toList++bG (cR e) c.args.toList++cap.toList).toArray).run P w:=by
     intro g first cap z
     rw[<-step {target:=.fn (.func g) cap,args:=first++c.args.map (cR e)} _ z rfl];simp only[invoke];have J:first++c.args.map (cR e)++cap=(first.toList++bG (cR e) c.args.toList++cap.toList).toArray:=by apply Array.toList_inj.1;simp[ri]
     rw[J]
    have enter:∀(g:Q1)(first cap:Array x1),cR e x= .func (.func g) first cap->Enters P g->
      (execOp (cR e) o).run P w= .ok (.enter g (first.toList++bG (cR e) c.args.toList++cap.toList).toArray) w:=by
     intro g first cap z F
     rw[H g first cap z,F]
    have go:∀(g:Q1)(first cap:Array x1),cR e x= .func (.func g) first cap->
      (bif free.1 then gE P g (first.toList++bG (cR e) c.args.toList++cap.toList) w λv w'=>K (dX e o.dst (.v v)) w'
       else ai P g (first.toList++bG (cR e) c.args.toList++cap.toList) w λv w'=>K (dX e o.dst (.v v)) w')->
      o.wpIn (eu r) 0 P a w (fi N free K o a w) Q:=by
     intro g first cap z h
     obtain⟨fr,T⟩:=free;cases fr with
     |true=>
      rcases h with⟨F,L⟩|⟨v,w',q,B⟩
      .refine⟨λ_ _=>trivial,?_⟩;rw[T5.semAt_eq _ _ _ (by simp[j]),kc p hk (by simp[j])];rw[enter g first cap z F];exact xD p C (L.mono λG w' ⟨v,h1,M⟩=>⟨v,h1,(λh=>by cases h),M⟩)
      .rw[<-H g first cap z]at q;exact pE p hk (by simp[j]) (by simp[j]) q (fi.of B p C rfl λh=>by cases h)
     |false=>
      rcases h with⟨F,L⟩|⟨v,w',q,A,B⟩
      .refine⟨λ_ _=>trivial,?_⟩;rw[T5.semAt_eq _ _ _ (by simp[j]),kc p hk (by simp[j])];rw[enter g first cap z F];exact xD p C (L.mono λG w' ⟨v,h1,A,M⟩=>⟨v,h1,λ_=>A.b,M⟩)
      .rw[<-H g first cap z]at q;exact pE p hk (by simp[j]) (by simp[j]) q (fi.of B p C rfl λ_=>A.b)
    have O:rj P free.1 (cR e x) (bG (cR e) c.args.toList) w (λv w'=>K (dX e o.dst (.v v)) w')->
      o.wpIn (eu r) 0 P a w (fi N free K o a w) Q:=by
     intro h;unfold rj at h;split at h
     .rename_i g first cap z
      exact go g first cap z h
     .rename_i l first cap z
      obtain⟨fn,tmps,R,body,U,V⟩:hQ P l (first.toList++bG (cR e) c.args.toList) w λv w'=>(free.1=false->ct free.2 w w')/\K (dX e o.dst (.v v)) w':=by
       obtain⟨fr,T⟩:=free;cases fr with
       |true=>exact hQ.mono h.2 λv w' hk=>⟨(λh=>by cases h),hk⟩
       |false=>exact hQ.mono h λv w' hk=>⟨λ_=>hk.1.b,hk.2⟩
      refine⟨λ_ _=>trivial,?_⟩;rw[T5.semAt_eq _ _ _ (by simp[j]),kc p hk (by simp[j])];have:(execOp (cR e) o).run P w= .ok (.round l fn tmps R body) w:=by
       rw[<-step {target:=.fn (.yield l) cap,args:=first++c.args.map (cR e)} _ z rfl,<-U];have J:(first.toList++bG (cR e) c.args.toList).toArray=first++c.args.map (cR e):=by apply Array.toList_inj.1;simp[ri]
       rw[J];rfl
      rw[this,T5.uponIn_round];refine⟨tR _ _,?_⟩;have W:RoundIn (eu r) (0-1) P l fn tmps R body w λG w'=>∃v,G= .returned v/\(free.1=false->ct free.2 w w')/\K (dX e o.dst (.v v)) w':=V;refine RoundIn.mono W ?_;rintro G w' ⟨v,rfl,A,B⟩;exact fi.of B p C rfl A
     .exact h.elim
    cases x with
    |func f=>exact go f #[] #[] rfl (by simpa using h)
    |tmp t=>exact O h
    |const v=>exact O h
    |global g=>exact O h
   |invoke x m=>rw[E]at h;exact h.elim
  |next x str=>
   rw[j]at h;obtain⟨v,w',q,A,B⟩:=h;refine pE p hk (by simp[j]) (by simp[j]) (v:=v) (w':=w') ?_ (fi.of B p C rfl A);rw[E3 _ _ o.type]at q;unfold execOp;simp only[j,W6,q,W8,V4]
  |_=>
   rw[j]at h
   first
    |(simp only[pD,tT]at h;done)
    |(obtain⟨v,w',q,A,B⟩:=h
      exact pE p hk (by simp[j]) (by simp[j]) (tU P (by rw[j];rfl) q) (fi.of B p C rfl λ_=>A.b))
    |(obtain⟨v,w',q,A,B⟩:=h
      exact E7 p hk (by simp[j]) (by simp[j]) (E4 P (by rw[j];rfl) q) (fi.of B p C rfl λ_=>A.b))
theorem rk{free:fy}{K:Env->x3->Prop}{Q:Exit->Act->x3->Prop}(h:ov P free o e w K)(j:S7 N e a)(p:jF N o.dst=true):
  o.wpIn (eu r) 0 P a w (fi N free K o a w) Q:=by
 unfold ov at h;cases q:i7 o with
 |false=>rw[q]at h;exact E8 h j p
 |true=>
  rw[q]at h;have h:lx P o e w (λf _=>K f w):=h;obtain⟨v,st,s,⟨f,x,y⟩,z,_⟩:=xF h j p;refine⟨λ_ _=>trivial,?_⟩;rw[T5.semAt_eq _ _ _ z,s w (Ext.refl _),T5.uponIn_value];exact⟨f,v,x,y,rfl,λ_=>ct.refl _ _⟩
end
section
variable{P:W9}
def Still{α:Type}(P:W9)(s:Sem α):Prop:=∀w v J,s.run P w= .ok v J->J=w/\∀w',s.run P w'= .ok v w'
theorem Still.pure{α:Type}(a:α):Still P (Pure.pure a:Sem α):=λw v J h=>by
 rw[V4]at h;cases h;exact⟨rfl,λw'=>by rw[V4]⟩
theorem Still.bind{α β:Type}{s:Sem α}{f:α->Sem β}(I:Still P s)(j:∀a,Still P (f a)):Still P (s >>= f):=λw v J h=>by
 rw[W6]at h;cases e:s.run P w with
 |halt x U=>rw[e]at h;simp[W8]at h
 |ok a U=>
  rw[e]at h;obtain⟨rfl,p⟩:=I w a U e;obtain⟨rfl,q⟩:=j a _ v J h;exact⟨rfl,λw'=>by rw[W6,p w'];exact q w'⟩
theorem Still.never{α:Type}{s:Sem α}(h:∀w v J,s.run P w≠ .ok v J):Still P s:=λw v J h'=>absurd h' (h w v J)
theorem Still.stuck{α:Type}(m:String):Still P (stuck m:Sem α):=.never λw v J h=>by simp[Go.stuck]at h
theorem Still.unsupported{α:Type}(m):Still P (unsupported m:Sem α):=.never λw v J h=>by simp[Go.unsupported]at h
theorem Still.program:Still P program:=λw v J h=>by cases h;exact⟨rfl,λ_=>rfl⟩
theorem Still.underlying(t:r9):Still P (underlying t):=Still.bind .program λp=>by
 cases p.underlying t with
 |some d=>exact Still.pure d
 |none=>exact Still.stuck _
theorem Still.typeInfo(t:r9):Still P (typeInfo t):=Still.bind .program λp=>by
 cases p.info? t with
 |some d=>exact Still.pure d
 |none=>exact Still.stuck _
theorem Still.sizeOf(t:r9):Still P (sizeOf t):=Still.bind (.typeInfo t) λ_=>Still.pure _
theorem Still.boundsPanic{α:Type}(k:o4)(x y:Int)(c:BoundsCode):Still P (boundsPanic k x y c:Sem α):=.never λw v J h=>by
 have e:∀(s:Sem Bool)(w:x3)(v:α)(J:x3),(s >>= λb=>(runtimePanic (.bounds (X7.wrap x) y b c):Sem α)).run P w≠ .ok v J:=by
  intro s w v J h;rw[W6]at h;cases f:s.run P w with
  |halt x U=>rw[f]at h;simp[W8]at h
  |ok a U=>rw[f]at h;simp[W8,Go.runtimePanic,Go.goPanic]at h
 unfold Go.boundsPanic at h;dsimp only at h;split at h
 .exact e _ _ _ _ h
 .exact e _ _ _ _ h
theorem Still.asIntOf(v:x1):Still P (asIntOf v):=by
 unfold Go.asIntOf;split
 .exact Still.pure _
 .exact Still.unsupported _
 .exact Still.stuck _
theorem Still.sureAddr(v:x1):Still P (Instr.sureAddr v):=by
 unfold Instr.sureAddr;split
 .exact Still.pure _
 .exact Still.stuck _
theorem Still.extract(v:x1)(i:Nat):Still P (Y3 v i):=by
 unfold Y3;split
 .split
  .exact Still.pure _
  .exact Still.stuck _
 .exact Still.stuck _
theorem Still.indexAt(t:r9)(x i:x1):Still P (j5 t x i):=by
 have tail:∀(t:r9)(k:o4)(i:Int)(base:Option Addr)(len:Nat)(e:r9),Still P (do
   let f:=len<=1&&(match <-Go.underlying t with| .array ..=>true|_=>false)
   match base with
   |some a=>
    if 0<=i/\i<len then Pure.pure (x1.pointer (σ (a.add (i.toNat*(<-Go.sizeOf e)))))
    else if f then Go.unsupported (.noEntry "op/indexAddr.an index out of range at an array of length 0 or 1 (ledger 616)")
    else Go.boundsPanic k i len .index
   |none=>Go.boundsPanic k i 0 .index):=by
  intro t k i base len e;refine .bind (.underlying t) λd=>?_;cases base with
  |none=>exact Still.boundsPanic _ _ _ _
  |some a=>
   dsimp only;split
   .exact .bind (.sizeOf e) λ_=>.pure _
   .split<;>split<;>first|exact Still.unsupported _|exact Still.boundsPanic _ _ _ _
 unfold j5;refine .bind (.asIntOf i) λh=>?_;refine .bind (.underlying t) λd=>?_;split
 .refine .bind (.sureAddr _) λb=>?_;refine .bind (.pure _) λy=>?_;exact tail _ _ _ _ _ _
 .refine .bind (.pure _) λy=>?_;exact tail _ _ _ _ _ _
 .refine .bind (.stuck _) λy=>?_;exact tail _ _ _ _ _ _
end
section
variable(P:W9)
def rl(free:fy)(ops:Array T5)(o:T5)(e:Env)(w:x3)(K:Env->x3->Prop):Prop:=
 match o.guard with
 |none=>ov P free o e w K
 |some (j,b)=>
  match(ops[j]?).bind (·.dst)with
  |none=>False
  |some s=>
   match look e s with
   |some (.b c)=>bif xor c b then K (dX e o.dst .u) w else ov P free o e w K
   |some (.v x)=>
    Split x (bif b then ov P free o ((s,.b true)::e) w K else K (dX ((s,.b true)::e) o.dst .u) w)
     (bif b then K (dX ((s,.b false)::e) o.dst .u) w else ov P free o ((s,.b false)::e) w K)
   |some .u=>K (dX e o.dst .u) w
   |none=>False
def ow(free:fy)(ops:Array T5):List T5->Env->x3->(Env->x3->Prop)->Prop
 |[],e,w,K=>K e w
 |o::l,e,w,K=>rl P free ops o e w λa w'=>ow free ops l a w' K
def tW(ops:Array T5)(o:T5)(e:Env)(w:x3)(K:Env->(x3->Prop)->Prop):Prop:=
 match o.guard with
 |none=>lx P o e w K
 |some (j,b)=>
  match(ops[j]?).bind (·.dst)with
  |none=>False
  |some s=>
   match look e s with
   |some (.b c)=>bif xor c b then K (dX e o.dst .u) (λ_=>True)else lx P o e w K
   |some (.v x)=>
    Split x (bif b then lx P o ((s,.b true)::e) w K else K (dX ((s,.b true)::e) o.dst .u) (λ_=>True))
     (bif b then K (dX ((s,.b false)::e) o.dst .u) (λ_=>True)else lx P o ((s,.b false)::e) w K)
   |some .u=>K (dX e o.dst .u) (λ_=>True)
   |none=>False
def lz(o:T5):Bool:=
 match o.op with
 | .move _| .assign _| .extract .. | .indexAddr ..=>true
 |_=>false
def ma(ops:Array T5):List Nat->Option Nat
 |[]=>ν
 |i::r=>match ops[i]? with
  |some o=>bif i7 o then σ i else ma ops r
  |none=>ma ops r
def tX(p:Nat->Prop):List Nat->Prop
 |[]=>True
 |[i]=>p i
 |i::r=>p i/\tX p r
def kK(bs:Array Nat)(j k:Nat):Bool:=!(S1 k j)&&(!((bs.getD j 0).testBit k)&& !((bs.getD k 0).testBit j))
def pF(same:Bool)(q:Nat)(w:x3)(st:x3->Prop)(a:List (x3×List (Nat×(x3->Prop)))):List (x3×List (Nat×(x3->Prop))):=
 match same,a with
 |true,g::r=>(g.1,(q,st)::g.2)::r
 |_,a=>(w,[(q,st)])::a
def pG(bs:Array Nat)(j:Nat):List (Nat×(x3->Prop))->Bool
 |[]=>false
 |x::r=>kK bs j x.1||pG bs j r
def ox(bs:Array Nat)(j:Nat)(w':x3):List (Nat×(x3->Prop))->Prop
 |[]=>True
 |x::r=>bif kK bs j x.1 then x.2 w'/\ox bs j w' r else ox bs j w' r
def m4(bs:Array Nat)(j:Nat)(w':x3)(C:Prop):List (x3×List (Nat×(x3->Prop)))->Prop
 |[]=>C
 |g::r=>bif pG bs j g.2 then(Ext g.1 w'\/ox bs j w' g.2)/\m4 bs j w' C r else m4 bs j w' C r
def mb(free:fy)(ops:Array T5)(bs:Array Nat):Nat->Array Bool->Bool->List (x3×List (Nat×(x3->Prop)))->Env->x3->(Env->x3->Prop)->Prop
 |0,a,_,_,e,w,K=>match Region.ready .any ops a with|[]=>K e w|_=>False
 |fuel+1,a,same,f,e,w,K=>
  match Region.ready .any ops a with
  |[]=>K e w
  |i::r=>
   match ma ops (i::r)with
   |some q=>
    bif Region.free .any ops a q then
     match ops[q]? with
     |some o=>tW P ops o e w λh st=>
       bif lz o then mb free ops bs fuel (a.setIfInBounds q true) same f h w K
       else mb free ops bs fuel (a.setIfInBounds q true) true (pF same q w st f) h w K
     |none=>False
    else False
   |none=>
    tX (λj=>match ops[j]? with
     |some o=>rl P free ops o e w λh w'=>m4 bs j w' (mb free ops bs fuel (a.setIfInBounds j true) false f h w' K) f
     |none=>False) (i::r)
def tY(free:fy)(ops:Array T5)(e:Env)(w:x3)(K:Env->x3->Prop):Prop:=
 bif Region.noSelect ops then mb P free ops (Region.before ops) ops.size (Array.replicate ops.size false) false [] e w K else False
end
section
variable{P:W9}{N:Nat}{r:Option Nat}{free:fy}{ops:Array T5}
theorem E9{e:Env}{a:Act}(p:S7 N e a){s:Nat}{c:Bool}(q:(ops[j]?).bind (·.dst)=σ s){x:eB}(I:look e s=σ x)(r:x.val= .bool c):
  yielded ops a.tmps j=σ c:=by
 have h:=p.2 s x I;rw[r]at h;have w:a.tmps[s]?=σ (.bool c):=by
  rw[Array.getD_eq_getD_getElem?]at h;cases f:a.tmps[s]? with
  |none=>rw[f]at h;simp[undef]at h
  |some y=>rw[f]at h;simpa using h
 simp[yielded,q,w]
theorem rm{e:Env}{a:Act}(f:S7 N e a){o:T5}{s:Nat}{b c:Bool}(h:o.guard=σ (j,b))(p:(ops[j]?).bind (·.dst)=σ s){x:eB}(I:look e s=σ x)(q:x.val= .bool c):Region.wanted o (yielded ops a.tmps)= !(xor c b):=by
 simp only[Region.wanted,h,E9 f p I q];cases c<;>cases b<;>rfl
theorem xG{e:Env}{a:Act}(p:S7 N e a){o:T5}{s:Nat}{b:Bool}(q:o.guard=σ (j,b))(r:(ops[j]?).bind (·.dst)=σ s)(I:look e s=σ .u):Region.wanted o (yielded ops a.tmps)=false:=by
 have h:=p.2 s .u I;have w:yielded ops a.tmps j=ν:=by
  rw[Array.getD_eq_getD_getElem?]at h;unfold yielded;rw[r];cases f:a.tmps[s]? with
  |none=>simp[f]
  |some y=>
   rw[f]at h;simp only[V8,eB.val]at h;subst h;simp[f,undef]
 simp[Region.wanted,q,w]
theorem S7.lit{e:Env}{a:Act}(h:S7 N e a){s:Nat}{x:eB}{c:Bool}(I:look e s=σ x)(p:x.val= .bool c):S7 N ((s,.b c)::e) a:=by
 refine⟨h.1,λt y f=>?_⟩;simp only[look]at f;cases j:S1 s t with
 |true=>
  have:s=t:=Nat.eq_of_beq_eq_true j;subst this;simp only[j,cond_true,X0]at f;subst f;rw[h.2 s x I,p];rfl
 |false=>simp only[j,cond_false]at f;exact h.2 t y f
theorem xH{o:T5}{e:Env}{a:Act}{K:Env->x3->Prop}{Q:Exit->Act->x3->Prop}(h:rl P free ops o e w K)(f:S7 N e a)(p:jF N o.dst=true):
  (Region.wanted o (yielded ops a.tmps)=true/\o.wpIn (eu r) 0 P a w (fi N free K o a w) Q)\/
  (Region.wanted o (yielded ops a.tmps)=false/\fi N free K o a w (a.put o.dst undef) w):=by
 unfold rl at h;cases q:o.guard with
 |none=>rw[q]at h;exact .inl ⟨by simp[Region.wanted,q],rk h f p⟩
 |some F=>
  obtain⟨j,b⟩:=F;rw[q]at h;simp only at h;cases z:(ops[j]?).bind (·.dst)with
  |none=>rw[z]at h;exact h.elim
  |some s=>
   rw[z]at h;simp only at h;cases I:look e s with
   |none=>rw[I]at h;exact h.elim
   |some x=>
    rw[I]at h;cases x with
    |b c=>
     simp only at h;have hw:=rm f q z I (c:=c) rfl;cases E:xor c b with
     |true=>
      rw[E]at h hw;exact .inr ⟨hw,fi.of h f p rfl λ_=>ct.refl _ _⟩
     |false=>
      rw[E]at h hw;exact .inl ⟨hw,rk h f p⟩
    |v y=>
     simp only at h;obtain⟨c,rfl,A,B⟩:=h;have hw:=rm f q z I (c:=c) rfl;have C:=f.lit I (c:=c) rfl;cases c with
     |true=>
      have A:=A rfl;cases b with
      |true=>exact .inl ⟨hw,rk A C p⟩
      |false=>exact .inr ⟨hw,fi.of A C p rfl λ_=>ct.refl _ _⟩
     |false=>
      have B:=B rfl;cases b with
      |true=>exact .inr ⟨hw,fi.of B C p rfl λ_=>ct.refl _ _⟩
      |false=>exact .inl ⟨hw,rk B C p⟩
    |u=>exact .inr ⟨xG f q z I,fi.of h f p rfl λ_=>ct.refl _ _⟩
def gF(D:List Nat)(a a':Act):Prop:=a'.defers=a.defers/\∀t,t∉D->a'.tmps.getD t undef=a.tmps.getD t undef
theorem gF.refl(D:List Nat)(a:Act):gF D a a:=⟨rfl,λ_ _=>rfl⟩
theorem gF.trans{a b c:Act}(h:gF D a b)(k:gF D b c):gF D a c:=⟨k.1.trans h.1,λt e=>(k.2 t e).trans (h.2 t e)⟩
theorem gF.put(a:Act){d:Option Tmp}(v:x1)(e:∀t,d=σ t->t∈D):gF D a (a.put d v):=by
 cases d with
 |none=>exact gF.refl _ _
 |some s=>
  refine⟨rfl,λt f=>?_⟩;have j:s≠t:=λh=>f (h▸e s rfl);simp only[Act.put,Array.getD_eq_getD_getElem?];rw[Array.getElem?_setIfInBounds_ne j]
def mc(N:Nat)(free:fy)(K:Env->x3->Prop)(D:List Nat)(a:Act)(w:x3)(a':Act)(w':x3):Prop:=
 ∃e,K e w'/\S7 N e a'/\gF D a a'/\(free.1=false->ct free.2 w w')
theorem mc.step{K:Env->x3->Prop}{a e a':Act}{J:x3}(h:mc N free K D e J a' w')(hk:gF D a e)(j:free.1=false->ct free.2 w J):
  mc N free K D a w a' w':=by
 obtain⟨p,h1,q,r,s⟩:=h;exact⟨p,h1,q,hk.trans r,λf=>(j f).trans (s f)⟩
def m8(N:Nat)(l:List T5):Bool:=l.all λo=>jF N o.dst
theorem Fa{K:Env->x3->Prop}{Q:Exit->Act->x3->Prop}(B:∀o∈ops.toList,∀t,o.dst=σ t->t∈D)(y:m8 N ops.toList=true):
  ∀(l:List T5)(k:Nat)(e:Env)(a:Act)(w:x3),(∀j,l[j]?=ops[k+j]?)->ow P free ops l e w K->S7 N e a->
   (∀a' w',mc N free K D a w a' w'->Q .normal a' w')->wpOpsIn (eu r) 0 P ops Q (List.range' k l.length) a w:=by
 intro l;induction l with
 |nil=>
  intro k e a w _ h f p;exact p a w ⟨e,h,f,gF.refl _ _,λ_=>ct.refl _ _⟩
 |cons o l C=>
  intro k e a w z h f p;have q:=z 0;simp only[List.getElem?_cons_zero,Nat.add_zero]at q;have A:o∈ops.toList:=by
   have:=q.symm;rw[<-S8]at this;exact x5 this
  have E:jF N o.dst=true:=by
   simp only[m8,List.all_eq_true]at y;exact y o A
  have F:∀j,l[j]?=ops[k+1+j]?:=λj=>by
   have:=z (j+1);rw[List.getElem?_cons_succ]at this;rw[this];congr 1;omega
  have next:∀s J,fi N free (λG w'=>ow P free ops l G w' K) o a w s J->wpOpsIn (eu r) 0 P ops Q (List.range' (k+1) l.length) s J:=by
   rintro s J ⟨H,v,I,L,rfl,M⟩;refine C (k+1) H _ J F I L λa' w' O=>p a' w' (O.step (gF.put a v λt R=>B o A t R) M)
  simp only[ow]at h;show wpOpsIn (eu r) 0 P ops Q (k::List.range' (k+1) l.length) a w;unfold wpOpsIn;rw[<-q];simp only;rcases xH (r:=r) (Q:=Q) h f E with⟨hw,x⟩|⟨hw,x⟩
  .rw[if_pos hw];exact T5.wpIn_mono next x
  .rw[hw];exact⟨λ_ _=>trivial,next _ _ x⟩
theorem Fb{K:Env->x3->Prop}{Q:Exit->Act->x3->Prop}{id:Nat}{e:Env}{a:Act}(f:∀o∈ops.toList,∀t,o.dst=σ t->t∈D)(p:m8 N ops.toList=true)(h:ow P free ops ops.toList e w K)(q:S7 N e a)(s:∀a' w',mc N free K D a w a' w'->Q .normal a' w'):
  (Code.region id ops false).wpIn (eu r) 0 P Q a w:=by
 refine wpIn_region ?_;have:=Fa (r:=r) f p ops.toList 0 e a w (λj=>Ξ) h q s;rw[List.range_eq_range'];simpa using this
end
section
variable{P:W9}{N:Nat}{r:Option Nat}{free:fy}{ops:Array T5}{Q:Exit->Act->x3->Prop}
theorem Fc(e:Option Nat)(o:T5)(I:∀cs b,o.op≠ .select cs b)(a:Act)(d:Option Tmp)(v:x1)(h:∀t,d=σ t->t∉o.looksAt ops):
  o.semAt e (a.put d v).eval=o.semAt e a.eval:=by
 have he:=execOp_put o I a d v h;unfold T5.semAt;split
 .rename_i l c f;have:resolve (a.put d v).eval c o.type=resolve a.eval c o.type:=resolve_congr c o.type λx j=>Act.eval_put λt p q=>h t p (by
   subst q;refine List.mem_append_left _ (List.mem_filterMap.2 ⟨.tmp t,?_,rfl⟩);rw[f];simpa[Op.operands]using j)
  rw[this]
 .exact he
def md(o:T5)(w0:x3)(st:x3->Prop)(w':x3):Prop:=lz o=true\/Ext w0 w'\/∃J,st J/\Ext J w'
theorem md.ext{o:T5}{w0:x3}{st:x3->Prop}(h:md o w0 st w)(k:Ext w w'):md o w0 st w':=by
 rcases h with h|h|⟨J,h1,a⟩
 .exact .inl h
 .exact .inr (.inl (h.trans k))
 .exact .inr (.inr ⟨J,h1,a.trans k⟩)
theorem Fe{o:T5}(hm:lz o=true){e:S5->x1}(h:(execOp e o).run P w= .ok (.value v) w):(execOp e o).run P w'= .ok (.value v) w':=by
 unfold lz at hm;split at hm
 .rename_i x a;unfold execOp at h ⊢;simp only[a,V4,Result.ok.injEq,and_true]at h ⊢;exact h
 .rename_i x a;unfold execOp at h ⊢;simp only[a,V4,Result.ok.injEq,and_true]at h ⊢;exact h
 .rename_i x i a;unfold execOp at h ⊢;simp only[a]at h ⊢;exact((Still.bind (Still.extract _ _) λ_=>Still.pure _) _ _ _ h).2 _
 .rename_i t x i a;unfold execOp at h ⊢;simp only[a]at h ⊢;exact((Still.bind (Still.indexAt _ _ _) λ_=>Still.pure _) _ _ _ h).2 _
 .cases hm
def h8(P:W9)(ops:Array T5)(o:T5)(v:x1)(a:Act)(w0:x3->Prop):Prop:=
 (Region.wanted o (yielded ops a.tmps)=true/\(∀c,o.op≠ .defer c)/\∀w',w0 w'->(execOp a.eval o).run P w'= .ok (.value v) w')\/
 (Region.wanted o (yielded ops a.tmps)=false/\v=undef)
theorem h8.put{o e:T5}{a:Act}{w0:x3->Prop}(f:h8 P ops o v a w0)(I:∀cs b,o.op≠ .select cs b)(h:∀t,e.dst=σ t->t∉o.looksAt ops)(u:x1):
  h8 P ops o v (a.put e.dst u) w0:=by
 unfold h8 at*;rw[execOp_put o I a e.dst u h,wanted_put o a e.dst u h];exact f
theorem h8.go{i:Nat}{e:T5}{a:Act}{w0:x3->Prop}(hi:ops[i]?=σ e)(f:h8 P ops e v a w0)(hw:w0 w){K:Act->x3->Prop}(h:K (a.put e.dst v) w):
  wpOpIn (eu r) 0 P ops Q i K a w:=by
 unfold wpOpIn;simp only[hi];rcases f with⟨h1,j,p⟩|⟨h1,rfl⟩
 .rw[if_pos h1];refine⟨λ_ _=>trivial,?_⟩;rw[T5.semAt_eq _ _ _ j,p w hw,T5.uponIn_value];exact h
 .rw[h1];exact⟨λ_ _=>trivial,h⟩
theorem Ff{p s:T5}(B:ops[j]?=σ s)(C:p.apart ops s=true)(E:∀cs b,p.op≠ .select cs b)(F:∀cs b,s.op≠ .select cs b)(z:∀c a w,¬Q (.panic c) a w){K:Act->x3->Prop}{a:Act}{w:x3}{w0:x3->Prop}(q:h8 P ops p v a w0)(h:wpOpIn (eu r) 0 P ops Q j K (a.put p.dst v) w):
  wpOpIn (eu r) 0 P ops Q j (λa' w'=>h8 P ops p v a' w0/\K (a'.put p.dst v) w') a w:=by
 obtain⟨h1,y,G⟩:=T5.apart_spec C;have aY:∀(a:Act),h8 P ops p v a w0->∀u,h8 P ops p v (a.put s.dst u) w0:=λa q u=>q.put E G u;have H:∀d,h8 P ops p v {a with defers:=d::a.defers} w0:=λd=>q;unfold wpOpIn at*;simp only[B]at*;rw[wanted_put s a p.dst v h1]at h;split
 .rename_i hw;simp only[hw,if_true]at h;obtain⟨_,h⟩:=h;refine⟨λ_ _=>trivial,?_⟩;rw[Fc _ s F a p.dst v h1]at h;generalize (s.semAt (eu r).round a.eval).run P w=res at*;cases res with
  |ok n w'=>
   cases n<;>simp only[T5.uponIn]at h ⊢
   case value u=>exact⟨aY a q u,by rw[<-Act.put_comm a v u y];exact h⟩
   case skip=>exact⟨aY a q _,by rw[<-Act.put_comm a v undef y];exact h⟩
   case defer d=>
    refine⟨aY _ (H d) _,?_⟩;rw[<-Act.put_comm _ v undef y,<-Act.put_defers];exact h
   case enter f args=>
    refine⟨h.1,CallsIn.mono h.2 λe A he=>?_⟩;cases e with
    |returned u=>exact⟨aY a q u,by rw[<-Act.put_comm a v u y];exact he⟩
    |panicked c=>exact absurd he (z _ _ _)
    |outgrown=>exact he
   case row row args=>exact⟨h.1,RowsIn.mono h.2 λu A he=>⟨aY a q u,by rw[<-Act.put_comm a v u y];exact he⟩⟩
   case round l f tmps I body=>
    refine⟨h.1,RoundIn.mono h.2 λe A he=>?_⟩;cases e with
    |returned u=>exact⟨aY a q u,by rw[<-Act.put_comm a v u y];exact he⟩
    |panicked c=>exact absurd he (z _ _ _)
    |outgrown=>exact he
  |halt x w'=>
   cases x<;>simp only[T5.uponIn]at h ⊢
   case panic u=>exact absurd h (z _ _ _)
 .rename_i hw;simp only[hw]at h;exact⟨λ_ _=>trivial,aY a q _,by rw[<-Act.put_comm a v undef y];exact h.2⟩
def lA(ops:Array T5)(bs:Array Nat):Bool:=
 (V0 ops.size).all λj=>(V0 ops.size).all λk=>!((bs.getD j 0).testBit k)||
  (match ops[j]? with
   |some o=>o.after.any λe=>Region.binds .any e&&Nat.blt e.on j&&(S1 e.on k||(bs.getD e.on 0).testBit k)
   |none=>false)
def Down(ops:Array T5)(a:Array Bool):Prop:=
 ∀(x:Nat)(o:T5),ops[x]?=σ o->a.getD x false=true->∀e∈o.after,Region.binds .any e=true->a.getD e.on false=true
theorem xI{bs:Array Nat}(f:lA ops bs=true){k:Nat}(q:j<ops.size)(hk:k<ops.size)(h:(bs.getD j 0).testBit k=true):
  ∃o,ops[j]?=σ o/\∃e∈o.after,Region.binds .any e=true/\e.on<j/\(e.on=k\/(bs.getD e.on 0).testBit k=true):=by
 simp only[lA,List.all_eq_true,Q3]at f;have:=f j q k hk;rw[h]at this;simp only[Y6,Bool.false_or]at this;cases p:ops[j]? with
 |none=>rw[p]at this;cases this
 |some o=>
  rw[p]at this;obtain⟨e,he,a⟩:=Array.any_eq_true'.1 this;simp only[U4,Nat.blt_eq,Bool.or_eq_true]at a;exact⟨o,rfl,e,he,a.1.1,a.1.2,a.2.imp (λh=>Nat.eq_of_beq_eq_true h) id⟩
theorem Fg{bs:Array Nat}{a:Array Bool}(p:lA ops bs=true)(q:Down ops a):∀(j k:Nat),j<ops.size->k<ops.size->a.getD j false=true->
  (bs.getD j 0).testBit k=true->a.getD k false=true:=by
 intro j;induction j using Nat.strongRecOn with
 |_ j r=>
  intro k s hk w h;obtain⟨o,x,e,he,y,z,h⟩:=xI p s hk h;have f:=q j o x w e he y;rcases h with rfl|h
  .exact f
  .exact r e.on z k Ω hk f h
theorem xJ{bs:Array Nat}{a:Array Bool}(f:lA ops bs=true)(s:Down ops a){k:Nat}(hk:k<ops.size)(w:j∈Region.ready .any ops a)(h:(bs.getD j 0).testBit k=true):a.getD k false=true:=by
 obtain⟨_,o,p,x⟩:=mem_ready.1 w;have y:=(n9.1 p).1;obtain⟨o',q,e,he,z,A,h⟩:=xI f y hk h;rw[p]at q;cases q;have r:=x e he z;rcases h with rfl|h
 .exact r
 .exact Fg f s e.on k Ω hk r h
theorem Down.set{a:Array Bool}(r:Down ops a){i:Nat}(s:i∈Region.ready .any ops a):Down ops (a.setIfInBounds i true):=by
 intro x o f h e he j;by_cases p:x=i
 .subst p;obtain⟨_,o',q,w⟩:=mem_ready.1 s;rw[f]at q;cases q;exact getD_set_true (w e he j)
 .rw[getD_set_ne false (Ne.symm p)]at h;exact getD_set_true (r x o f h e he j)
theorem tZ{a:Array Bool}{k:Nat}(h:a.getD k true=false):a.getD k false=false:=by
 rcases Nat.lt_or_ge k a.size with h'|h'
 .simpa[h']using h
 .simp[Array.getElem?_eq_none h']at h
def me(ops:Array T5)(i:Nat):Bool:=match ops[i]? with
 |some o=>i7 o
 |none=>false
def mf(bs:Array Nat)(a:List (x3×List (Nat×(x3->Prop))))(j:Nat)(w':x3):Prop:=∀g∈a,∀x∈g.2,kK bs j x.1=true->Ext g.1 w'\/x.2 w'
theorem ua{bs:Array Nat}{j:Nat}{w':x3}:∀{l:List (Nat×(x3->Prop))},ox bs j w' l->∀x∈l,kK bs j x.1=true->x.2 w'
 |[],_,_,h,_=>by cases h
 |y::l,h,x,a,hu=>by
  unfold ox at h;cases e:kK bs j y.1 with
  |true=>
   rw[e]at h;cases a with
   |head=>exact h.1
   |tail _ a=>exact ua h.2 x a hu
  |false=>
   rw[e]at h;cases a with
   |head=>rw[e]at hu;cases hu
   |tail _ a=>exact ua (show ox bs j w' l from h) x a hu
theorem xK{bs:Array Nat}{j:Nat}:∀{l:List (Nat×(x3->Prop))},pG bs j l=false->∀x∈l,kK bs j x.1=false
 |[],_,_,h=>by cases h
 |y::l,h,x,a=>by
  simp only[pG,U5]at h;cases a with
  |head=>exact h.1
  |tail _ a=>exact xK h.2 x a
theorem ub{bs:Array Nat}{j:Nat}{w':x3}{C:Prop}:∀{s:List (x3×List (Nat×(x3->Prop)))},m4 bs j w' C s->C/\mf bs s j w'
 |[],h=>⟨h,λg w=>by cases w⟩
 |g::r,h=>by
  unfold m4 at h;cases hu:pG bs j g.2 with
  |true=>
   rw[hu]at h;obtain⟨h1,p⟩:=ub h.2;refine⟨h1,λq a x f e=>?_⟩;cases a with
   |head=>exact h.1.imp id λh=>ua h x f e
   |tail _ a=>exact p q a x f e
  |false=>
   rw[hu]at h;obtain⟨h1,p⟩:=ub (show m4 bs j w' C r from h);refine⟨h1,λq a x f e=>?_⟩;cases a with
   |head=>rw[xK hu x f]at e;cases e
   |tail _ a=>exact p q a x f e
def uc(ops:Array T5)(bs:Array Nat)(a:List (x3×List (Nat×(x3->Prop))))(j:Nat)(w w':x3):Prop:=(me ops j=true->Ext w w')/\(me ops j=false->mf bs a j w')
def iz(r:Option Nat)(P:W9)(ops:Array T5)(bs:Array Nat)(Q:Exit->Act->x3->Prop):Nat->Array Bool->List (x3×List (Nat×(x3->Prop)))->Act->x3->Prop
 |0,e,_,a,w=>Region.ready .any ops e=[]/\Q .normal a w
 |fuel+1,e,f,a,w=>(Region.ready .any ops e=[]->Q .normal a w)/\
  ∀i∈Region.ready .any ops e,wpOpIn (eu r) 0 P ops Q i (λa' w'=>uc ops bs f i w w'/\iz r P ops bs Q fuel (e.setIfInBounds i true) f a' w') a w
theorem iz.any{bs:Array Nat}:∀(fuel:Nat)(e:Array Bool)(f:List (x3×List (Nat×(x3->Prop))))(a:Act)(w:x3),iz r P ops bs Q fuel e f a w->wpAnyIn (eu r) 0 P .any ops Q fuel e a w
 |0,_,_,_,_,h=>h
 |fuel+1,_,_,_,_,h=>⟨h.1,λi hi=>wpOpIn_mono (λa' w' h'=>iz.any fuel _ _ a' w' h'.2) (h.2 i hi)⟩
theorem Fh{bs:Array Nat}{a:Array Bool}(e:lA ops bs=true)(f:Down ops a){i:Nat}{r:T5}(hi:ops[i]?=σ r)(p:i∈Region.ready .any ops a)(q:j∈Region.ready .any ops a)(s:j≠i):kK bs j i=true:=by
 have w:=(n9.1 hi).1;obtain⟨x,B,y,_⟩:=mem_ready.1 q;have z:=(n9.1 y).1;have A:=(mem_ready.1 p).1;simp only[kK,U4,Bool.not_eq_true'];refine⟨?_,?_,?_⟩
 .cases h:S1 i j with
  |true=>exact absurd (Nat.eq_of_beq_eq_true h).symm s
  |false=>rfl
 .cases h:(bs.getD j 0).testBit i with
  |true=>have:=xJ e f w q h;rw[tZ A]at this;cases this
  |false=>rfl
 .cases h:(bs.getD i 0).testBit j with
  |true=>have:=xJ e f z p h;rw[tZ x]at this;cases this
  |false=>rfl
theorem iz.take{bs:Array Nat}(S:lA ops bs=true)(T:Region.noSelect ops=true)(U:∀c a w,¬Q (.panic c) a w){i:Nat}{p:T5}(hi:ops[i]?=σ p)(V:i7 p=true){w0:x3}{A ev':List (x3×List (Nat×(x3->Prop)))}(G:∀j w',mf bs ev' j w'->mf bs A j w'){st:x3->Prop}(W:lz p=false->∀j w',kK bs j i=true->mf bs ev' j w'->Ext w0 w'\/st w'):
  ∀(fuel:Nat)(f:Array Bool)(a:Act)(w:x3),Down ops f->
   (∀j y,ops[j]?=σ y->j≠i->f.getD j true=false->(∀e∈y.after,Region.binds .any e=true->e.on≠i)->p.apart ops y=true)->
   i∈Region.ready .any ops f->h8 P ops p v a (md p w0 st)->md p w0 st w->
   iz r P ops bs Q fuel (f.setIfInBounds i true) ev' (a.put p.dst v) w->iz r P ops bs Q (fuel+1) f A a w:=by
 have I:=Region.noSelect_spec T;have X:me ops i=true:=by simp[me,hi,V]
 have hR:∀(fuel:Nat)(f:Array Bool)(a:Act)(w:x3),iz r P ops bs Q fuel f ev' a w->iz r P ops bs Q fuel f A a w:=by
  intro fuel;induction fuel with
  |zero=>intro f a w h;exact h
  |succ fuel C=>intro f a w h;exact⟨h.1,λj s=>wpOpIn_mono (λa' w' h'=>⟨⟨h'.1.1,λE=>G _ _ (h'.1.2 E)⟩,C _ a' w' h'.2⟩) (h.2 j s)⟩
 have J:∀w,uc ops bs A i w w:=λw=>⟨λ_=>Ext.refl _,λh=>by rw[X]at h;cases h⟩;intro fuel;induction fuel with
 |zero=>
  intro f a w _ _ x B hw H;refine⟨λh=>(by rw[h]at x;cases x),λj s=>?_⟩;by_cases q:j=i
  .subst q;exact B.go hi hw ⟨J w,hR _ _ _ _ H⟩
  .have:=ready_mono s q;rw[H.1]at this;cases this
 |succ fuel C=>
  intro f a w K L x B hw H;refine⟨λh=>(by rw[h]at x;cases x),λj s=>?_⟩;by_cases q:j=i
  .subst q;exact B.go hi hw ⟨J w,hR _ _ _ _ H⟩
  .have h1:=H.2 j (ready_mono s q);have hu:=Fh S K hi x s q;obtain⟨M,y,F,Y⟩:=mem_ready.1 s;have Z:∀e∈y.after,Region.binds .any e=true->e.on≠i:=λe he aa ab=>by
    have h1:=Y e he aa;rw[ab,tZ (mem_ready.1 x).1]at h1;cases h1
   have ac:=Ff F (L j y F q M Z) (λcs b=>I i p cs b hi) (λcs b=>I j y cs b F) U B h1;have ad:∀k ok,ops[k]?=σ ok->k≠i->(f.setIfInBounds j true).getD k true=false->
     (∀e∈ok.after,Region.binds .any e=true->e.on≠i)->p.apart ops ok=true:=λk ok hk ae N af=>by
    refine L k ok hk ae ?_ af;by_cases O:j=k
    .subst O;exact M
    .rw[getD_set_ne true O]at N;exact N
   refine wpOpIn_mono (λa' w' z=>⟨⟨z.2.1.1,λE=>G _ _ (z.2.1.2 E)⟩,C (f.setIfInBounds j true) a' w' (K.set s) ad (ready_mono x (Ne.symm q)) z.1 ?_ ?_⟩) ac
   .cases hm:lz p with
    |true=>exact .inl hm
    |false=>
     cases R:me ops j with
     |true=>exact hw.ext (z.2.1.1 R)
     |false=>exact .inr ((W hm j w' hu (z.2.1.2 R)).imp id λh=>⟨w',h,Ext.refl _⟩)
   .rw[Array.setIfInBounds_comm _ _ q];exact z.2.2
theorem xL{p:Nat->Prop}:∀{l:List Nat},tX p l->∀i∈l,p i
 |[],_,_,h=>by cases h
 |[i],h,j,a=>by cases a with
  |head=>exact h
  |tail _ h=>cases h
 |i::k::l,h,j,a=>by
  obtain⟨h1,e⟩:=h;cases a with
  |head=>exact h1
  |tail _ a=>exact xL e j a
theorem ud:∀{l:List Nat}{q:Nat},ma ops l=σ q->q∈l/\∃o,ops[q]?=σ o/\i7 o=true
 |[],q,h=>by cases h
 |i::l,q,h=>by
  simp only[ma]at h;cases a:ops[i]? with
  |none=>rw[a]at h;obtain⟨h1,e⟩:=ud h;exact⟨.tail _ h1,e⟩
  |some o=>
   rw[a]at h;simp only at h;cases f:i7 o with
   |true=>rw[f]at h;simp only[cond_true,X0]at h;subst h;exact⟨.head _,o,a,f⟩
   |false=>rw[f]at h;obtain⟨h1,e⟩:=ud h;exact⟨.tail _ h1,e⟩
theorem Fi{o:T5}{e:Env}{a:Act}{K:Env->(x3->Prop)->Prop}(h:tW P ops o e w K)(f:S7 N e a)(F:jF N o.dst=true):
  ∃v st,h8 P ops o v a (md o w st)/\∃p,K p st/\S7 N p (a.put o.dst v):=by
 unfold tW at h;have z:∀{e:Env},S7 N e a->lx P o e w K->Region.wanted o (yielded ops a.tmps)=true->∃v st,h8 P ops o v a (md o w st)/\∃p,K p st/\S7 N p (a.put o.dst v):=λf h hw=>by
  obtain⟨v,st,h1,G,H,L⟩:=xF h f F;exact⟨v,st,.inl ⟨hw,H,λw' A=>A.elim (λhm=>Fe hm (h1 w (Ext.refl w))) λh=>h.elim (h1 w') λ⟨J,M,O⟩=>L J M w' O⟩,G⟩
 have skip:∀{e:Env},S7 N e a->K (dX e o.dst .u) (λ_=>True)->Region.wanted o (yielded ops a.tmps)=false->∃v st,h8 P ops o v a (md o w st)/\∃p,K p st/\S7 N p (a.put o.dst v):=λf h hw=>
  ⟨undef,_,.inr ⟨hw,rfl⟩,_,h,f.put F rfl⟩
 cases q:o.guard with
 |none=>rw[q]at h;exact z f h (by simp[Region.wanted,q])
 |some Q=>
  obtain⟨j,b⟩:=Q;rw[q]at h;simp only at h;cases r:(ops[j]?).bind (·.dst)with
  |none=>rw[r]at h;exact h.elim
  |some s=>
   rw[r]at h;simp only at h;cases I:look e s with
   |none=>rw[I]at h;exact h.elim
   |some x=>
    rw[I]at h;cases x with
    |b c=>
     simp only at h;have hw:=rm f q r I (c:=c) rfl;cases A:xor c b with
     |true=>rw[A]at h hw;exact skip f h hw
     |false=>rw[A]at h hw;exact z f h hw
    |v y=>
     simp only at h;obtain⟨c,rfl,B,C⟩:=h;have hw:=rm f q r I (c:=c) rfl;have E:=f.lit I (c:=c) rfl;cases c with
     |true=>
      have B:=B rfl;cases b with
      |true=>exact z E B hw
      |false=>exact skip E B hw
     |false=>
      have C:=C rfl;cases b with
      |true=>exact skip E C hw
      |false=>exact z E C hw
    |u=>exact skip f h (xG f q r I)
theorem ue:∀{l:List Nat},ma ops l=ν->∀j∈l,me ops j=false
 |[],_,_,h=>by cases h
 |i::l,h,j,a=>by
  simp only[ma]at h;cases e:ops[i]? with
  |none=>
   rw[e]at h;cases a with
   |head=>simp[me,e]
   |tail _ a=>exact ue h j a
  |some o=>
   rw[e]at h;simp only at h;cases f:i7 o with
   |true=>rw[f]at h;cases h
   |false=>
    rw[f]at h;cases a with
    |head=>simp[me,e,f]
    |tail _ a=>exact ue h j a
theorem Fj{bs:Array Nat}{same:Bool}{q:Nat}{st:x3->Prop}{a:List (x3×List (Nat×(x3->Prop)))}(I:same=true->∃ks r,a=(w,ks)::r):
  (∀j w',mf bs (pF same q w st a) j w'->mf bs a j w')/\(∀j w',kK bs j q=true->mf bs (pF same q w st a) j w'->Ext w w'\/st w')/\∃ks r,pF same q w st a=(w,ks)::r:=by
 cases same with
 |true=>
  obtain⟨ks,r,rfl⟩:=I rfl;refine⟨λj w' h g e x f hu=>?_,λj w' hu h=>h (w,(q,st)::ks) (.head _) (q,st) (.head _) hu,_,_,rfl⟩;cases e with
  |head=>exact h (w,(q,st)::ks) (.head _) x (.tail _ f) hu
  |tail _ e=>exact h g (.tail _ e) x f hu
 |false=>
  refine⟨λj w' h g e x f hu=>h g (.tail _ e) x f hu,λj w' hu h=>h (w,[(q,st)]) (.head _) (q,st) (.head _) hu,_,_,rfl⟩
theorem Fk{K:Env->x3->Prop}{bs:Array Nat}(V:lA ops bs=true)(W:Region.noSelect ops=true)(X:∀c a w,¬Q (.panic c) a w)(M:∀o∈ops.toList,∀t,o.dst=σ t->t∈D)(Y:m8 N ops.toList=true):
  ∀(fuel:Nat)(p:Array Bool)(same:Bool)(s:List (x3×List (Nat×(x3->Prop))))(e:Env)(a:Act)(w:x3),Down ops p->(same=true->∃ks r,s=(w,ks)::r)->
   mb P free ops bs fuel p same s e w K->S7 N e a->
   (∀a' w',mc N free K D a w a' w'->Q .normal a' w')->iz r P ops bs Q fuel p s a w:=by
 have F:∀{j:Nat}{o:T5},ops[j]?=σ o->o∈ops.toList:=λh=>by
  rw[<-S8]at h;exact x5 h
 have ok:∀{j:Nat}{o:T5},ops[j]?=σ o->jF N o.dst=true:=λh=>by
  simp only[m8,List.all_eq_true]at Y;exact Y _ (F h)
 intro fuel;induction fuel with
 |zero=>
  intro p same s e a w A O h C B;unfold mb at h;cases y:Region.ready .any ops p with
  |nil=>rw[y]at h;exact⟨y,B a w ⟨e,h,C,gF.refl _ _,λ_=>ct.refl _ _⟩⟩
  |cons i l=>rw[y]at h;exact h.elim
 |succ fuel R=>
  intro p same s e a w A O h C B;unfold mb at h;cases y:Region.ready .any ops p with
  |nil=>
   rw[y]at h;refine⟨λ_=>B a w ⟨e,h,C,gF.refl _ _,λ_=>ct.refl _ _⟩,λi hi=>?_⟩;rw[y]at hi;cases hi
  |cons i l=>
   rw[y]at h;simp only at h;cases G:ma ops (i::l)with
   |some q=>
    rw[G]at h;simp only at h;obtain⟨ae,o,f,Z⟩:=ud G;cases H:Region.free .any ops p q with
    |false=>rw[H]at h;exact h.elim
    |true=>
     rw[H,f]at h;simp only[cond_true]at h;obtain⟨v,st,aa,I,z,ab⟩:=Fi h C (ok f);have L:q∈Region.ready .any ops p:=by rw[y];exact ae
     cases hm:lz o with
     |true=>
      rw[hm]at z;refine iz.take V W X f Z (w0:=w) (ev':=s) (λ_ _ h=>h) (λh=>by rw[hm]at h;cases h) fuel p a w A (Region.free_spec f H) L aa (.inr (.inl (Ext.refl _))) ?_;exact R _ same s I _ w (A.set L) O z ab λa' w' x=>B a' w' (x.step (gF.put a v λt E=>M o (F f) t E) λ_=>ct.refl _ _)
     |false=>
      rw[hm]at z;obtain⟨h1,af,ag⟩:=Fj (bs:=bs) (q:=q) (st:=st) O;refine iz.take V W X f Z (w0:=w) (ev':=pF same q w st s) h1 (λ_=>af) fuel p a w A (Region.free_spec f H) L aa (.inr (.inl (Ext.refl _))) ?_;exact R _ true _ I _ w (A.set L) (λ_=>ag) z ab λa' w' x=>B a' w' (x.step (gF.put a v λt E=>M o (F f) t E) λ_=>ct.refl _ _)
   |none=>
    rw[G]at h;simp only at h;refine⟨(λac=>by rw[y]at ac;cases ac),λj ad=>?_⟩;have S:=ad;rw[y]at S;have ah:=ue G j S;have x:=xL h j S;cases f:ops[j]? with
    |none=>rw[f]at x;exact x.elim
    |some o=>
     rw[f]at x;simp only at x;unfold wpOpIn;simp only[f];have next:∀T J,fi N free (λI w'=>m4 bs j w' (mb P free ops bs fuel (p.setIfInBounds j true) false s I w' K) s) o a w T J->
       uc ops bs s j w J/\iz r P ops bs Q fuel (p.setIfInBounds j true) s T J:=by
      rintro T J ⟨ai,v,z,aj,rfl,ak⟩;obtain⟨z,al⟩:=ub z;exact⟨⟨λh=>(by rw[ah]at h;cases h),λ_=>al⟩,
       R _ false s ai _ J (A.set ad) (λh=>by cases h) z aj λa' w' x=>B a' w' (x.step (gF.put a v λt E=>M o (F f) t E) ak)⟩
     rcases xH (r:=r) (Q:=Q) x C (ok f)with⟨hw,U⟩|⟨hw,U⟩
     .rw[if_pos hw];exact T5.wpIn_mono next U
     .rw[hw];exact⟨λ_ _=>trivial,next _ _ U⟩
theorem Fl(hm:P.follows .mixedOrders=true){K:Env->x3->Prop}{id:Nat}{e:Env}{a:Act}(p:lA ops (Region.before ops)=true)(q:∀c a w,¬Q (.panic c) a w)(s:∀o∈ops.toList,∀t,o.dst=σ t->t∈D)(y:m8 N ops.toList=true)(h:∀w',Ext w w'->Ext w' w->cF w w'->tY P free ops e w' K)(z:S7 N e a)(A:∀a' w',mc N free K D a w a' w'->Q .normal a' w'):
  (Code.region id ops true).wpIn (eu r) 0 P Q a w:=by
 refine wpIn_region_any hm ?_;have h:=h {w with drawn:=w.drawn+1} (rf w _) ⟨p8 _,λ_ _ h _=>h⟩ (pA w _ (Nat.le_succ _));unfold tY at h;cases f:Region.noSelect ops with
 |false=>rw[f]at h;exact h.elim
 |true=>
  rw[f]at h;refine iz.any _ _ _ _ _ (Fk p f q s y ops.size _ false [] e a _ ?_ (λh=>by cases h) h z λa' w' B=>A a' w' (B.step (gF.refl _ _) λ_=>(pA w _ (Nat.le_succ _)).b));intro x o _ j;rcases Nat.lt_or_ge x ops.size with h'|h'
  .simp[h']at j
  .simp[h']at j
end
def i9(t:Nat):List Nat->Bool
 |[]=>false
 |s::r=>bif S1 s t then true else i9 t r
theorem uf{t:Nat}:∀{l:List Nat},i9 t l=true↔t∈l
 |[]=>by simp[i9]
 |s::r=>by
  simp only[i9];cases h:S1 s t with
  |true=>simp[Nat.eq_of_beq_eq_true h]
  |false=>
   have:=Nat.ne_of_beq_eq_false h;simp[uf (l:=r),Ne.symm this]
def m9:List T5->List Nat
 |[]=>[]
 |o::l=>match o.dst with
  |some d=>d::m9 l
  |none=>m9 l
def tmpsOf:List S5->List Nat
 |[]=>[]
 | .tmp t::l=>t::tmpsOf l
 |_::l=>tmpsOf l
def Fm(ops:Array T5)(o:T5):List Nat:=
 match o.guard with
 |some (j,_)=>match(ops[j]?).bind (·.dst)with
  |some s=>[s]
  |none=>[]
 |none=>[]
def rn(D:List Nat):List Nat->List Nat
 |[]=>[]
 |t::r=>bif i9 t D then rn D r else t::rn D r
def ug(D:List Nat):List Nat->List Nat
 |[]=>[]
 |t::r=>bif i9 t D then t::ug D r else ug D r
def xM(ops:Array T5):List T5->List Nat->List Nat
 |[],_=>[]
 |o::l,D=>rn D (tmpsOf (opsOf o.op)++Fm ops o)++xM ops l (match o.dst with
  |some d=>d::D
  |none=>D)
def dx:Code->List Nat
 | .region _ ops _=>m9 ops.toList
 | .seq a b=>dx a++dx b
 | .cond _ a b=>dx a++dx b
 | .block _ c=>dx c
 | .loop c=>dx c
 | .scope c=>dx c
 |_=>[]
def jG(id:Nat):Code->Nat
 | .seq a b=>jG id a+jG id b
 | .cond _ a b=>jG id a+jG id b
 | .block _ c=>jG id c
 | .loop c=>jG id c
 | .scope c=>jG id c
 | .exit i=>bif S1 i id then 1 else 0
 | .rangeFunc _ _ _ b=>jG id b
 |_=>0
def Fo(ops:Array T5):Bool:=
 let bs:=Region.before ops;let a:=λ(i:Nat)=>match ops[i]? with|some o=>!(i7 o)|none=>false
 (V0 ops.size).any λj=>a j&&((V0 j).any λi=>a i&&(!((bs.getD j 0).testBit i)&& !((bs.getD i 0).testBit j)))
def kL:Code->Nat
 | .region _ ops e=>bif (e&&Fo ops)||ops.any (·.guard.isSome)then 2 else 1
 | .seq a b=>bif S1 (kL a) 0 then 0 else kL b
 | .cond _ a b=>kL a+kL b
 | .block id c=>kL c+jG id c
 | .loop _=>0
 | .scope c=>kL c
 | .exit _=>0
 | .goto _=>0
 | .ret=>0
 | .refuse _=>0
 |_=>1
def lB:Code->List Nat
 | .region _ ops _=>m9 ops.toList
 | .seq a b=>lB a++lB b
 | .cond _ a b=>bif S1 (kL a) 0 then lB b else bif S1 (kL b) 0 then lB a else ug (lB a) (lB b)
 | .block id c=>bif S1 (jG id c) 0 then lB c else[]
 | .scope c=>lB c
 |_=>[]
def reads:Code->List Nat
 | .region _ ops _=>xM ops ops.toList []
 | .seq a b=>reads a++rn (lB a) (reads b)
 | .cond c a b=>tmpsOf [c]++(reads a++reads b)
 | .block _ c=>reads c
 | .loop c=>reads c
 | .scope c=>reads c
 | .rangeFunc f _ a b=>tmpsOf [f]++(reads a++reads b)
 |_=>[]
def kd:Code->Bool
 | .seq a b=>kd a||kd b
 | .cond _ a b=>kd a||kd b
 | .block _ c=>kd c
 | .loop c=>kd c
 | .scope c=>kd c
 | .rangeFunc ..=>true
 |_=>false
def wf(N:Nat):Code->Bool
 | .region _ ops e=>m8 N ops.toList&&(!e||lA ops (Region.before ops))
 | .seq a b=>wf N a&&wf N b
 | .cond _ a b=>wf N a&&wf N b
 | .block _ c=>wf N c
 | .loop c=>wf N c
 | .scope c=>wf N c
 | .rangeFunc _ f a b=>(f.toList.all λt=>Nat.blt t N)&&(wf N a&&wf N b)
 |_=>true
def na:Nat->Type->Type
 |0,β=>β
 |n+1,β=>x1->na n β
def app{β:Type}:(n:Nat)->na n β->List x1->β
 |0,f,_=>f
 |n+1,f,[]=>app n (f undef) []
 |n+1,f,v::r=>app n (f v) r
def lam{β:Type}:(n:Nat)->(List x1->β)->na n β
 |0,f=>f []
 |n+1,f=>λv=>lam n λr=>f (v::r)
def rp:(n:Nat)->na n Prop->Prop
 |0,p=>p
 |n+1,p=>∀v,rp n (p v)
theorem rq{β:Type}:∀(n:Nat)(f:List x1->β)(vs:List x1),vs.length=n->app n (lam n f) vs=f vs
 |0,f,[],_=>rfl
 |n+1,f,v::r,h=>by
  simp only[app,lam];exact rq n _ r (by simpa using h)
theorem rr:∀(n:Nat)(p:na n Prop)(vs:List x1),rp n p->app n p vs
 |0,_,_,h=>h
 |n+1,_,[],h=>rr n _ [] (h undef)
 |n+1,_,v::r,h=>rr n _ r (h v)
def Fp(n:Nat)(vs:List x1)(w:x3)(B:List x1->x3->(List x1->x3->Prop)->Prop):Prop:=
 ∃(a:na n (x3->Prop))(e:na n (x3->Nat)),app n a vs w/\
  rp n (lam n λus=>∀w',app n a us w'->B us w' λf h=>app n a f h/\app n e f h<app n e us w')
def Fq(w:x3)(B:x3->(x3->Prop)->Prop):Prop:=
 ∃(a:x3->Prop)(e:x3->Nat),a w/\∀w',a w'->B w' λf=>a f/\e f<e w'
def bZ(a:x1)(w:x3)(B:x1->x3->(x1->x3->Prop)->Prop):Prop:=
 ∃(e:x1->x3->Prop)(f:x1->x3->Nat),e a w/\∀a w',e a w'->B a w' λa' h=>e a' h/\f a' h<f a w'
def cd(a b:x1)(w:x3)(B:x1->x1->x3->(x1->x1->x3->Prop)->Prop):Prop:=
 ∃(e:x1->x1->x3->Prop)(f:x1->x1->x3->Nat),e a b w/\∀a b w',e a b w'->B a b w' λa' h j=>e a' h j/\f a' h j<f a b w'
def nb(a b c:x1)(w:x3)(B:x1->x1->x1->x3->(x1->x1->x1->x3->Prop)->Prop):Prop:=
 ∃(e:x1->x1->x1->x3->Prop)(f:x1->x1->x1->x3->Nat),e a b c w/\
  ∀a b c w',e a b c w'->B a b c w' λa' h j p=>e a' h j p/\f a' h j p<f a b c w'
def pH(a b c d:x1)(w:x3)(B:x1->x1->x1->x1->x3->(x1->x1->x1->x1->x3->Prop)->Prop):Prop:=
 ∃(e:x1->x1->x1->x1->x3->Prop)(f:x1->x1->x1->x1->x3->Nat),e a b c d w/\
  ∀a b c d w',e a b c d w'->B a b c d w' λa' h j p q=>e a' h j p q/\f a' h j p q<f a b c d w'
def pI(a b c d e:x1)(w:x3)(B:x1->x1->x1->x1->x1->x3->(x1->x1->x1->x1->x1->x3->Prop)->Prop):Prop:=
 ∃(f:x1->x1->x1->x1->x1->x3->Prop)(h:x1->x1->x1->x1->x1->x3->Nat),f a b c d e w/\∀a b c d e w',f a b c d e w'->B a b c d e w' λa' j p q r s=>f a' j p q r s/\h a' j p q r s<h a b c d e w'
def Fr(a b c d e f:x1)(w:x3)(B:x1->x1->x1->x1->x1->x1->x3->(x1->x1->x1->x1->x1->x1->x3->Prop)->Prop):Prop:=
 ∃(h:x1->x1->x1->x1->x1->x1->x3->Prop)(j:x1->x1->x1->x1->x1->x1->x3->Nat),h a b c d e f w/\∀a b c d e f w',h a b c d e f w'->B a b c d e f w' λa' p q r s x y=>h a' p q r s x y/\j a' p q r s x y<j a b c d e f w'
def ck{α:Type}(ax:α)(B:α->Prop):Prop:=B ax
def uh(n:Nat)(w:x3)(K:x3->Prop):Prop:=∀w',Ext w w'->Ext w' w/\fx n w w'->K w'
def Over(n:Nat)(w:x3)(K:x3->Prop):Prop:=∀w',Ext w w'->Ext w' w/\fx n w w'->e0 w w'->K w'
def ev(w:x3)(K:x3->Prop):Prop:=∀w',Ext w w'->Ext w' w->cF w w'->K w'
def ke(e:Env):List Nat->Option (List x1)
 |[]=>σ []
 |t::r=>match look e t with
  |some x=>match ke e r with
   |some vs=>σ (x.val::vs)
   |none=>ν
  |none=>ν
def ja:List Nat->List x1->Env->Env
 |t::r,v::vs,e=>(t,.v v)::ja r vs e
 |_,_,e=>e
def lC(D:List Nat):Env->Env
 |[]=>[]
 |(t,x)::r=>bif i9 t D then lC D r else(t,x)::lC D r
def pJ(N:Nat)(D R:List Nat):List Nat:=(V0 N).filter λt=>i9 t D&&i9 t R
def pK(N:Nat)(D R:List Nat)(e:Env):List Nat:=(V0 N).filter λt=>i9 t D&&((look e t).isSome&&i9 t R)
def jb:Code->Bool
 | .seq a b=>jb a||jb b
 | .cond _ a b=>jb a||jb b
 | .block _ c=>jb c
 | .loop c=>jb c
 | .scope c=>jb c
 | .rangeFunc _ _ a b=>jb a||jb b
 | .ret=>true
 |_=>false
def Fs(i:Nat)(l:List Nat):List Nat:=bif i9 i l then l else i::l
def rt:List Nat->List Nat->List Nat
 |[],l=>l
 |i::r,l=>Fs i (rt r l)
def ui(i:Nat):List Nat->List Nat
 |[]=>[]
 |j::r=>bif S1 i j then ui i r else j::ui i r
def jH:Code->List Nat
 | .seq a b=>rt (jH a) (jH b)
 | .cond _ a b=>rt (jH a) (jH b)
 | .block id c=>ui id (jH c)
 | .loop c=>jH c
 | .scope c=>jH c
 | .rangeFunc _ _ a b=>rt (jH a) (jH b)
 | .exit i=>[i]
 |_=>[]
def nc:List (Nat×(x3->Prop))->Nat->x3->Prop
 |[],_,_=>False
 |(j,k)::r,i,w=>(i=j/\k w)\/nc r i w
def uj(K:Nat->x3->Prop):List Nat->List (Nat×(x3->Prop))
 |[]=>[]
 |i::r=>(i,λw=>K i w)::uj K r
theorem xN{K:Nat->x3->Prop}:∀{l:List Nat}{i:Nat}{w:x3},nc (uj K l) i w->K i w
 |[],_,_,h=>h.elim
 |j::r,i,w,h=>by
  rcases h with⟨rfl,h⟩|h
  .exact h
  .exact xN h
section
variable(P:W9)
def oy{a:Type}(G:Bool)(g:Q1)(cap:List x1)(p:a)(q:a->Prop)(r:a->List x1->a->x3->Prop)(h:x3->Prop):Prop:=
 Enters P g/\∀(l:Nat)(ax e:a->x3->Prop)(w:x3),
  (∀k J U,Ext J U->ct w.heap.size J U->ax k J->ax k U)->(∀k J U,Ext J U->ct w.heap.size J U->e k J->e k U)->
  (∀k j vs w',h w'->r k vs j w'->ax k w'->hQ P l vs w' λv f=>(v= .bool true/\h f/\ax j f/\(G=true->cF w' f))\/(v= .bool false/\e k f))->
  h w->ax p w->gE P g (.func (.yield l) #[] #[]::cap) w λ_ w'=>(∃k,q k/\ax k w')\/∃k,e k w'
def uk(G:Bool)(g:Q1)(cap:List x1)(n:Nat)(h:Nat->List x1->x3->Prop)(f:x3->Prop):Prop:=
 Enters P g/\∀(l:Nat)(ax a:Nat->x3->Prop)(w:x3),
  (∀k J U,Ext J U->ct w.heap.size J U->ax k J->ax k U)->(∀k J U,Ext J U->ct w.heap.size J U->a k J->a k U)->
  (∀k vs w',k<n->f w'->h k vs w'->ax k w'->hQ P l vs w' λv e=>(v= .bool true/\f e/\ax (k+1) e/\(G=true->cF w' e))\/(v= .bool false/\a k e))->
  f w->ax 0 w->gE P g (.func (.yield l) #[] #[]::cap) w λ_ w'=>ax n w'\/∃k,k<n/\a k w'
def pL{e:Type}(o G:Bool)(g:Q1)(cap:List x1)(p:e)(q:e->Prop)(s:e->List x1->e->x3->Prop)(h:(Nat->Prop)->x3->Prop):Prop:=
 Enters P g/\∀(l:Nat)(ax f:(Nat->Prop)->e->x3->Prop)(w:x3),
  (∀D k J U,ae (λr=>o=true/\w.heap.size<=r/\¬D r) J U->fx w.heap.size J U->ax D k J->ax D k U)->
  (∀D k J U,ae (λr=>o=true/\w.heap.size<=r/\¬D r) J U->fx w.heap.size J U->f D k J->f D k U)->
  (∀D k j vs w',(∀r,D r->w.heap.size<=r/\r<w'.heap.size)->w.heap.size<=w'.heap.size->h D w'->s k vs j w'->ax D k w'->hQ P l vs w' λv a=>
   (v= .bool true/\(∃D',(∀r,D' r->D r\/w'.heap.size<=r/\r<a.heap.size)/\(∀r,D r->D' r)/\h D' a/\ax D' j a)/\(G=true\/o=true->cF w' a)/\w'.heap.size<=a.heap.size/\(o=true->ae (λr=>r<w.heap.size\/D r) w' a))\/(o=false/\v= .bool false/\f D k a))->
  (h (λ_=>False) w)->ax (λ_=>False) p w->gE P g (.func (.yield l) #[] #[]::cap) w λ_ w'=>(∃D k,q k/\ax D k w')\/∃D k,f D k w'
abbrev nf(g:Q1)(cap:List x1)(n:Nat)(a:Nat->List x1->x3->Prop)(e:x3->Prop):Prop:=uk P false g cap n a e
def Ft(z:x1)(q:Nat)(w:x3)(B:List x1->x3->(Exit->x3->Prop)->Prop)(A C:x3->Prop)(E:List (Nat×(x3->Prop))):Prop:=
 ∃(h:Type)(o G:Bool)(g:Q1)(cap:Array x1)(x:h)(y:h->Prop)(s:h->List x1->h->x3->Prop)(e:(Nat->Prop)->x3->Prop)(f:(Nat->Prop)->h->x3->Prop)(j:(Nat->Prop)->h->Exit->x3->Prop),
  z= .func (.func g) #[] cap/\pL P o G g cap.toList x y s e/\(∀k vs p w,s k vs p w->vs.length=q)/\
  (∀m w w',Ext w w'->e m w->e m w')/\(∀m k J U,ae (λr=>o=true/\w.heap.size<=r/\¬m r) J U->fx w.heap.size J U->f m k J->f m k U)/\(∀m k ex J U,ae (λr=>o=true/\w.heap.size<=r/\¬m r) J U->fx w.heap.size J U->j m k ex J->j m k ex U)/\
  e (λ_=>False) w/\f (λ_=>False) x w/\
  rp q (lam q λvs=>∀m k p w',(∀r,m r->w.heap.size<=r/\r<w'.heap.size)->w.heap.size<=w'.heap.size->e m w'->s k vs p w'->f m k w'->B vs w' λex a=>match ex with
   | .normal=>bif o then(∃bU,(∀r,bU r->m r\/w'.heap.size<=r/\r<a.heap.size)/\(∀r,m r->bU r)/\e bU a/\f bU p a)/\e0 w' a/\ae (λr=>r<w.heap.size\/m r) w' a else e m a/\f m p a/\(G=true->e0 w' a)
   |ex=>bif o then False else j m k ex a)/\
  (∀m k w',y k->f m k w'->A w')/\(∀m k w',j m k .ret w'->C w')/\(∀m k i w',j m k (.exit i) w'->nc E i w')
def kf(z:x1)(w:x3)(B:x1->x3->(Exit->x3->Prop)->Prop)(A C:x3->Prop)(E:List (Nat×(x3->Prop))):Prop:=
 ∃(j:Type)(o G:Bool)(g:Q1)(cap:Array x1)(x:j)(y:j->Prop)(s:j->List x1->j->x3->Prop)(f:(Nat->Prop)->x3->Prop)(h:(Nat->Prop)->j->x3->Prop)(p:(Nat->Prop)->j->Exit->x3->Prop),
  z= .func (.func g) #[] cap/\pL P o G g cap.toList x y s f/\(∀k vs q w,s k vs q w->vs.length=1)/\
  (∀m w w',Ext w w'->f m w->f m w')/\(∀m k J U,ae (λr=>o=true/\w.heap.size<=r/\¬m r) J U->fx w.heap.size J U->h m k J->h m k U)/\(∀m k ex J U,ae (λr=>o=true/\w.heap.size<=r/\¬m r) J U->fx w.heap.size J U->p m k ex J->p m k ex U)/\
  f (λ_=>False) w/\h (λ_=>False) x w/\
  (∀a,∀m k q w',(∀r,m r->w.heap.size<=r/\r<w'.heap.size)->w.heap.size<=w'.heap.size->f m w'->s k [a] q w'->h m k w'->B a w' λex e=>match ex with
   | .normal=>bif o then(∃bU,(∀r,bU r->m r\/w'.heap.size<=r/\r<e.heap.size)/\(∀r,m r->bU r)/\f bU e/\h bU q e)/\e0 w' e/\ae (λr=>r<w.heap.size\/m r) w' e else f m e/\h m q e/\(G=true->e0 w' e)
   |ex=>bif o then False else p m k ex e)/\
  (∀m k w',y k->h m k w'->A w')/\(∀m k w',p m k .ret w'->C w')/\(∀m k i w',p m k (.exit i) w'->nc E i w')
def mg(z:x1)(w:x3)(B:x1->x1->x3->(Exit->x3->Prop)->Prop)(A C:x3->Prop)(E:List (Nat×(x3->Prop))):Prop:=
 ∃(j:Type)(o G:Bool)(g:Q1)(cap:Array x1)(x:j)(y:j->Prop)(s:j->List x1->j->x3->Prop)(f:(Nat->Prop)->x3->Prop)(h:(Nat->Prop)->j->x3->Prop)(p:(Nat->Prop)->j->Exit->x3->Prop),
  z= .func (.func g) #[] cap/\pL P o G g cap.toList x y s f/\(∀k vs q w,s k vs q w->vs.length=2)/\
  (∀m w w',Ext w w'->f m w->f m w')/\(∀m k J U,ae (λr=>o=true/\w.heap.size<=r/\¬m r) J U->fx w.heap.size J U->h m k J->h m k U)/\(∀m k ex J U,ae (λr=>o=true/\w.heap.size<=r/\¬m r) J U->fx w.heap.size J U->p m k ex J->p m k ex U)/\
  f (λ_=>False) w/\h (λ_=>False) x w/\
  (∀a b,∀m k q w',(∀r,m r->w.heap.size<=r/\r<w'.heap.size)->w.heap.size<=w'.heap.size->f m w'->s k [a,b] q w'->h m k w'->B a b w' λex e=>match ex with
   | .normal=>bif o then(∃bU,(∀r,bU r->m r\/w'.heap.size<=r/\r<e.heap.size)/\(∀r,m r->bU r)/\f bU e/\h bU q e)/\e0 w' e/\ae (λr=>r<w.heap.size\/m r) w' e else f m e/\h m q e/\(G=true->e0 w' e)
   |ex=>bif o then False else p m k ex e)/\
  (∀m k w',y k->h m k w'->A w')/\(∀m k w',p m k .ret w'->C w')/\(∀m k i w',p m k (.exit i) w'->nc E i w')
theorem uk.s{P:W9}{G:Bool}{g:Q1}{cap:List x1}{f:Nat->List x1->x3->Prop}{a:x3->Prop}(h:uk P G g cap n f a):
  oy P G g cap 0 (λk=>k=n) (λk vs j w=>k<n/\j=k+1/\f k vs w) a:=by
 refine⟨h.1,λl ax p w q r x ha y=>?_⟩;have:=h.2 l ax (λk w=>p k w) w q r (λk vs w' hk hz A B=>x k (k+1) vs w' hz ⟨hk,rfl,A⟩ B) ha y;cases this with
 |code h1 C=>exact .code h1 (C.mono λ_ _ ⟨v,E,e⟩=>⟨v,E,e.elim (λh=>.inl ⟨n,rfl,h⟩) (λ⟨k,_,h⟩=>.inr ⟨k,h⟩)⟩)
 |ext v w' h1 e=>exact .ext v w' h1 (e.elim (λh=>.inl ⟨n,rfl,h⟩) (λ⟨k,_,h⟩=>.inr ⟨k,h⟩))
theorem oy.x{P:W9}{s:Type}{G:Bool}{g:Q1}{cap:List x1}{E:s}{F:s->Prop}{H:s->List x1->s->x3->Prop}{y:x3->Prop}(h:oy P G g cap E F H y):pL P false G g cap E F H λ_=>y:=by
 refine⟨h.1,λl ax K w L M N hy O=>?_⟩;have:=h.2 l (λk w'=>w.heap.size<=w'.heap.size/\∃D,(∀r,D r->w.heap.size<=r/\r<w'.heap.size)/\ax D k w') (λk w'=>∃D,K D k w') w
  (λk J U f A ⟨I,D,a,j⟩=>⟨Y5 I f.size,D,λr z=>⟨(a r z).1,T7 (a r z).2 f.size⟩,L D k J U (f.V _) A.o j⟩) (λk J U f A ⟨D,j⟩=>⟨D,M D k J U (f.V _) A.o j⟩)
  (λk Q vs w' hR S ⟨I,D,a,j⟩=>hQ.mono (N D k Q vs w' a I hR S j) λv X T=>T.imp (λ⟨h1,⟨D',d1,_,p,B⟩,q,e,_⟩=>⟨h1,p,⟨Y5 I e,D',λr z=>(d1 r z).elim (λh=>⟨(a r h).1,T7 (a r h).2 e⟩) λh=>⟨Y5 I h.1,h.2⟩,B⟩,λW=>q (.inl W)⟩) λ⟨_,h1,p⟩=>⟨h1,D,p⟩) hy ⟨p8 _,_,λ_ h=>h.elim,O⟩
 cases this with
 |code h1 p=>exact .code h1 (p.mono λ_ _ ⟨v,B,q⟩=>⟨v,B,q.imp (λ⟨k,e,_,D,_,C⟩=>⟨D,k,e,C⟩) (λ⟨k,D,h⟩=>⟨D,k,h⟩)⟩)
 |ext v w' h1 q=>exact .ext v w' h1 (q.imp (λ⟨k,e,_,D,_,C⟩=>⟨D,k,e,C⟩) (λ⟨k,D,h⟩=>⟨D,k,h⟩))
theorem kf.old{P:W9}{C:x1}{B:x1->x3->(Exit->x3->Prop)->Prop}{E F:x3->Prop}{H:List (Nat×(x3->Prop))}(h:∃(f:Type)(G:Bool)(g:Q1)(cap:Array x1)(s:f)(y:f->Prop)(r:f->List x1->f->x3->Prop)(e:x3->Prop)(j:f->x3->Prop)(p:f->Exit->x3->Prop),
  C= .func (.func g) #[] cap/\oy P G g cap.toList s y r e/\(∀k vs q w,r k vs q w->vs.length=1)/\
  (∀w w',Ext w w'->e w->e w')/\(∀k w w',Ext w w'->j k w->j k w')/\(∀k ex w w',Ext w w'->p k ex w->p k ex w')/\
  e w/\j s w/\
  (∀a,∀k q w',e w'->r k [a] q w'->j k w'->B a w' λex z=>match ex with
   | .normal=>e z/\j q z/\(G=true->e0 w' z)
   |ex=>p k ex z)/\
  (∀k w',y k->j k w'->E w')/\(∀k w',p k .ret w'->F w')/\(∀k i w',p k (.exit i) w'->nc H i w')):kf P C w B E F H:=by
 obtain⟨f,G,g,cap,s,y,r,e,j,p,h1,I,K,L,M,N,O,Q,R,S,T,V⟩:=h;exact⟨f,false,G,g,cap,s,y,r,λ_=>e,λ_=>j,λ_=>p,h1,I.x,K,λ_=>L,λ_ k J U A _=>M k J U (A.ext λ_ _ h=>nomatch h.1),λ_ k ex J U A _=>N k ex J U (A.ext λ_ _ h=>nomatch h.1),O,Q,
  λa _ k q w' _ _ he W X=>R a k q w' he W X,λ_=>S,λ_=>T,λ_=>V⟩
theorem mg.old{P:W9}{C:x1}{B:x1->x1->x3->(Exit->x3->Prop)->Prop}{E F:x3->Prop}{H:List (Nat×(x3->Prop))}(h:∃(f:Type)(G:Bool)(g:Q1)(cap:Array x1)(s:f)(y:f->Prop)(r:f->List x1->f->x3->Prop)(e:x3->Prop)(j:f->x3->Prop)(p:f->Exit->x3->Prop),
  C= .func (.func g) #[] cap/\oy P G g cap.toList s y r e/\(∀k vs q w,r k vs q w->vs.length=2)/\
  (∀w w',Ext w w'->e w->e w')/\(∀k w w',Ext w w'->j k w->j k w')/\(∀k ex w w',Ext w w'->p k ex w->p k ex w')/\
  e w/\j s w/\
  (∀a b,∀k q w',e w'->r k [a,b] q w'->j k w'->B a b w' λex z=>match ex with
   | .normal=>e z/\j q z/\(G=true->e0 w' z)
   |ex=>p k ex z)/\
  (∀k w',y k->j k w'->E w')/\(∀k w',p k .ret w'->F w')/\(∀k i w',p k (.exit i) w'->nc H i w')):mg P C w B E F H:=by
 obtain⟨f,G,g,cap,s,y,r,e,j,p,h1,I,K,L,M,N,O,Q,R,S,T,V⟩:=h;exact⟨f,false,G,g,cap,s,y,r,λ_=>e,λ_=>j,λ_=>p,h1,I.x,K,λ_=>L,λ_ k J U A _=>M k J U (A.ext λ_ _ h=>nomatch h.1),λ_ k ex J U A _=>N k ex J U (A.ext λ_ _ h=>nomatch h.1),O,Q,
  λa b _ k q w' _ _ he W X=>R a b k q w' he W X,λ_=>S,λ_=>T,λ_=>V⟩
def eC(N:Nat)(free:fy):Code->List Nat->Env->x3->(Exit->Env->x3->Prop)->Prop
 | .skip,_,e,w,K=>K .normal e w
 | .label _,_,e,w,K=>K .normal e w
 | .ret,_,e,w,K=>K .ret e w
 | .exit i,_,e,w,K=>K (.exit i) e w
 | .region _ ops p,_,e,w,K=>
  bif p then ev w λw'=>tY P free ops e w' (K .normal)
  else ow P free ops ops.toList e w (K .normal)
 | .seq x y,rd,e,w,K=>
  bif Nat.ble 2 (kL x)then
   ck (lam (pJ N (dx x) (reads y++rd)).length λvs=>λw'=>eC N free y rd (ja (pJ N (dx x) (reads y++rd)) vs (lC (dx x) e)) w' K)
    λax=>eC N free x (reads y++rd) e w λex a w'=>match ex with
     | .normal=>match ke a (pJ N (dx x) (reads y++rd))with
      |some vs=>app (pJ N (dx x) (reads y++rd)).length ax vs w'
      |none=>False
     |ex=>K ex a w'
  else eC N free x (reads y++rd) e w λex a w'=>match ex with
   | .normal=>eC N free y rd a w' K
   |ex=>K ex a w'
 | .cond c x y,rd,e,w,K=>
  match eJ e c with
  |some (.b true)=>eC N free x rd e w K
  |some (.b false)=>eC N free y rd e w K
  |some (.v v)=>Split v (eC N free x rd e w K) (eC N free y rd e w K)
  |some .u=>False
  |none=>False
 | .block id c,rd,e,w,K=>eC N free c rd e w λex a w'=>match ex with
  | .exit i=>bif S1 i id then K .normal a w' else K (.exit i) a w'
  |ex=>K ex a w'
 | .loop c,rd,e,w,K=>
  match ke e (pK N (dx c) (reads c++rd) e)with
  |some vs=>
   Fp (pK N (dx c) (reads c++rd) e).length vs w λus w' k=>
    eC N free c (reads c++rd) (ja (pK N (dx c) (reads c++rd) e) us (lC (dx c) e)) w' λex a h=>match ex with
     | .normal=>match ke a (pK N (dx c) (reads c++rd) e)with
      |some q=>k q h
      |none=>False
     |ex=>K ex a h
  |none=>False
 | .scope c,rd,e,w,K=>eC N free c rd e w K
 | .rangeFunc f j r body,_,e,w,K=>
  bif free.1 then False else
  match eJ e f with
  |some s=>
   Ft P s.val j.size w
    (λvs w' k=>eC N free r (reads body) (ja j.toList.reverse vs.reverse e) w' λex a h=>match ex with
     | .normal=>Over w.heap.size h λz=>eC N free body [] a z λex _ A=>k ex A
     |_=>False)
    (λw'=>K .normal e w') (bif jb body then λw'=>K .ret e w' else λ_=>False) (uj (λi w'=>K (.exit i) e w') (jH body))
  |none=>False
 | .goto _,_,_,_,_=>False
 | .refuse _,_,_,_,_=>False
end
theorem ru{w0:x3}(h:ct n w0 w){l:Nat}(j:w0.heap.size<=l)(o:Obj):ct n w0 (w.putObj l o):=
 ⟨h.os,h.tape,h.output,by simpa using h.size,λr x a I=>by
  have e:=(n9.1 a).1;rw[Q2 Ω];exact h.aY r x a I,λr x f a I=>by
  have e:=(n9.1 a).1;rw[Q2 Ω];exact h.old r x f a I⟩
theorem Fu{w0:x3}(h:e0 w0 w){l:Nat}{a:Obj}(f:w.heap[l]?=σ a)(j:re a=false)(o:Obj):e0 w0 (w.putObj l o):=λr x p I=>by
 have h1:=h r x p I;by_cases e:r=l
 .subst e;rw[f]at h1;cases h1;rw[j]at I;cases I
 .rw[Q2 e];exact h1
theorem pM{l:Nat}{e:Obj}(h:w.heap[l]?=σ e)(j:fw e=false)(o:Obj):Ext w (w.putObj l o):=
 ⟨Ξ,λr x a I=>by
  by_cases f:r=l
  .subst f;rw[h]at a;cases a;rw[j]at I;cases I
  .rw[Q2 f];exact a⟩
theorem xO{l:Nat}{o:Obj}(f:fw o=false):Ext (w.putObj l o) w:=
 ⟨Ξ,λr x a I=>by
  by_cases e:r=l
  .subst e;rcases Nat.lt_or_ge r w.heap.size with h|h
   .rw[x3.putObj_heap_same h]at a;cases a;rw[f]at I;cases I
   .rw[Array.getElem?_eq_none (by simpa using h)]at a;cases a
  .rw[Q2 e]at a;exact a⟩
theorem oz(w:x3)(o:Obj):Ext w (w.alloc o):=pB w o
theorem oA(w:x3)(o:Obj):cF w (w.alloc o):=pC w o
def kg(D:Nat):Deferred:={target:=.collected D,args:=#[]}
def lD(w:x3)(e:List Deferred):Prop:=∃a:List Nat,e=a.map kg/\a.Nodup/\∀D∈a,w.heap[D]?=σ (.deferred (σ []))
theorem lD.cj{a:List Deferred}(h:lD w a)(e:ct n w w'):lD w' a:=by
 obtain⟨f,h1,j,p⟩:=h;exact⟨f,h1,j,λD q=>e.aY D _ (p D q) rfl⟩
section
variable{P:W9}{N:Nat}
def Fv(w:x3)(e f:List Deferred):Prop:=∃a:List Nat,f=a.map kg++e/\∀D∈a,w.heap.size<=D
def gG(n:Nat)(w:x3)(e:List Deferred)(w':x3)(a:List Deferred):Prop:=ct n w w'/\lD w' a/\Fv w e a
theorem gG.refl{a:List Deferred}(h:lD w a):gG n w a w a:=⟨ct.refl _ _,h,[],rfl,λ_ h=>by cases h⟩
theorem gG.trans{J:x3}{a e f:List Deferred}(h:gG n w a J e)(k:gG n J e w' f):gG n w a w' f:=by
 obtain⟨j,A,p,a3,a4⟩:=h;obtain⟨q,r,s,x,y⟩:=k;refine⟨j.trans q,r,s++p,by simp[x,a3],λD z=>?_⟩;rcases o9.1 z with h|h
 .exact Y5 j.size (y D h)
 .exact a4 D h
theorem gG.same{a:List Deferred}(h:lD w a)(e:ct n w w'):gG n w a w' a:=⟨e,h.cj e,[],rfl,λ_ h=>by cases h⟩
def kM:Exit->Bool
 | .panic _=>false
 | .outgrown=>false
 | .goto _=>false
 |_=>true
def mh(N:Nat)(free:fy)(f:Bool)(K:Exit->Env->x3->Prop)(D:List Nat)(a:Act)(w:x3)(ex:Exit)(a':Act)(w':x3):Prop:=
 kM ex=true/\∃e,K ex e w'/\S7 N e a'/\(∀t,t∉D->a'.tmps.getD t undef=a.tmps.getD t undef)/\(f=true->a'.defers=a.defers)/\
  (free.1=false->gG free.2 w a.defers w' a'.defers)
theorem mh.step{free:fy}{f j:Bool}{K:Exit->Env->x3->Prop}{D':List Nat}{a e a':Act}{J:x3}{ex:Exit}(h:mh N free j K D' e J ex a' w')(q:∀t,t∈D'->t∈D)(hk:∀t,t∉D->e.tmps.getD t undef=a.tmps.getD t undef)(r:f=true->j=true)(s:f=true->e.defers=a.defers)(x:free.1=false->gG free.2 w a.defers J e.defers):mh N free f K D a w ex a' w':=by
 obtain⟨y,z,h1,A,B,C,E⟩:=h;exact⟨y,z,h1,A,λt p=>(B t λh=>p (q t h)).trans (hk t p),λh=>(C (r h)).trans (s h),λh=>(x h).trans (E h)⟩
theorem rv{D:List Nat}{t:Nat}{x:eB}:∀{e:Env},look (lC D e) t=σ x->look e t=σ x/\t∉D
 |[],h=>by cases h
 |(s,y)::r,h=>by
  simp only[lC]at h;cases hm:i9 s D with
  |true=>
   rw[hm]at h;simp only[cond_true]at h;obtain⟨h1,f⟩:=rv h;refine⟨?_,f⟩;simp only[look];cases a:S1 s t with
   |true=>exact absurd (uf.1 hm) (by rw[Nat.eq_of_beq_eq_true a];exact f)
   |false=>exact h1
  |false=>
   rw[hm]at h;simp only[cond_false,look]at h ⊢;cases a:S1 s t with
   |true=>
    rw[a]at h;refine⟨h,λj=>?_⟩;rw[<-Nat.eq_of_beq_eq_true a]at j;rw[uf.2 j]at hm;cases hm
   |false=>
    rw[a]at h;exact rv h
theorem ul{a:Act}{e:Env}:∀{S:List Nat}{vs:List x1},S7 N e a->(∀p∈S.zip vs,a.tmps.getD p.1 undef=p.2)->S7 N (ja S vs e) a
 |[],_,h,_=>by simpa[ja]using h
 |t::r,[],h,_=>by simpa[ja]using h
 |t::r,v::vs,h,j=>by
  have q:=ul (S:=r) (vs:=vs) h λp w=>j p (by simp[w]);refine⟨q.1,λs x I=>?_⟩;simp only[ja,look]at I;cases f:S1 t s with
  |true=>
   rw[f]at I;simp only[cond_true,X0]at I;subst I;rw[<-Nat.eq_of_beq_eq_true f];exact j (t,v) Ξ
  |false=>rw[f]at I;exact q.2 s x I
theorem rx{e:Env}{a:Act}(s:S7 N e a):∀{S:List Nat}{vs:List x1},ke e S=σ vs->vs.length=S.length/\∀p∈S.zip vs,a.tmps.getD p.1 undef=p.2
 |[],vs,h=>by simp[ke]at h;subst h;simp
 |t::r,vs,h=>by
  simp only[ke]at h;cases j:look e t with
  |none=>rw[j]at h;cases h
  |some x=>
   rw[j]at h;simp only at h;cases q:ke e r with
   |none=>rw[q]at h;cases h
   |some us=>
    rw[q]at h;simp only[X0]at h;subst h;obtain⟨h1,w⟩:=rx s q;refine⟨by simp[h1],λp f=>?_⟩;simp only[List.zip_cons_cons,V3]at f;rcases f with rfl|f
    .exact s.2 t x j
    .exact w p f
theorem Fw{a a':Act}{e f:Env}(j:S7 N e a)(p:S7 N f a')(hk:∀t,t∉D->a'.tmps.getD t undef=a.tmps.getD t undef):S7 N (lC D e) a':=
 ⟨p.1,λt x h=>by
  obtain⟨h1,q⟩:=rv h;rw[hk t q];exact j.2 t x h1⟩
theorem Fx{o:T5}{t:Nat}(a:o.dst=σ t)(l:List T5)(hm:o∈l):t∈m9 l:=by
 induction l with
 |nil=>cases hm
 |cons o' l e=>
  simp only[m9];rcases V3.1 hm with h|h
  .rw[<-h,a];simp
  .have:=e h;cases o'.dst with
   |none=>exact this
   |some d=>exact .tail _ this
theorem xP{free:fy}{j:Bool}{K:Exit->Env->x3->Prop}{a a':Act}(p:free.1=false->lD w a.defers)(h:mc N free (K .normal) D a w a' w'):
  mh N free j K D a w .normal a' w':=by
 obtain⟨q,h1,r,e,s⟩:=h;exact⟨rfl,q,h1,r,e.2,λ_=>e.1,λf=>by rw[e.1];exact gG.same (p f) (s f)⟩
theorem xQ:∀(a:List Nat)(vs:List x1)(p:Nat)(v:x1)(e:Env),a.length=vs.length->ja (a++[p]) (vs++[v]) e=ja a vs ((p,.v v)::e)
 |[],[],_,_,_,_=>rfl
 |[],_::_,_,_,_,h=>by simp at h
 |_::_,[],_,_,_,h=>by simp at h
 |q::a,u::vs,p,v,e,h=>by
  simp only[List.cons_append,ja];rw[xQ a vs p v e (by simpa using h)]
theorem xR:∀(a:List Nat)(vs:List x1)(tm:Array x1)(e:Env),a.length=vs.length->(a.all λt=>Nat.blt t N)=true->S7 N e {tmps:=tm,defers:=[]}->
  S7 N (ja a.reverse vs.reverse e) {tmps:=(a.zip vs).foldl (λtm (p:Nat×x1)=>tm.setIfInBounds p.1 p.2) tm,defers:=[]}
 |[],[],_,_,_,_,h=>h
 |[],_::_,_,_,h,_,_=>by simp at h
 |_::_,[],_,_,h,_,_=>by simp at h
 |p::a,v::vs,tm,e,q,f,h=>by
  have j:a.length=vs.length:=by simpa using q
  simp only[List.all_cons,U4]at f;simp only[List.zip_cons_cons,T9,List.reverse_cons];rw[xQ _ _ _ _ _ (by simpa using j)];exact xR a vs _ _ j f.2 (h.put (d:=σ p) (x:=.v v) (v:=v) f.1 rfl)
def jc(free:fy)(c:Code):Bool:=free.1|| !kd c
theorem xS:∀f a b:Bool,(f|| !(a||b))=true->(f|| !a)=true:=Φ
theorem xT:∀f a b:Bool,(f|| !(a||b))=true->(f|| !b)=true:=Φ
def exitCode:Exit->Option Code
 | .ret=>σ .ret
 | .exit id=>σ (.exit id)
 |_=>ν
end
section
variable{P:W9}{N:Nat}
def Sound(P:W9)(N:Nat)(c:Code):Prop:=
 ∀(free:fy)(r:Option Nat)(rd:List Nat)(e:Env)(a:Act)(w:x3)(K:Exit->Env->x3->Prop)(Q:Exit->Act->x3->Prop),
  wf N c=true->(∀l,r=σ l->free.1=false/\∃f,w.heap[l]?=σ (.loop f))->(free.1=false->lD w a.defers)->
  eC P N free c rd e w K->S7 N e a->(∀ex a' w',mh N free (jc free c) K (dx c) a w ex a' w'->Q ex a' w')->(∀h a w,¬Q (.panic h) a w)->
  c.wpIn (eu r) 0 P Q a w
theorem Fy{x y:Code}(aa:Sound P N x)(ab:Sound P N y):Sound P N (.seq x y):=by
 intro free r rd e a w K Q F O ac h R S T;simp only[wf,U4]at F;have U:∀t,t∈dx x->t∈dx (.seq x y):=λt q=>by simp[dx,q]
 have ad:∀t,t∈dx y->t∈dx (.seq x y):=λt q=>by simp[dx,q]
 have V:jc free (.seq x y)=true->jc free x=true:=λh=>xS _ _ _ h;have ae:jc free (.seq x y)=true->jc free y=true:=λh=>xT _ _ _ h;refine wpIn_seq ?_;have W:∀(f:Env)(j:Act)(J:x3),eC P N free y rd f J K->S7 N f j->(∀t,t∉dx x->j.tmps.getD t undef=a.tmps.getD t undef)->
   (jc free (.seq x y)=true->j.defers=a.defers)->(free.1=false->gG free.2 w a.defers J j.defers)->y.wpIn (eu r) 0 P Q j J:=by
  intro f j J h1 s hk A p;refine ab free r rd f j J K Q F.2 ?_ (λh=>(p h).2.1) h1 s ?_ T
  .intro l af;obtain⟨X,ag,E⟩:=O l af;exact⟨X,ag,(p X).1.aY _ _ E rfl⟩
  .intro ex a' w' B;exact S ex a' w' (B.step ad (λt q=>hk t λh=>q (U t h)) ae A p)
 have Y:∀(z:Exit->Env->x3->Prop),eC P N free x (reads y++rd) e w z->
   (∀f j J,mh N free (jc free x) z (dx x) a w .normal j J->S7 N f j->z .normal f J->(∀t,t∉dx x->j.tmps.getD t undef=a.tmps.getD t undef)->
    (jc free (.seq x y)=true->j.defers=a.defers)->(free.1=false->gG free.2 w a.defers J j.defers)->y.wpIn (eu r) 0 P Q j J)->
   (∀ex f J,ex≠ .normal->z ex f J->K ex f J)->x.wpIn (eu r) 0 P (Exit.then (y.wpIn (eu r) 0 P Q) Q) a w:=by
  intro z C p ah;refine aa free r _ e a w z _ F.1 O ac C R ?_ ?_
  .intro ex j J B;cases ex with
   |normal=>
    have ai:=B;obtain⟨E,f,h1,G,H,I,L⟩:=B;exact p f j J ai G h1 H (λh=>I (V h)) L
   |_=>
    obtain⟨E,f,h1,G,H,I,L⟩:=B;refine S _ j J ⟨E,f,ah _ f J Ξ h1,G,λt q=>H t λh=>q (U t h),λh=>I (V h),L⟩
  .intro aj a w ak;exact T aj a w ak
 simp only[eC]at h;cases Z:Nat.ble 2 (kL x)with
 |false=>
  rw[Z]at h;refine Y _ h (λf j J _ s h1 hk A p=>W f j J h1 s hk A p) ?_;intro ex f J M h1;cases ex<;>first|exact absurd rfl M|exact h1
 |true=>
  rw[Z]at h;refine Y _ h (λf j J _ s h1 hk A p=>?_) ?_
  .simp only at h1;cases C:ke f (pJ N (dx x) (reads y++rd))with
   |none=>rw[C]at h1;exact h1.elim
   |some vs=>
    rw[C]at h1;obtain⟨al,am⟩:=rx s C;simp only at h1;rw[rq _ _ _ al]at h1;exact W _ j J h1 (ul (Fw R s hk) am) hk A p
  .intro ex f J M h1;cases ex<;>first|exact absurd rfl M|exact h1
theorem Fz{c:Code}(ac:Sound P N c):Sound P N (.loop c):=by
 intro free r rd e a w K Q V ad ae h F af ag;simp only[wf]at V;simp only[eC]at h;generalize ax:pK N (dx c) (reads c++rd) e=S at h;cases G:ke e S with
 |none=>rw[G]at h;exact h.elim
 |some vs=>
  rw[G]at h;simp only at h;obtain⟨ah,ai,q,aj⟩:=h;obtain⟨ak,al⟩:=rx F G;let Inv:Act->x3->Prop:=λf J=>∃us,us.length=S.length/\app S.length ah us J/\(∀p∈S.zip us,f.tmps.getD p.1 undef=p.2)/\f.tmps.size=N/\
   (∀t,t∉dx c->f.tmps.getD t undef=a.tmps.getD t undef)/\(jc free c=true->f.defers=a.defers)/\(free.1=false->gG free.2 w a.defers J f.defers)
  let s:Act->List x1:=λf=>S.map λt=>f.tmps.getD t undef;have W:∀(f:Act)(us:List x1),us.length=S.length->(∀p∈S.zip us,f.tmps.getD p.1 undef=p.2)->s f=us:=by
   intro f us y z;apply List.ext_getElem
   .simp[s,y]
   .intro i h1 j;have hi:i<S.length:=by simpa[s]using h1
    have am:(S[i],us[i])∈S.zip us:=by
     have:=S9 (l:=S.zip us) (n:=i) (by simp[List.length_zip,y,hi]);simpa using this
    simpa[s]using z _ am
  refine wpIn_loop Inv (λf J=>app S.length ai (s f) J) ⟨vs,ak,q,al,F.1,λ_ _=>rfl,λ_=>rfl,λA=>gG.refl (ae A)⟩ ?_;rintro f J ⟨us,y,an,z,ao,hk,A,B⟩;have C:=rr S.length _ us aj;rw[rq _ _ _ y]at C;have C:=C J an;have ap:S7 N (ja S us (lC (dx c) e)) f:=by
   refine ul (a:=f) (e:=lC (dx c) e) ⟨ao,λt x E=>?_⟩ z;obtain⟨h1,j⟩:=rv E;rw[hk t j];exact F.2 t x h1
  refine ac free r _ _ f J _ _ V ?_ (λh=>(B h).2.1) C ap ?_ ?_
  .intro l aq;obtain⟨X,au,q⟩:=ad l aq;exact⟨X,au,(B X).1.aY _ _ q rfl⟩
  .intro ex H U I;have Y:∀t,t∉dx c->H.tmps.getD t undef=a.tmps.getD t undef:=by
    obtain⟨_,_,_,_,L,_,_⟩:=I;exact λt E=>(L t E).trans (hk t E)
   cases ex with
   |normal=>
    obtain⟨q,M,h1,j,L,O,R⟩:=I;simp only at h1;cases T:ke M S with
    |none=>rw[T]at h1;exact h1.elim
    |some Z=>
     rw[T]at h1;obtain⟨aa,ab⟩:=rx j T;refine⟨⟨Z,aa,h1.1,ab,j.1,Y,λh=>(O h).trans (A h),λh=>(B h).trans (R h)⟩,?_⟩;rw[W f us y z,W H Z aa ab];exact h1.2
   |_=>
    obtain⟨q,M,h1,j,L,O,R⟩:=I;exact af _ H U ⟨q,M,h1,j,Y,λh=>(O h).trans (A h),λh=>(B h).trans (R h)⟩
  .intro av a w aw;exact ag av a w aw
theorem FA{o:Obj}(h:fw o=false):book o=true\/re o=true:=by cases o<;>first|exact .inl rfl|exact .inr rfl|cases h
theorem FB{l:Nat}{f s h:x3}{w y:Obj}(z:f.heap[l]?=σ w)(a:ct n f s)(e:ct n (s.putObj l y) h)(A:l<h.heap.size)(hi:e0 f h):cF f (h.putObj l w):=
 ⟨e.os.trans a.os,jE.trans e.tape a.tape,e.output.trans a.output,by have h1:=a.size;have B:=e.size;simp at B ⊢;omega,λr x j I=>by
  by_cases q:r=l
  .subst q;rw[z]at j;cases j;exact x3.putObj_heap_same A
  .rw[Q2 q];rcases FA I with p|p
   .exact e.aY r x (by rw[Q2 q];exact a.aY r x j p) p
   .exact hi r x j p⟩
theorem FC{f:S5}{S:Array Tmp}{X body:Code}(bd:Sound P N X)(ah:Sound P N body):Sound P N (.rangeFunc f S X body):=by
 intro free r rd e a w K Q aL R av h ab be b1;simp only[wf,U4]at aL;obtain⟨bf,bg,bh⟩:=aL;simp only[eC]at h;obtain⟨fr,b⟩:=free;cases fr with
 |true=>exact h.elim
 |false=>
  simp only[cond_false]at h;cases aw:eJ e f with
  |none=>rw[aw]at h;exact h.elim
  |some b2=>
   rw[aw]at h;obtain⟨aM,o,G,g,cap,b3,b4,b5,ai,aN,ay,bi,⟨aO,bj⟩,bk,haP,aj,az,hbl,bm,bn,bo,bp,bq⟩:=h;have br:∀m k ex w',kM ex=true->ex≠ .normal->ay m k ex w'->K ex e w':=by
    intro m k ex w' ac aA ak;cases ex with
    |normal=>exact absurd rfl aA
    |ret=>
     have:=bp m k w' ak;cases R:jb body with
     |true=>rw[R]at this;exact this
     |false=>rw[R]at this;exact this.elim
    |exit i=>exact xN (bq m k i w' ak)
    |_=>cases ac
   have bt:a.eval f= .func (.func g) #[] cap:=by rw[ab.eJ aw];exact bi
   refine wpIn_rangeFunc ?_;intro fn _;obtain⟨D,mark,l,z,s,bu,C,aQ,al,L,aR,am⟩:∃(D:Nat)(mark:List Deferred)(l:Nat)(z:x3)(s:LoopState->Option Code->Loop),
     (Instr.enterLoop fn a.tmps S X body (eu r).round).run P w= .ok (l,mark) z/\
     s=(λst bw=>{state:=st,pending:=bw,fn,tmps:=a.tmps,params:=S,assign:=X,body,defers:=D})/\
     z.heap[l]?=σ (.loop (s .ready ν))/\(mark=[]\/(mark=[kg D]/\z.heap[D]?=σ (.deferred (σ []))/\w.heap.size<=D/\D≠l))/\Ext w z/\cF w z/\w.heap.size<=l:=by
    cases r with
    |none=>
     refine⟨w.heap.size,[kg w.heap.size],w.heap.size+1,_,_,run_enterLoop_outer _ _ _ _ _,rfl,?_,.inr ⟨rfl,?_,p8 _,Ω⟩,?_,?_,Ω⟩
     .have:=x3.alloc_heap_new (w.alloc (.deferred (σ []))) (.loop {state:=.ready,pending:=ν,fn,tmps:=a.tmps,params:=S,assign:=X,body,defers:=w.heap.size});rwa [x3.size_alloc]at this
     .exact (Below.heap_alloc _ _ _ Ξ).trans (x3.alloc_heap_new w _)
     .exact (oz w _).trans (oz _ _)
     .exact (oA w _).trans (oA _ _)
    |some bx=>
     obtain⟨_,bz,M⟩:=R bx rfl;exact⟨bz.defers,[],w.heap.size,_,_,run_enterLoop_inner M _ _ _ _ _,rfl,x3.alloc_heap_new w _,.inl rfl,oz _ _,oA _ _,p8 _⟩
   let O:x3->Prop:=λj=>mark=[]\/(mark=[kg D]/\j.heap[D]?=σ (.deferred (σ []))/\w.heap.size<=D/\D≠l);have aB:∀{m:Nat}{A B:x3},ct m A B->O A->O B:=λE h=>h.imp id λ⟨h1,q,y⟩=>⟨h1,E.aY _ _ q rfl,y⟩;have an:∀{A:x3}(o:Obj),O A->O (A.putObj l o):=λo h=>h.imp id λ⟨h1,q,y,H⟩=>⟨h1,(Q2 H).trans q,y,H⟩;have bA:ct b w z:=aR.b;have aS:=(n9.1 aQ).1;have aT:∀{A B:x3},fx z.heap.size A B->O A->O B:=λE h=>h.imp id λ⟨h1,q,y⟩=>⟨h1,E.old _ _ (by
    rcases al with hm|⟨_,av,_⟩
    .rw[hm]at h1;cases h1
    .exact (n9.1 av).1) q rfl,y⟩
   have ad:∀{A:x3}(o:Obj),fx w.heap.size A (A.putObj l o):=λ{A}o=>⟨rfl,.ka,rfl,Ξ,λr x R ak _=>by rw[Q2 Ω];exact ak⟩;let ax:(Nat->Prop)->aM->x3->Prop:=λm k j=>aN m k j/\j.heap[l]?=σ (.loop (s .ready ν))/\ct b w j/\O j;let aU:(Nat->Prop)->aM->x3->Prop:=λm k j=>∃ex c,kM ex=true/\exitCode ex=σ c/\ay m k ex j/\j.heap[l]?=σ (.loop (s .done (σ c)))/\ct b w j/\O j;have own:∀{m:Nat->Prop}{A B:x3},ae (λr=>o=true/\z.heap.size<=r/\¬m r) A B->ae (λr=>o=true/\w.heap.size<=r/\¬m r) A B:=λh=>h.mono λr _ h=>⟨h.1,Y5 L.size h.2.1,h.2.2⟩;have aC:=bj l ax aU z (λm k A B he E ⟨h1,q,y,H⟩=>⟨aj m k A B (own he) (E.mono L.size) h1,E.old _ _ aS q rfl,y.xA E L.size,aT E H⟩)
    (λm k A B he E ⟨ex,c,M,h1,q,y,H,af⟩=>⟨ex,c,M,h1,az m k ex A B (own he) (E.mono L.size) q,E.old _ _ aS y rfl,H.xA E L.size,aT E af⟩) ?round (haP _ _ _ L hbl) ⟨aj _ _ _ _ (L.V _) aR.o bm,aQ,bA,al⟩
   case round=>
    intro m k ao vs j aV bB hai aW ⟨hi,ap,bC,bD⟩;have aD:=bk k vs ao j aW;have aX:=run_yield (P:=P) (args:=vs.toArray) ap (by rw[C];simp[aD]);rw[C]at aX;refine⟨fn,_,X,body,aX,roundIn_of_wpIn trivial ?_⟩;have bE:(S.zip vs.toArray).foldl (λtmps x=>match x with|(t,a)=>tmps.setIfInBounds t a) a.tmps=(S.toList.zip vs).foldl (λtm (p:Nat×x1)=>tm.setIfInBounds p.1 p.2) a.tmps:=by
     rw[<-Array.foldl_toList,Array.toList_zip]
    have aZ:=xR (N:=N) S.toList vs a.tmps e (by simp[aD]) bf (show S7 N e {tmps:=a.tmps,defers:=[]}from⟨ab.1,ab.2⟩);rw[<-bE]at aZ;have bF:j.heap[l]?=σ (.loop (s .ready ν)):=ap;refine bd (false,b) (σ l) _ _ _ j _ _ bg (λl' aE=>⟨rfl,by cases aE;exact⟨_,ap⟩⟩) (λ_=>⟨[],rfl,List.nodup_nil,λD al=>by cases al⟩) (by have ah:=rr _ _ vs bn;rw[rq _ _ _ aD]at ah;exact ah m k ao j (λr R=>⟨Y5 L.size (aV r R).1,(aV r R).2⟩) (Y5 L.size bB) hai aW hi) aZ ?_ (λ_ _ _ h=>h);intro ex a1 F aF;obtain⟨M,b6,h1,q,y,H,af⟩:=aF;obtain⟨T,bG,_⟩:=af rfl;cases ex with
    |normal=>
     have Y:F.heap[l]?=σ (.loop (s .ready ν)):=T.aY _ _ ap rfl;have bH:=(n9.1 Y).1;refine⟨_,run_beginRound Y (by rw[C]),?_⟩;have bI:Ext F (F.putObj l (.loop {s .ready ν with state:=.busy})):=pM Y rfl _;have a2:(F.putObj l (.loop {s .ready ν with state:=.busy})).heap[l]?=σ (.loop {s .ready ν with state:=.busy}):=x3.putObj_heap_same bH;have bJ:lD (F.putObj l (.loop {s .ready ν with state:=.busy})) a1.defers:=by
      obtain⟨aq,Z,aa,ag⟩:=bG;refine⟨aq,Z,aa,λD' U=>?_⟩;have:=ag D' U;have aA:D'≠l:=λhe=>by rw[he,Y]at this;cases this
      rw[Q2 aA];exact this
     have a6:ct b w (F.putObj l (.loop {s .ready ν with state:=.busy})):=ru (bC.trans T) am _;have a7:=an (.loop {s .ready ν with state:=.busy}) (aB T bD);have bK:=h1 _ bI ⟨xO rfl,ad _⟩ (Fu (e0.refl _) Y rfl _);refine ah (false,b) (σ l) _ _ a1 _ _ _ bh (λl' aE=>⟨rfl,by cases aE;exact⟨_,a2⟩⟩) (λ_=>bJ) bK q ?_ (λ_ _ _ h=>h);intro bL b7 I aF;obtain⟨aG,b8,g1,b9,ca,cb,bM⟩:=aF;obtain⟨J,_,_⟩:=bM rfl;have aH:I.heap[l]?=σ (.loop {s .ready ν with state:=.busy}):=J.aY _ _ a2 rfl;have aI:=(n9.1 aH).1;have a8:=λbN=>run_endRound (P:=P) bN aH;have au:∀(o:Obj),Ext I (I.putObj l o):=λo=>pM aH rfl o;have ba:∀(ex:Exit)(c:Code),kM ex=true->exitCode ex=σ c->(bif o then False else ay m k ex I)->
       ∃v w',(Instr.endRound l (σ c)).run P I= .ok v w'/\∃aJ,Ending.returned v= .returned aJ/\((aJ= .bool true/\(∃bU,(∀r,bU r->m r\/j.heap.size<=r/\r<w'.heap.size)/\(∀r,m r->bU r)/\ai bU w'/\ax bU ao w')/\(G=true\/o=true->cF j w')/\j.heap.size<=w'.heap.size/\(o=true->ae (λr=>r<z.heap.size\/m r) j w'))\/(o=false/\aJ= .bool false/\aU m k w')):=by
      intro ex c ac bO bb;cases o with
      |true=>exact bb.elim
      |false=>
       refine⟨_,_,a8 (σ c),_,rfl,.inr ⟨rfl,rfl,ex,c,ac,bO,az m k ex _ _ ((au _).V _) (ad _) bb,?_,ru (a6.trans J) am _,an _ (aB J a7)⟩⟩;rw[x3.putObj_heap_same aI,C];rfl
     cases bL with
     |normal=>
      have bP:j.heap.size<=I.heap.size:=by
       have h1:=T.size;have q:=J.size;simp at q;omega
      obtain⟨⟨bU,d1,d2,Z,aa⟩,bQ,bR⟩:(∃bU,(∀r,bU r->m r\/j.heap.size<=r/\r<I.heap.size)/\(∀r,m r->bU r)/\ai bU I/\aN bU ao I)/\(G=true\/o=true->e0 j I)/\(o=true->ae (λr=>r<z.heap.size\/m r) j I):=by
       cases o with
       |true=>exact⟨g1.1,λ_=>g1.2.1,λ_=>g1.2.2.mono λr _ h=>h.imp (λh=>T7 h L.size) id⟩
       |false=>exact⟨⟨m,λr h=>.inl h,λ_ h=>h,g1.1,g1.2.1⟩,λh=>g1.2.2 (h.elim id λh=>nomatch h),λh=>nomatch h⟩
      refine⟨_,_,a8 ν,_,rfl,.inl ⟨rfl,⟨bU,by simpa using d1,d2,haP _ _ _ (au _) Z,aj _ _ _ _ ((au _).V _) (ad _) aa,?_,ru (a6.trans J) am _,an _ (aB J a7)⟩,λbS=>?_,?_,λbT=>(bR bT).trans ((au _).V _)⟩⟩
      .rw[x3.putObj_heap_same aI,C];rfl
      .have:=FB bF T J aI (bQ bS);subst C;exact this
      .simpa using bP
     |ret=>exact ba .ret _ rfl rfl g1
     |exit id=>exact ba (.exit id) _ rfl rfl g1
     |goto t=>cases aG
     |panic bV=>cases aG
     |outgrown=>cases aG
    |_=>exact h1.elim
   have aC:=gE.calls P aC aO;refine⟨l,mark,z,{target:=.fn (.func g) cap,args:=#[.func (.yield l) #[] #[]]},z,g,#[.func (.yield l) #[] #[]]++cap,z,bu,?_,λ_ _=>trivial,?_,tR _ _,?_⟩
   .simp only[resolve,bt];simp[go_sem]
   .simp only[invoke];exact aO _ _
   .have bW:(#[.func (.yield l) #[] #[]]++cap:Array x1)=(x1.func (.yield l) #[] #[]::cap.toList).toArray:=by apply Array.toList_inj.1;simp
    rw[bW];refine CallsIn.mono (xB aC) ?_;rintro cc F ⟨v,rfl,bX⟩;have left:∀(W:Loop)(ex:Exit),kM ex=true->F.heap[l]?=σ (.loop W)->W.state≠ .busy->ct b w F->O F->K ex e (F.putObj l (.loop {W with state:=.exhausted}))->
      Q ex {a with defers:=mark++a.defers} (F.putObj l (.loop {W with state:=.exhausted})):=by
     intro W ex ac Y cd T bc bY;have J:ct b w (F.putObj l (.loop {W with state:=.exhausted})):=ru T am _;refine be ex _ _ ⟨ac,e,bY,⟨ab.1,ab.2⟩,λ_ _=>rfl,(λh=>by simp[jc,kd]at h),λ_=>⟨J,?_,?_⟩⟩
     case refine_2=>
      rcases bc with hm|⟨hm,_,bZ,_⟩
      .exact⟨[],by simp[hm],λ_ h=>by cases h⟩
      .exact⟨[D],by simp[hm],λD' U=>by simp at U;omega⟩
     obtain⟨aq,Z,aa,ag⟩:=av rfl;have aK:=an (.loop {W with state:=.exhausted}) bc;rcases aK with hm|⟨hm,aK,bZ,_⟩
     .exact⟨aq,by simp[hm,Z],aa,λD' U=>J.aY _ _ (ag D' U) rfl⟩
     .refine⟨D::aq,by simp[hm,Z],List.nodup_cons.2 ⟨λb0=>?_,aa⟩,λD' U=>?_⟩
      .have:=(n9.1 (ag D b0)).1;omega
      .rcases V3.1 U with h|h
       .rw[h];exact aK
       .exact J.aY _ _ (ag D' h) rfl
    rcases bX with⟨m,k,hk,h1,q,y,H⟩|⟨m,k,ex,c,M,h1,q,y,H,af⟩
    .refine⟨ν,_,by have:=run_endLoop (P:=P) q (by rw[C];simp);rw[C]at this;exact this,?_⟩;have:=left (s .ready ν) .normal rfl q (by rw[C];simp) y H (bo m _ _ hk (aj m _ _ _ ((pM q rfl _).V _) (ad _) h1));rw[C]at this;exact this
    .refine⟨σ c,_,by have:=run_endLoop (P:=P) y (by rw[C];simp);rw[C]at this;exact this,?_⟩;have:=left (s .done (σ c)) ex M y (by rw[C];simp) H af (br m k ex _ M (by intro he;rw[he]at h1;cases h1) (az m _ _ _ _ ((pM y rfl _).V _) (ad _) q));rw[C]at this;cases ex with
     |normal=>cases h1
     |ret=>cases h1;exact wpIn_ret this
     |exit id=>cases h1;exact wpIn_exit this
     |goto t=>cases M
     |panic bV=>cases M
     |outgrown=>cases M
theorem ry{b:Frame}{a:Act}{k:List Item}{cs:List Frame}{c:Code}:
  step P (lone (b.atR a (.code (.scope c)::k)) cs w)= .next (lone (b.atR a (.code c:: .inScope c::k)) cs w):=
 step_lone_go (by simp[stepG,stepG.exec,Frame.atR])
theorem FD{b:Frame}{a:Act}{k:List Item}{cs:List Frame}{c:Code}:
  step P (lone (b.atR a (.inScope c::k)) cs w)= .next (lone (b.atR a k) cs w):=
 step_lone_go (by simp[stepG,stepG.exec,Frame.atR])
theorem FE{F:Fence}{c:Code}{Q:Exit->Act->x3->Prop}{a:Act}(h:c.wpIn F n P (λex a' w'=>kM ex=true/\Q ex a' w') a w):
  (Code.scope c).wpIn F n P Q a w:=by
 intro b k cs A p q;have f:(lone (b.atR a (.code (.scope c)::k)) cs w).fenced P F:=fenced_calm p q rfl;obtain⟨e,r,s,⟨x,y⟩,j⟩:=h b (.inScope c::k) cs A p q;have z:∀id,exitTo id (.inScope c::k)=exitTo id k:=λid=>by simp[exitTo]
 cases e with
 |normal=>exact⟨.normal,r,s,y,.head f ry (StepsIn.trans j (.one (fenced_calm p q rfl) FD))⟩
 |exit id=>
  exact⟨.exit id,r,s,y,λB hk=>.head f ry (j.1 B (by rw[z];exact hk)),
   λC hk=>let⟨E,h1,G⟩:=j.2 C (by rw[z];exact hk);⟨E,h1,.head f ry G⟩⟩
 |ret=>exact⟨_,r,s,y,.of_steps (.one f ry) j⟩
 |goto l=>cases x
 |panic H=>cases x
 |outgrown=>cases x
theorem sound(hm:P.follows .mixedOrders=true)(c:Code):Sound P N c:=by
 induction c with
 |skip=>exact λfree r rd e a w K Q _ _ p h j q _=>wpIn_skip (q _ _ _ ⟨rfl,e,h,j,λ_ _=>rfl,λ_=>rfl,λE=>gG.refl (p E)⟩)
 |label l=>exact λfree r rd e a w K Q _ _ p h j q _=>wpIn_label (q _ _ _ ⟨rfl,e,h,j,λ_ _=>rfl,λ_=>rfl,λE=>gG.refl (p E)⟩)
 |ret=>exact λfree r rd e a w K Q _ _ p h j q _=>wpIn_ret (q _ _ _ ⟨rfl,e,h,j,λ_ _=>rfl,λ_=>rfl,λE=>gG.refl (p E)⟩)
 |exit i=>exact λfree r rd e a w K Q _ _ p h j q _=>wpIn_exit (q _ _ _ ⟨rfl,e,h,j,λ_ _=>rfl,λ_=>rfl,λE=>gG.refl (p E)⟩)
 |goto l=>exact λfree r rd e a w K Q _ _ p h j q _=>h.elim
 |refuse s=>exact λfree r rd e a w K Q _ _ p h j q _=>h.elim
 |region id ops aa=>
  intro free r rd e a w K Q A F p h j q G;simp only[wf,U4]at A;have W:∀o∈ops.toList,∀t,o.dst=σ t->t∈m9 ops.toList:=λo ab t J=>Fx J _ ab;simp only[eC]at h;cases aa with
  |false=>exact Fb W A.1 h j λa' w' B=>q _ _ _ (xP p B)
  |true=>
   simp only[Y6,Bool.false_or]at A;exact Fl hm A.2 G W A.1 (λw' h1 H I=>h w' h1 H I) j λa' w' B=>q _ _ _ (xP p B)
 |seq x y R S=>exact Fy R S
 |cond c x y R S=>
  intro free r rd e a w K Q A F p h j q G;simp only[wf,U4]at A;have X:∀ex a' w',mh N free (jc free x) K (dx x) a w ex a' w'->Q ex a' w':=λex a' w' B=>q ex a' w' (by
   obtain⟨O,L,h1,H,I,M,T⟩:=B;exact⟨O,L,h1,H,λt J=>I t λh=>J (by simp[dx,h]),(λh=>M (xS _ _ _ h)),T⟩)
  have Y:∀ex a' w',mh N free (jc free y) K (dx y) a w ex a' w'->Q ex a' w':=λex a' w' B=>q ex a' w' (by
   obtain⟨O,L,h1,H,I,M,T⟩:=B;exact⟨O,L,h1,H,λt J=>I t λh=>J (by simp[dx,h]),(λh=>M (xT _ _ _ h)),T⟩)
  simp only[eC]at h;cases C:eJ e c with
  |none=>rw[C]at h;exact h.elim
  |some v=>
   rw[C]at h;cases v with
   |b t=>
    cases t with
    |true=>exact wpIn_cond (t:=true) (j.eJ C) (R free r rd e a w K Q A.1 F p h j X G)
    |false=>exact wpIn_cond (t:=false) (j.eJ C) (S free r rd e a w K Q A.2 F p h j Y G)
   |v z=>
    obtain⟨t,ac,J,E⟩:=h;refine wpIn_cond (t:=t) ((j.eJ C).trans ac) ?_;cases t with
    |true=>exact R free r rd e a w K Q A.1 F p (J rfl) j X G
    |false=>exact S free r rd e a w K Q A.2 F p (E rfl) j Y G
   |u=>exact h.elim
 |block id c C=>
  intro free r rd e a w K Q A F p h j q G;simp only[wf]at A;simp only[eC]at h;refine wpIn_block (C free r rd e a w _ _ A F p h j ?_ λZ a w U=>G Z a w U);intro ex a' w' B;obtain⟨O,L,h1,H,I,M⟩:=B;cases ex with
  |exit i=>
   simp only[Exit.inBlock];simp only at h1;by_cases hi:i=id
   .rw[if_pos hi];rw[hi,Nat.beq_refl]at h1;exact q _ _ _ ⟨rfl,L,h1,H,I,M⟩
   .rw[if_neg hi];have:S1 i id=false:=by
     cases V:S1 i id with
     |true=>exact absurd (Nat.eq_of_beq_eq_true V) hi
     |false=>rfl
    rw[this]at h1;exact q _ _ _ ⟨rfl,L,h1,H,I,M⟩
  |_=>exact q _ _ _ ⟨O,L,h1,H,I,M⟩
 |loop c C=>exact Fz C
 |scope c C=>
  intro free r rd e a w K Q A F p h j q G;exact FE (C free r rd e a w K (λex a' w'=>kM ex=true/\Q ex a' w') A F p h j (λex a' w' B=>⟨B.1,q ex a' w' B⟩) λZ a w U=>by cases U.1)
 |rangeFunc f ae af body ad V=>exact FC ad V
def kN:Nat->List x1->Env
 |_,[]=>[]
 |i,v::r=>(i,.v v)::kN (i+1) r
def ng(P:W9)(e:Env)(w:x3):List ResultVar->(List x1->Prop)->Prop
 |[],K=>K []
 | .tmp t::r,K=>match look e t with
  |some x=>ng P e w r λvs=>K (x.val::vs)
  |none=>False
 | .cell a t::r,K=>match look e a with
  |some x=>aa P (do loadVar t (<-asAddr x.val)) w λv=>ng P e w r λvs=>K (v::vs)
  |none=>False
def rz:List x1->x1
 |[v]=>v
 |vs=>.tuple vs.toArray
def lE(P:W9)(a:List ResultVar)(marks:Bool)(n:Nat)(Q:x1->x3->Prop):Exit->Env->x3->Prop
 | .normal,e,w| .ret,e,w=>ng P e w a λvs=>bif marks then uh n w λw'=>Q (rz vs) w' else Q (rz vs) w
 |_,_,_=>False
def mi:List ResultVar->List Nat
 |[]=>[]
 | .tmp t::r=>t::mi r
 | .cell a _::r=>a::mi r
theorem xU:∀(vs:List x1)(i t:Nat)(x:eB),look (kN i vs) t=σ x->∃j v,t=i+j/\vs[j]?=σ v/\x= .v v
 |[],_,_,_,h=>by cases h
 |v::r,i,t,x,h=>by
  simp only[kN,look]at h;cases a:S1 i t with
  |true=>
   rw[a]at h;simp only[cond_true,X0]at h;exact⟨0,v,by rw[Nat.eq_of_beq_eq_true a];rfl,rfl,h.symm⟩
  |false=>
   rw[a]at h;obtain⟨j,u,h1,e,f⟩:=xU r (i+1) t x h;exact⟨j+1,u,Ω,by simpa using e,f⟩
theorem um(vs:List x1)(h:vs.length<=n):S7 n (kN 0 vs) {tmps:=vs.toArray++Array.replicate (n-vs.toArray.size) undef,defers:=[]}:=by
 refine⟨Θ,λt x e=>?_⟩;obtain⟨j,v,h1,a,rfl⟩:=xU vs 0 t x e;have h1:t=j:=Ω
 subst h1;have f:t<vs.length:=(x4.1 a).1;rw[Array.getD_eq_getD_getElem?,Array.getElem?_append_left (by simpa using f)];simp[a,eB.val]
def rA(tm:Array x1):ResultVar->Sem x1
 | .tmp t=>pure (tm.getD t undef)
 | .cell b t=>do loadVar t (<-asAddr (tm.getD b undef))
theorem FF(fn:Func)(tm:Array x1):results fn tm=(do let vs <-fn.results.mapM (rA tm);pure (if h:vs.size=1 then vs[0]else .tuple vs)):=by
 unfold results;congr 2
theorem uo{e:Env}{a:Act}{w:x3}(j:S7 N e a):∀(p:List ResultVar)(K:List x1->Prop),ng P e w p K->
  ∃vs,K vs/\vs.length=p.length/\∀w',Ext w w'->(p.mapM (rA a.tmps)).run P w'= .ok vs w'
 |[],K,h=>⟨[],h,rfl,λw' _=>by simp[V4]⟩
 | .tmp t::r,K,h=>by
  simp only[ng]at h;cases f:look e t with
  |none=>rw[f]at h;exact h.elim
  |some x=>
   rw[f]at h;obtain⟨vs,h1,q,s⟩:=uo j r _ h;refine⟨x.val::vs,h1,by simp[q],λw' hw=>?_⟩;rw[List.mapM_cons];simp only[rA,W6,V4,W8,s w' hw,j.2 t x f]
 | .cell b t::r,K,h=>by
  simp only[ng]at h;cases f:look e b with
  |none=>rw[f]at h;exact h.elim
  |some x=>
   rw[f]at h;obtain⟨v,y,h⟩:=h;obtain⟨vs,h1,q,s⟩:=uo j r _ h;refine⟨v::vs,h1,by simp[q],λw' hw=>?_⟩;rw[List.mapM_cons];have:=y w' hw;rw[<-j.2 b x f]at this;rw[rA,W6,this];simp only[W8,W6,s w' hw,V4]
theorem uq{fn:Func}{e:Env}{a:Act}(j:S7 N e a){K:List x1->Prop}(h:ng P e w fn.results.toList K):
  ∃vs,K vs/\∀w',Ext w w'->(results fn a.tmps).run P w'= .ok (rz vs) w':=by
 obtain⟨vs,h1,p,f⟩:=uo j _ _ h;refine⟨vs,h1,λw' hw=>?_⟩;have f:=f w' hw;rw[FF,W6,Array.mapM_eq_mapM_toList,map_eq_pure_bind,W6,f];simp only[W8,V4];cases vs with
 |nil=>rfl
 |cons v r=>
  cases r with
  |nil=>rfl
  |cons u r=>simp[rz]
theorem xV{fn:Func}{tmps:Array x1}{R:Ending->x3->Prop}:∀(a:List Nat)(w:x3),a.Nodup->(∀D∈a,w.heap[D]?=σ (.deferred (σ [])))->
  (∀w',Ext w w'->Ext w' w->w'.os=w.os->jE w w'->w'.output=w.output->w.heap.size=w'.heap.size->
   (∀r,r∉a->w'.heap[r]?=w.heap[r]?)->∃v,(results fn tmps).run P w'= .ok v w'/\R (.returned v) w')->
  LeavesInM Fence.wide 0 P fn tmps R (a.map kg) .returning w
 |[],w,_,_,h=>by
  obtain⟨v,h1,e⟩:=h w (Ext.refl _) (Ext.refl _) rfl .ka rfl rfl λ_ _=>rfl;exact⟨v,h1,e⟩
 |D::a,w,f,j,h=>by
  rw[List.nodup_cons]at f;have p:=j D (.head _);refine⟨Ξ,.inl ⟨D,_,rfl,run_takeDeferred p,?_⟩⟩;refine xV a _ f.2 (λD' q=>?_) λw' h1 e x y z A B=>?_
  .rw[Q2 (λhe=>f.1 (by rw[<-he];exact q))];exact j D' (.tail _ q)
  .refine h w' ((pM p rfl _).trans h1) (e.trans (xO rfl)) x y z (by simpa using A) λr s=>?_;rw[B r λhm=>s (.tail _ hm),Q2 λhe=>s (by rw[he];exact .head _)]
theorem ai.enter(hm:P.follows .mixedOrders=true){f:Q1}{fn:Func}{c:Code}(y:P.funcs[f]?=σ fn)(z:fn.body=σ c)(A:(fn.name == "runtime.NumGoroutine")=false)(N:wf fn.ntmps c=true){args:List x1}(O:Nat.ble args.length fn.ntmps=true){w:x3}{Q:x1->x3->Prop}(h:eC P fn.ntmps (false,w.heap.size) c (mi fn.results.toList) (kN 0 args) w (lE P fn.results.toList true w.heap.size Q)):ai P f args w Q:=by
 refine .code (Enters.of P y z A) (callsIn_wide (n:=0).1 (callsIn_of_wp_marks y z trivial ?_));have R:=um (n:=fn.ntmps) args (Nat.le_of_ble_eq_true O);refine wpIn_mono (Q:=λex a' w'=>kM ex=true/\bodyPostM Fence.wide 0 P fn (λe w'=>∃v,e= .returned v/\cF w w'/\Q v w') ex a' w') ?_ λ_ _ _ h=>h.2;refine sound hm c (false,w.heap.size) ν _ _ _ w _ _ N (λl S=>by cases S) (λ_=>⟨[],rfl,List.nodup_nil,λD q=>by cases q⟩) h R ?_ (λ_ _ _ h=>by cases h.1)
 .intro ex a' w' T;obtain⟨V,W,j,X,_,_,I⟩:=T;obtain⟨a,⟨s,B,Y,q⟩,Z,aa,ab⟩:=I rfl;have C:∀D∈s,w.heap.size<=D:=by
   intro D ac;have h1:kg D∈Z.map kg:=by
    have:kg D∈s.map kg:=l9.2 ⟨D,ac,rfl⟩;rw[<-B,aa]at this;simpa using this
   obtain⟨E,x,ad⟩:=l9.1 h1;have:E=D:=by simpa[kg]using ad
   exact this▸ab E x
  have F:lE P fn.results.toList true w.heap.size Q .ret W w'->LeavesInM Fence.wide 0 P fn a'.tmps (λe G=>∃v,e= .returned v/\cF w G/\Q v G) a'.defers .returning w':=by
   intro j;rw[B];obtain⟨vs,h1,x⟩:=uq (fn:=fn) X j;refine xV s w' Y q λU g1 ae H J K L M=>⟨_,x U g1,_,rfl,?_,h1 U g1 ⟨ae,H,J,K,Nat.le_of_eq L,λr o A p _=>by rw[M r λhm=>by have:=C r hm;omega];exact p⟩⟩;have a:=a.cj (p8 _);refine⟨H.trans a.os,J.trans a.tape,K.trans a.output,by rw[<-L];exact a.size,λr o p af=>?_⟩;have ag:=(n9.1 p).1;rw[M r λhm=>by have:=C r hm;omega];exact a.aY r o p af
  cases ex with
  |normal=>exact⟨rfl,F j⟩
  |ret=>exact⟨rfl,F j⟩
  |exit id=>exact j.elim
  |_=>cases V
theorem ai.FG(hm:P.follows .mixedOrders=true){f:Q1}{fn:Func}{c:Code}(j:P.funcs[f]?=σ fn)(p:fn.body=σ c)(s:(fn.name == "runtime.NumGoroutine")=false)(x:wf fn.ntmps c=true){args:List x1}(y:Nat.ble args.length fn.ntmps=true)(ao:kd c=false){w:x3}{Q:x1->x3->Prop}(h:eC P fn.ntmps (false,w.heap.size) c (mi fn.results.toList) (kN 0 args) w (lE P fn.results.toList false 0 Q)):ai P f args w Q:=by
 refine .code (Enters.of P j p s) (callsIn_wide (n:=0).1 (callsIn_of_wp j p trivial ?_));have z:=um (n:=fn.ntmps) args (Nat.le_of_ble_eq_true y);refine wpIn_mono (Q:=λex a' w'=>kM ex=true/\bodyPost P fn (λe w'=>∃v,e= .returned v/\cF w w'/\Q v w') ex a' w') ?_ λ_ _ _ h=>h.2;refine sound hm c (false,w.heap.size) ν _ _ _ w _ _ x (λl A=>by cases A) (λ_=>⟨[],rfl,List.nodup_nil,λD B=>by cases B⟩) h z ?_ (λ_ _ _ h=>by cases h.1);intro ex a' w' C;obtain⟨E,F,a,G,_,H,I⟩:=C;have J:a'.defers=[]:=H (by simp[jc,ao]);have q:lE P fn.results.toList false 0 Q .ret F w'->a'.defers=[]/\∃v,(results fn a'.tmps).run P w'= .ok v w'/\∃r,Ending.returned v= .returned r/\cF w w'/\Q r w':=by
  intro a;obtain⟨vs,h1,K⟩:=uq (fn:=fn) G a;exact⟨J,_,K w' (Ext.refl _),_,rfl,(I rfl).1.cj (p8 _),h1⟩
 cases ex with
 |normal=>exact⟨rfl,q a⟩
 |ret=>exact⟨rfl,q a⟩
 |exit id=>exact a.elim
 |_=>cases E
theorem gE.enter(hm:P.follows .mixedOrders=true){f:Q1}{fn:Func}{c:Code}(j:P.funcs[f]?=σ fn)(p:fn.body=σ c)(s:(fn.name == "runtime.NumGoroutine")=false)(x:wf fn.ntmps c=true){args:List x1}(y:Nat.ble args.length fn.ntmps=true){w:x3}{Q:x1->x3->Prop}(h:eC P fn.ntmps (true,0) c (mi fn.results.toList) (kN 0 args) w (lE P fn.results.toList false 0 Q)):gE P f args w Q:=by
 refine .code (Enters.of P j p s) (callsIn_wide (n:=0).1 (callsIn_of_wp j p trivial ?_));have z:=um (n:=fn.ntmps) args (Nat.le_of_ble_eq_true y);refine wpIn_mono (Q:=λex a' w'=>kM ex=true/\bodyPost P fn (λe w'=>∃v,e= .returned v/\Q v w') ex a' w') ?_ λ_ _ _ h=>h.2;refine sound hm c (true,0) ν _ _ _ w _ _ x (λl A=>by cases A) (λh=>by cases h) h z ?_ (λ_ _ _ h=>by cases h.1);intro ex a' w' B;obtain⟨C,E,a,F,_,G,I⟩:=B;have H:a'.defers=[]:=G rfl;have q:lE P fn.results.toList false 0 Q .ret E w'->a'.defers=[]/\∃v,(results fn a'.tmps).run P w'= .ok v w'/\∃r,Ending.returned v= .returned r/\Q r w':=by
  intro a;obtain⟨vs,h1,J⟩:=uq (fn:=fn) F a;exact⟨H,_,J w' (Ext.refl _),_,rfl,h1⟩
 cases ex with
 |normal=>exact⟨rfl,q a⟩
 |ret=>exact⟨rfl,q a⟩
 |exit id=>exact a.elim
 |_=>cases C
end
def pN(l:List S5)(d:Nat):Nat:=
 match l with
 |[]=>d
 | .tmp t::r=>pN r (Nat.lor d (Nat.shiftLeft 1 t))
 |_::r=>pN r d
def oB:List T5->Nat->Option T5
 |[],_=>ν
 |o::_,0=>σ o
 |_::l,n+1=>oB l n
def xW(a b:Nat):Nat:=Nat.xor a (Nat.land a b)
def pO(m t:Nat):Bool:=S1 (Nat.land (Nat.shiftRight m t) 1) 1
def kh(m t:Nat):Nat:=Nat.lor m (Nat.shiftLeft 1 t)
def FH(ops:List T5)(o:T5):Nat:=
 match o.guard with
 |none=>0
 |some (j,_)=>match oB ops j with
  |some ⟨σ d,_,_,_,_,_⟩=>Nat.shiftLeft 1 d
  |_=>0
def rB:List T5->Nat->Nat
 |[],d=>d
 |⟨σ t,_,_,_,_,_⟩::l,d=>rB l (kh d t)
 |_::l,d=>rB l d
def xX(ops:List T5):List T5->Nat->Nat->Nat
 |[],_,r=>r
 |o::l,d,r=>xX ops l (match o.dst with|some t=>kh d t|none=>d) (Nat.lor r (xW (pN (opsOf o.op) (FH ops o)) d))
def rC:List Nat->Nat->Nat
 |[],_=>0
 |x::_,0=>x
 |_::l,n+1=>rC l n
def xY(e:Edge):Bool:=
 match e.ground with
 | .textOnly _=>false
 | .gcOnly _=>false
 |_=>true
def xZ(bs:List Nat):List Edge->Nat->Nat
 |[],s=>s
 |e::r,s=>xZ bs r (bif xY e then Nat.lor (kh s e.on) (rC bs e.on)else s)
def ur:List T5->List Nat->List Nat
 |[],bs=>bs
 |o::l,bs=>ur l (bs++[xZ bs o.after.toList 0])
def x0:List T5->Bool
 |[]=>false
 |⟨_,_,_,_,_,σ _⟩::_=>true
 |_::l=>x0 l
def ut(bs:List Nat)(j k:Nat):Bool:=!(S1 k j)&&(!(pO (rC bs j) k)&& !(pO (rC bs k) j))
def x2(bs:List Nat)(j:Nat):Nat->List T5->Bool
 |_,[]=>false
 |i,o::l=>bif Nat.ble j i then false else(!(i7 o)&&ut bs j i)||x2 bs j (Nat.succ i) l
def x9(ops:List T5)(bs:List Nat):Nat->List T5->Bool
 |_,[]=>false
 |j,o::l=>(!(i7 o)&&x2 bs j 0 ops)||x9 ops bs (Nat.succ j) l
def lF:Code->Nat
 | .region _ ops e=>bif (e&&x9 ops.toList (ur ops.toList []) 0 ops.toList)||x0 ops.toList then 2 else 1
 | .seq a b=>bif S1 (lF a) 0 then 0 else lF b
 | .cond _ a b=>Nat.add (lF a) (lF b)
 | .block id c=>Nat.add (lF c) (jG id c)
 | .loop _=>0
 | .scope c=>lF c
 | .exit _=>0
 | .goto _=>0
 | .ret=>0
 | .refuse _=>0
 |_=>1
def h9:Code->Nat
 | .region _ ops _=>rB ops.toList 0
 | .seq a b=>Nat.lor (h9 a) (h9 b)
 | .cond _ a b=>Nat.lor (h9 a) (h9 b)
 | .block _ c=>h9 c
 | .loop c=>h9 c
 | .scope c=>h9 c
 |_=>0
def lG:Code->Nat
 | .region _ ops _=>rB ops.toList 0
 | .seq a b=>Nat.lor (lG a) (lG b)
 | .cond _ a b=>bif S1 (lF a) 0 then lG b else bif S1 (lF b) 0 then lG a else Nat.land (lG a) (lG b)
 | .block id c=>bif S1 (jG id c) 0 then lG c else 0
 | .scope c=>lG c
 |_=>0
def gg:Code->Nat
 | .region _ ops _=>xX ops.toList ops.toList 0 0
 | .seq a b=>Nat.lor (gg a) (xW (gg b) (lG a))
 | .cond c a b=>pN [c] (Nat.lor (gg a) (gg b))
 | .block _ c=>gg c
 | .loop c=>gg c
 | .scope c=>gg c
 | .rangeFunc f _ a b=>pN [f] (Nat.lor (gg a) (gg b))
 |_=>0
def mj:Nat->Nat->Nat->List Nat
 |0,_,_=>[]
 |n+1,k,m=>bif S1 m 0 then[]else bif S1 (Nat.land m 1) 1 then k::mj n (Nat.succ k) (Nat.shiftRight m 1)else mj n (Nat.succ k) (Nat.shiftRight m 1)
def pP(e:Env):List Nat->List Nat
 |[]=>[]
 |t::r=>match look e t with
  |some _=>t::pP e r
  |none=>pP e r
structure ml(B S aS:Type) where
 kO:{x:x1}->x1
 tup:List x1->x1
 no:B
 kP:B
 and:B->B->B
 or:B->B->B
 ext:x3->x3->B
 stays:S->x1->x3->B
 split:x1->B->B->B
 uu:S->x3->(x1->B)->B
 ya:S->x3->(x1->x3->B)->B
 yb:aS->x3->(x3->B)->B
 runN:{fr:Bool}->{n:Nat}->S->x3->(x1->x3->B)->B
 yc:{f:Q1}->List x1->x3->(x1->x3->B)->B
 yd:{f:Q1}->List x1->x3->(x1->x3->B)->B
 ye:{fr:Bool}->x1->List x1->x3->(x1->x3->B)->B
 drew:x3->(x3->B)->B
 again:{n:Nat}->x3->(x3->B)->B
 over:{n:Nat}->x3->(x3->B)->B
 dd:(x3->B)->((x3->B)->B)->B
 aT:(x1->x3->B)->((x1->x3->B)->B)->B
 iA:(x1->x1->x3->B)->((x1->x1->x3->B)->B)->B
 yf:(x1->x1->x1->x3->B)->((x1->x1->x1->x3->B)->B)->B
 yg:(x1->x1->x1->x1->x3->B)->((x1->x1->x1->x1->x3->B)->B)->B
 yh:(x1->x1->x1->x1->x1->x3->B)->((x1->x1->x1->x1->x1->x3->B)->B)->B
 yi:x3->(x3->(x3->B)->B)->B
 yj:x1->x3->(x1->x3->(x1->x3->B)->B)->B
 yk:x1->x1->x3->(x1->x1->x3->(x1->x1->x3->B)->B)->B
 yl:x1->x1->x1->x3->(x1->x1->x1->x3->(x1->x1->x1->x3->B)->B)->B
 ym:x1->x1->x1->x1->x3->(x1->x1->x1->x1->x3->(x1->x1->x1->x1->x3->B)->B)->B
 yn:x1->x1->x1->x1->x1->x3->(x1->x1->x1->x1->x1->x3->(x1->x1->x1->x1->x1->x3->B)->B)->B
 yo:x1->x1->x1->x1->x1->x1->x3->(x1->x1->x1->x1->x1->x1->x3->(x1->x1->x1->x1->x1->x1->x3->B)->B)->B
 yp:x1->x3->(x1->x3->(Exit->x3->B)->B)->(x3->B)->(x3->B)->List (Nat×(x3->B))->B
 yq:x1->x3->(x1->x1->x3->(Exit->x3->B)->B)->(x3->B)->(x3->B)->List (Nat×(x3->B))->B
 loadVar:{t:r9}->x1->S
 alloc:{t:r9}->S
 box:{t:r9}->x1->S
 build:{t:r9}->List (Nat×x1)->S
 buildSlice:{t:r9}->{n:Nat}->List (Nat×x1)->S
 load:{t:r9}->x1->S
 nil:x1->S
 bin:{op:BinOp}->{t:r9}->Bool->Bool->x1->x1->S
 un:{op:UnOp}->x1->S
 conv:{s d:r9}->x1->S
 yr:{t:r9}->x1->S
 ys:{f:Fn}->List x1->List x1->S
 yt:{t:r9}->Option x1->S
 yu:{t:r9}->x1->x1->S
 slice:{t:r9}->x1->Option x1->Option x1->Option x1->S
 yv:{t:r9}->x1->{f:Nat}->S
 field:{t:r9}->x1->{f:Nat}->S
 yw:{t:r9}->x1->x1->S
 index:{t:r9}->x1->x1->S
 lookup:{t:r9}->x1->x1->{ok:Bool}->S
 yx:{t:r9}->x1->x1->S
 range:{t:r9}->x1->S
 entry:x1->S
 assert:{t a:r9}->x1->{ok:Bool}->S
 extract:x1->{i:Nat}->S
 next:x1->{b:Bool}->S
 append:{ats:Array r9}->{t:r9}->List x1->S
 cap:{ats:Array r9}->{t:r9}->List x1->S
 clear:{ats:Array r9}->{t:r9}->List x1->S
 copy:{ats:Array r9}->{t:r9}->List x1->S
 delete:{ats:Array r9}->{t:r9}->List x1->S
 len:{ats:Array r9}->{t:r9}->List x1->S
 max:{ats:Array r9}->{t:r9}->List x1->S
 min:{ats:Array r9}->{t:r9}->List x1->S
 store:{t:r9}->x1->x1->aS
 uv:{t:r9}->x1->x1->x1->aS
 yy:{t:r9}->x1->x1->x1->aS
section
variable{B S aS:Type}(A:ml B S aS)
def eB.g:eB->x1
 | .v x=>x
 | .b c=>.bool c
 | .u=>A.kO (x:=undef)
def nh(e:Env):S5->eB
 | .tmp t=>match look e t with
  |some x=>x
  |none=>.u
 | .const (.bool c)=>.b c
 | .const x=>.v (A.kO (x:=x))
 | .global g=>.v (A.kO (x:=Γ g))
 | .func f=>.v (A.kO (x:=.func (.func f) #[] #[]))
def cY(e:Env)(x:S5):x1:=(nh A e x).g A
def ni(e:Env):List S5->List x1
 |[]=>[]
 |x::r=>cY A e x::ni e r
def rD(e:Env):Option S5->Option x1
 |none=>ν
 |some x=>σ (cY A e x)
def uw(e:Env):List (Nat×S5)->List (Nat×x1)
 |[]=>[]
 |(i,x)::r=>(i,cY A e x)::uw e r
def FI(b:Z5)(ats:Array r9)(t:r9)(l:List x1)(K:S->B):B:=
 match b with
 | .append=>K (A.append (ats:=ats) (t:=t) l)
 | .cap=>K (A.cap (ats:=ats) (t:=t) l)
 | .clear=>K (A.clear (ats:=ats) (t:=t) l)
 | .copy=>K (A.copy (ats:=ats) (t:=t) l)
 | .delete=>K (A.delete (ats:=ats) (t:=t) l)
 | .len=>K (A.len (ats:=ats) (t:=t) l)
 | .max=>K (A.max (ats:=ats) (t:=t) l)
 | .min=>K (A.min (ats:=ats) (t:=t) l)
 |_=>A.no
def yz(e:Env)(t:r9)(K:S->B)(j:aS->B):Op->B
 | .alloc t=>K (A.alloc (t:=t))
 | .box t x=>K (A.box (t:=t) (cY A e x))
 | .build t p=>K (A.build (t:=t) (uw A e p.toList))
 | .buildSlice t n p=>K (A.buildSlice (t:=t) (n:=n) (uw A e p.toList))
 | .load t x=>K (A.load (t:=t) (cY A e x))
 | .nilCheck x=>K (A.nil (cY A e x))
 | .binOp op t x y _=>K (A.bin (op:=op) (t:=t) (ot x) (ot y) (cY A e x) (cY A e y))
 | .unOp op _ x=>K (A.un (op:=op) (cY A e x))
 | .convert s d x=>K (A.conv (s:=s) (d:=d) (cY A e x))
 | .makeInterface t x=>K (A.yr (t:=t) (cY A e x))
 | .makeFunc f a b=>K (A.ys (f:=f) (ni A e a.toList) (ni A e b.toList))
 | .makeMap t r=>K (A.yt (t:=t) (rD A e r))
 | .makeSlice t l c=>K (A.yu (t:=t) (cY A e l) (cY A e c))
 | .slice t x l h m=>K (A.slice (t:=t) (cY A e x) (rD A e l) (rD A e h) (rD A e m))
 | .fieldAddr t x f=>K (A.yv (t:=t) (cY A e x) (f:=f))
 | .field t x f=>K (A.field (t:=t) (cY A e x) (f:=f))
 | .indexAddr t x i=>K (A.yw (t:=t) (cY A e x) (cY A e i))
 | .index t x i=>K (A.index (t:=t) (cY A e x) (cY A e i))
 | .lookup t x i ok=>K (A.lookup (t:=t) (cY A e x) (cY A e i) (ok:=ok))
 | .mapEntry t m k=>K (A.yx (t:=t) (cY A e m) (cY A e k))
 | .range t x=>K (A.range (t:=t) (cY A e x))
 | .entry x=>K (A.entry (cY A e x))
 | .typeAssert x t a ok=>K (A.assert (t:=t) (a:=a) (cY A e x) (ok:=ok))
 | .extract x i=>K (A.extract (cY A e x) (i:=i))
 | .call ⟨.builtin b,args,ats⟩=>FI A b ats t (ni A e args.toList) K
 | .store t a x=>j (A.store (t:=t) (cY A e a) (cY A e x))
 | .mapUpdate t m k x=>j (A.uv (t:=t) (cY A e m) (cY A e k) (cY A e x))
 | .insert t m k x=>j (A.uv (t:=t) (cY A e m) (cY A e k) (cY A e x))
 | .entryStore t m k x=>j (A.yy (t:=t) (cY A e m) (cY A e k) (cY A e x))
 |_=>A.no
def hr(e:Env)(d:Option Tmp)(x:eB):Env:=
 match d with
 |some t=>(t,x)::e
 |none=>e
def yA(o:T5)(e:Env)(w:x3)(K:Env->(x3->B)->B):B:=
 match o with
 |⟨d,.move x,_,_,_,_⟩=>K (hr e d (nh A e x)) (λ_=>A.kP)
 |⟨d,.assign x,_,_,_,_⟩=>K (hr e d (nh A e x)) (λ_=>A.kP)
 |⟨d,.pick c a b,_,_,_,_⟩=>
  match nh A e c with
  | .b true=>K (hr e d (nh A e a)) (λ_=>A.kP)
  | .b false=>K (hr e d (nh A e b)) (λ_=>A.kP)
  | .v x=>A.split x (K (hr e d (.v (cY A e a))) (λ_=>A.kP)) (K (hr e d (.v (cY A e b))) (λ_=>A.kP))
  | .u=>A.no
 |⟨d,op,t,_,_,_⟩=>yz A e t (λs=>A.uu s w λv=>K (hr e d (.v v)) (A.stays s v)) (λ_=>A.no) op
def FJ(fr:Bool)(n:Nat)(o:T5)(e:Env)(w:x3)(K:Env->x3->B):B:=
 match o with
 |⟨d,.call ⟨.value (.func f),args,_⟩,_,_,_,_⟩=>
  bif fr then A.yd (f:=f) (ni A e args.toList) w λv w'=>K (hr e d (.v v)) w'
  else A.yc (f:=f) (ni A e args.toList) w λv w'=>K (hr e d (.v v)) w'
 |⟨d,.call ⟨.value x,args,_⟩,_,_,_,_⟩=>A.ye (fr:=fr) (cY A e x) (ni A e args.toList) w λv w'=>K (hr e d (.v v)) w'
 |⟨d,.next x b,_,_,_,_⟩=>A.runN (fr:=fr) (n:=n) (A.next (cY A e x) (b:=b)) w λv w'=>K (hr e d (.v v)) w'
 |⟨d,op,t,_,_,_⟩=>yz A e t (λs=>A.ya s w λv w'=>K (hr e d (.v v)) w') (λu=>A.yb u w λw'=>K (hr e d (.v (A.kO (x:=undef)))) w') op
def yB(fr:Bool)(n:Nat)(o:T5)(e:Env)(w:x3)(K:Env->x3->B):B:=
 bif i7 o then yA A o e w (λa _=>K a w)else FJ A fr n o e w K
def ux(ops:List T5)(o:T5)(e:Env)(D N:Env->B):B:=
 match o.guard with
 |none=>D e
 |some (j,b)=>
  match oB ops j with
  |some ⟨σ s,_,_,_,_,_⟩=>
   match look e s with
   |some (.b c)=>bif xor c b then N e else D e
   |some (.v x)=>A.split x (bif b then D ((s,.b true)::e)else N ((s,.b true)::e)) (bif b then N ((s,.b false)::e)else D ((s,.b false)::e))
   |some .u=>N e
   |none=>A.no
  |_=>A.no
def uy(fr:Bool)(n:Nat)(ops:List T5):List T5->Env->x3->(Env->x3->B)->B
 |[],e,w,K=>K e w
 |o::l,e,w,K=>ux A ops o e (λe=>yB A fr n o e w λa w'=>uy fr n ops l a w' K) (λe=>uy fr n ops l (hr e o.dst .u) w K)
def yC:List Edge->Nat->Bool
 |[],_=>true
 |e::r,a=>(bif xY e then pO a e.on else true)&&yC r a
def rE(a:Nat):Nat->List T5->List Nat
 |_,[]=>[]
 |i,o::l=>bif pO a i then rE a (Nat.succ i) l else bif yC o.after.toList a then i::rE a (Nat.succ i) l else rE a (Nat.succ i) l
def yD(ops:List T5):List Nat->Option Nat
 |[]=>ν
 |i::r=>match oB ops i with
  |some o=>bif i7 o then σ i else yD ops r
  |none=>ν
def yE(p:Nat->B):List Nat->B
 |[]=>A.kP
 |[i]=>p i
 |i::r=>A.and (p i) (yE p r)
def yF(same:Bool)(q:Nat)(w:x3)(st:x3->B)(a:List (x3×List (Nat×(x3->B)))):List (x3×List (Nat×(x3->B))):=
 match same,a with
 |true,g::r=>(g.1,(q,st)::g.2)::r
 |_,a=>(w,[(q,st)])::a
def yG(bs:List Nat)(j:Nat):List (Nat×(x3->B))->Bool
 |[]=>false
 |(i,_)::r=>ut bs j i||yG bs j r
def uz(bs:List Nat)(j:Nat)(w':x3):List (Nat×(x3->B))->B
 |[]=>A.kP
 |(i,p)::r=>bif ut bs j i then A.and (p w') (uz bs j w' r)else uz bs j w' r
def rF(bs:List Nat)(j:Nat)(w':x3)(C:B):List (x3×List (Nat×(x3->B)))->B
 |[]=>C
 |(w,l)::r=>bif yG bs j l then A.and (A.or (A.ext w w') (uz A bs j w' l)) (rF bs j w' C r)else rF bs j w' C r
def nj(fr:Bool)(n:Nat)(ops:List T5)(bs:List Nat):Nat->Nat->Bool->List (x3×List (Nat×(x3->B)))->Env->x3->(Env->x3->B)->B
 |0,_,_,_,e,w,K=>K e w
 |fuel+1,f,same,a,e,w,K=>
  match rE f 0 ops with
  |[]=>K e w
  |i::r=>
   match yD ops (i::r)with
   |some q=>
    match oB ops q with
    |some o=>ux A ops o e
      (λe=>yA A o e w λh st=>
       bif lz o then nj fr n ops bs fuel (kh f q) same a h w K
       else nj fr n ops bs fuel (kh f q) true (yF same q w st a) h w K)
      (λe=>bif lz o then nj fr n ops bs fuel (kh f q) same a (hr e o.dst .u) w K
       else nj fr n ops bs fuel (kh f q) true (yF same q w (λ_=>A.kP) a) (hr e o.dst .u) w K)
    |none=>A.no
   |none=>
    yE A (λj=>match oB ops j with
     |some o=>ux A ops o e (λe=>yB A fr n o e w λh w'=>rF A bs j w' (nj fr n ops bs fuel (kh f j) false a h w' K) a)
       (λe=>rF A bs j w (nj fr n ops bs fuel (kh f j) false a (hr e o.dst .u) w K) a)
     |none=>A.no) (i::r)
def rG(e:Env):List Nat->List x1
 |[]=>[]
 |t::r=>(match look e t with|some x=>x.g A|none=>A.kO (x:=undef))::rG e r
def uA(l:List Nat)(vs:List x1)(e:Env):Env:=
 match l,vs with
 |t::r,v::vs=>(t,.v v)::uA r vs e
 |_,_=>e
def rH(d:Nat):Env->Env
 |[]=>[]
 |(t,x)::r=>bif pO d t then rH d r else(t,x)::rH d r
def FK(l:List Nat)(ax:List x1->x3->B)(e:(List x1->x3->B)->B):B:=
 match l with
 |[]=>A.dd (λw=>ax [] w) λk=>e λ_ w=>k w
 |[_]=>A.aT (λa w=>ax [a] w) λk=>e λvs w=>match vs with
  |[a]=>k a w
  |_=>A.no
 |[_,_]=>A.iA (λa b w=>ax [a,b] w) λk=>e λvs w=>match vs with
  |[a,b]=>k a b w
  |_=>A.no
 |[_,_,_]=>A.yf (λa b c w=>ax [a,b,c] w) λk=>e λvs w=>match vs with
  |[a,b,c]=>k a b c w
  |_=>A.no
 |[_,_,_,_]=>A.yg (λa b c d w=>ax [a,b,c,d] w) λk=>e λvs w=>match vs with
  |[a,b,c,d]=>k a b c d w
  |_=>A.no
 |[_,_,_,_,_]=>A.yh (λa b c d f w=>ax [a,b,c,d,f] w) λk=>e λvs w=>match vs with
  |[a,b,c,d,f]=>k a b c d f w
  |_=>A.no
 |_=>A.no
def FL(us:List x1)(w:x3)(e:List x1->x3->(List x1->x3->B)->B):B:=
 match us with
 |[]=>A.yi w λw k=>e [] w λ_ w=>k w
 |[a]=>A.yj a w λa w k=>e [a] w λvs w=>match vs with
  |[a]=>k a w
  |_=>A.no
 |[a,b]=>A.yk a b w λa b w k=>e [a,b] w λvs w=>match vs with
  |[a,b]=>k a b w
  |_=>A.no
 |[a,b,c]=>A.yl a b c w λa b c w k=>e [a,b,c] w λvs w=>match vs with
  |[a,b,c]=>k a b c w
  |_=>A.no
 |[a,b,c,d]=>A.ym a b c d w λa b c d w k=>e [a,b,c,d] w λvs w=>match vs with
  |[a,b,c,d]=>k a b c d w
  |_=>A.no
 |[a,b,c,d,f]=>A.yn a b c d f w λa b c d f w k=>e [a,b,c,d,f] w λvs w=>match vs with
  |[a,b,c,d,f]=>k a b c d f w
  |_=>A.no
 |[a,b,c,d,f,g]=>A.yo a b c d f g w λa b c d f g w k=>e [a,b,c,d,f,g] w λvs w=>match vs with
  |[a,b,c,d,f,g]=>k a b c d f g w
  |_=>A.no
 |_=>A.no
def uB(K:Nat->x3->B):List Nat->List (Nat×(x3->B))
 |[]=>[]
 |i::r=>(i,λw=>K i w)::uB K r
def hS(fr:Bool)(n:Nat):Code->Nat->Env->x3->(Exit->Env->x3->B)->B
 | .skip,_,e,w,K=>K .normal e w
 | .label _,_,e,w,K=>K .normal e w
 | .ret,_,e,w,K=>K .ret e w
 | .exit i,_,e,w,K=>K (.exit i) e w
 | .region _ ops C,_,e,w,K=>
  bif C then A.drew w λw'=>nj A fr n ops.toList (ur ops.toList []) (ops.toList.length) 0 false [] e w' (K .normal)
  else uy A fr n ops.toList ops.toList e w (K .normal)
 | .seq x y,rd,e,w,K=>
  bif Nat.ble 2 (lF x)then
   FK A (mj 1000 0 (Nat.land (h9 x) (Nat.lor (gg y) rd))) (λvs w'=>hS fr n y rd (uA (mj 1000 0 (Nat.land (h9 x) (Nat.lor (gg y) rd))) vs (rH (h9 x) e)) w' K)
    λax=>hS fr n x (Nat.lor (gg y) rd) e w λex h w'=>match ex with
     | .normal=>ax (rG A h (mj 1000 0 (Nat.land (h9 x) (Nat.lor (gg y) rd)))) w'
     |ex=>K ex h w'
  else hS fr n x (Nat.lor (gg y) rd) e w λex h w'=>match ex with
   | .normal=>hS fr n y rd h w' K
   |ex=>K ex h w'
 | .cond c x y,rd,e,w,K=>
  match nh A e c with
  | .b true=>hS fr n x rd e w K
  | .b false=>hS fr n y rd e w K
  | .v v=>A.split v (hS fr n x rd e w K) (hS fr n y rd e w K)
  | .u=>A.no
 | .block id c,rd,e,w,K=>hS fr n c rd e w λex h w'=>match ex with
  | .exit i=>bif S1 i id then K .normal h w' else K (.exit i) h w'
  |ex=>K ex h w'
 | .loop c,rd,e,w,K=>
  FL A (rG A e (pP e (mj 1000 0 (Nat.land (h9 c) (Nat.lor (gg c) rd))))) w λus w' k=>
   hS fr n c (Nat.lor (gg c) rd) (uA (pP e (mj 1000 0 (Nat.land (h9 c) (Nat.lor (gg c) rd)))) us (rH (h9 c) e)) w' λex h j=>match ex with
    | .normal=>k (rG A h (pP e (mj 1000 0 (Nat.land (h9 c) (Nat.lor (gg c) rd))))) j
    |ex=>K ex h j
 | .scope c,rd,e,w,K=>hS fr n c rd e w K
 | .rangeFunc f E z body,_,e,w,K=>
  match E.toList with
  |[p]=>A.yp (cY A e f) w
    (λa w' k=>hS fr n z (gg body) ((p,.v a)::e) w' λex h j=>match ex with
     | .normal=>A.over (n:=w.heap.size) j λr=>hS fr n body 0 h r λex _ s=>k ex s
     |_=>A.no)
    (λw'=>K .normal e w') (bif jb body then λw'=>K .ret e w' else λ_=>A.no) (uB (λi w'=>K (.exit i) e w') (jH body))
  |[p,q]=>A.yq (cY A e f) w
    (λa b w' k=>hS fr n z (gg body) ((q,.v b)::(p,.v a)::e) w' λex h j=>match ex with
     | .normal=>A.over (n:=w.heap.size) j λr=>hS fr n body 0 h r λex _ s=>k ex s
     |_=>A.no)
    (λw'=>K .normal e w') (bif jb body then λw'=>K .ret e w' else λ_=>A.no) (uB (λi w'=>K (.exit i) e w') (jH body))
  |_=>A.no
 | .goto _,_,_,_,_=>A.no
 | .refuse _,_,_,_,_=>A.no
def yH:Nat->List x1->Env
 |_,[]=>[]
 |i,v::r=>(i,.v (A.kO (x:=v)))::yH (i+1) r
def rI(e:Env)(w:x3):List ResultVar->(List x1->B)->B
 |[],K=>K []
 | .tmp t::r,K=>rI e w r λvs=>K ((match look e t with|some x=>x.g A|none=>A.kO (x:=undef))::vs)
 | .cell a t::r,K=>A.uu (A.loadVar (t:=t) (match look e a with|some x=>x.g A|none=>A.kO (x:=undef))) w λv=>rI e w r λvs=>K (v::vs)
def rJ(vs:List x1)(K:x1->B):B:=
 match vs with
 |[v]=>K v
 |vs=>K (A.tup vs)
def uC:List ResultVar->Nat->Nat
 |[],s=>s
 | .tmp t::r,s=>uC r (kh s t)
 | .cell a _::r,s=>uC r (kh s a)
def FM(a:List ResultVar)(marks:Bool)(n:Nat)(Q:x1->x3->B):Exit->Env->x3->B
 | .normal,e,w=>rI A e w a λvs=>bif marks then A.again (n:=n) w λw'=>rJ A vs λv=>Q v w' else rJ A vs λv=>Q v w
 | .ret,e,w=>rI A e w a λvs=>bif marks then A.again (n:=n) w λw'=>rJ A vs λv=>Q v w' else rJ A vs λv=>Q v w
 |_,_,_=>A.no
def uD(fr marks:Bool)(fn:Func)(c:Code)(args:List x1)(w:x3)(Q:x1->x3->B):B:=
 hS A fr n c (uC fn.results.toList 0) (yH A 0 args) w (FM A fn.results.toList marks n Q)
end
def oC(P:W9):ml Prop (Sem x1) (Sem Unit) where
 kO {x}:=x
 tup l:=.tuple l.toArray
 no:=False
 kP:=True
 and:=And
 or:=Or
 ext:=Ext
 stays:=cu P
 split:=Split
 uu:=aa P
 ya:=aC P
 yb u w K:=aC P u w λ_ w'=>K w'
 runN {fr n}:=rg P (fr,n)
 yc {f}:=ai P f
 yd {f}:=gE P f
 ye {fr}:=rj P fr
 drew:=ev
 again {n}:=uh n
 over {n}:=Over n
 dd:=ck
 aT:=ck
 iA:=ck
 yf:=ck
 yg:=ck
 yh:=ck
 yi:=Fq
 yj:=bZ
 yk:=cd
 yl:=nb
 ym:=pH
 yn:=pI
 yo:=Fr
 yp:=kf P
 yq:=mg P
 loadVar {t} x:=do loadVar t (<-asAddr x)
 alloc {t}:=Instr.alloc t true (.tuple #[])
 box {t} x:=Instr.box t x
 build {t} l:=Instr.build t l.toArray
 buildSlice {t n} l:=Y7 t n l.toArray
 load {t} x:=u4 t x
 nil x:=bN x
 bin {op t} a b x y:=aJ op t a b x y
 un {op} x:=Op.unary op x
 conv {s d} x:=convert s d x
 yr {t} x:=Instr.makeInterface t x
 ys {f} a b:=Instr.makeFunc f a.toArray b.toArray
 yt {t} x:=Instr.makeMap t x
 yu {t} l c:=Instr.makeSlice t l c
 slice {t} x l h m:=V6 t x l h m
 yv {t} x {f}:=u5 t x f
 field {t} x {f}:=Instr.field t x f
 yw {t} x i:=j5 t x i
 index {t} x i:=Instr.index t x i
 lookup {t} x i {ok}:=Instr.lookup t x i ok
 yx {t} m k:=Instr.mapEntry t m k
 range {t} x:=Instr.range t x
 entry x:=Instr.entry x
 assert {t a} x {ok}:=Instr.typeAssert x t a ok
 extract x {i}:=Y3 x i
 next x {b}:=Instr.next x b 0
 append {ats t} l:=Z3 ats t l.toArray
 cap {ats t} l:=Z5.cap_ ats t l.toArray
 clear {ats t} l:=Z5.clear_ ats t l.toArray
 copy {ats t} l:=Z5.copy_ ats t l.toArray
 delete {ats t} l:=Z5.delete_ ats t l.toArray
 len {ats t} l:=V2 ats t l.toArray
 max {ats t} l:=Z5.max_ ats t l.toArray
 min {ats t} l:=Z5.min_ ats t l.toArray
 store {t} a x:=o6 t a x
 uv {t} m k x:=Instr.mapUpdate t m k x
 yy {t} m k x:=Instr.entryStore t m k x
end Go.Vc
namespace Go.Proofs.YtikkpokkcdocoaaGreatDoor
open Go Go.Vc Go.RowKit Go.Proofs Go.Proofs.Tryz
set_option maxRecDepth 100000
theorem mixed:x7.follows .mixedOrders=true:=Ψ
def yI:Nat:=6
def FN:Nat:=7
def FO:Nat:=8
def uE:Nat:=11
def FP:Nat:=13
def FQ:Nat:=14
def FR:Nat:=16
def yJ:Nat:=19
def uF:Nat:=20
def yK:Nat:=21
def yL:Nat:=22
def uG:Nat:=23
def uH:Nat:=24
def FS:Nat:=25
def FT:Nat:=26
def yM:Nat:=27
def uI:Nat:=28
def yN:Nat:=30
def FU:Nat:=31
def FV:Nat:=32
def FW:Nat:=35
def FX:Nat:=36
def yO:Nat:=37
def FY:Nat:=38
def yP:Nat:=39
def FZ:Nat:=43
def Rg:Nat:=44
def Rh:Nat:=45
def Ri:Nat:=46
def F0:Nat:=47
def F3:Nat:=48
def F4:Nat:=49
def F5:Nat:=50
def F6:Nat:=51
def F7:Nat:=52
def F8:Nat:=53
def yQ:Nat:=54
def F9:Nat:=55
def Ga:Nat:=56
def Gb:Nat:=57
def Gc:Nat:=58
def Gd:Nat:=59
def Ge:Nat:=60
def Gf:Nat:=61
def yR:Nat:=62
def Gg:Nat:=63
def Gh:Nat:=64
def Gi:Nat:=65
def Gj:Nat:=66
def Gk:Nat:=67
def Gl:Nat:=68
def Gm:Nat:=69
def Gn:Nat:=70
def Gp:Nat:=71
def Gq:Nat:=72
def Rj:Nat:=73
def uJ:Nat:=74
def Gr:Nat:=75
def Gs:Nat:=76
def Gt:Nat:=77
def Gu:Nat:=78
def Gv:Nat:=79
def Gw:Nat:=80
def jd:Nat:=81
def Gx:Nat:=82
def Gy:Nat:=83
def Gz:Nat:=84
def GA:Nat:=85
def GB:Nat:=86
def yS:Nat:=87
def GC:Nat:=92
def GD:Nat:=93
def kQ:Nat:=94
def GF:Nat:=95
def GG:Nat:=96
def GH:Nat:=97
def GI:Nat:=98
def GJ:Nat:=99
def GK:Nat:=100
def GL:Nat:=101
def GM:Nat:=102
def GN:Nat:=103
def nk:Nat:=104
def nl:Nat:=105
def GO:Nat:=106
def Rk:Nat:=107
def yT:Nat:=108
def yU:Nat:=109
def pQ:Nat:=110
def nn:Nat:=111
def kR:Nat:=112
def yV:Nat:=113
def uK:Nat:=114
def np:Nat:=115
def yW:Nat:=116
def uL:Nat:=117
def GP:Nat:=118
def GQ:Nat:=119
def rK:Nat:=120
def lH:Nat:=121
def yX:Nat:=122
def nq:Nat:=123
def GR:Nat:=124
def GS:Nat:=125
def GU:Nat:=126
def GV:Nat:=127
def yY:Nat:=128
def GW:Nat:=129
def GX:Nat:=130
def yZ:Nat:=131
def y0:Nat:=132
def GY:Nat:=133
def GZ:Nat:=134
def G0:Nat:=135
def G1:Nat:=136
def G2:Nat:=137
def uM:Nat:=138
def G3:Nat:=139
def G4:Nat:=140
def G5:Nat:=141
def G6:Nat:=142
def G7:Nat:=143
def G8:Nat:=144
def G9:Nat:=145
def Ha:Nat:=146
def Hb:Nat:=147
def Hc:Nat:=148
def Hd:Nat:=149
def He:Nat:=150
def Hf:Nat:=151
def Hg:Nat:=152
def Hh:Nat:=154
def y1:Nat:=155
def Hi:Nat:=156
def Hj:Nat:=157
def Hk:Nat:=158
def Hl:Nat:=159
def y2:Nat:=160
def Hm:Nat:=161
def oD:Nat:=162
def Hn:Nat:=163
def Ho:Nat:=164
def y3:Nat:=165
def Hp:Nat:=166
def Hq:Nat:=167
def Hr:Nat:=168
def Hs:Nat:=169
def Ht:Nat:=170
def oE:Nat:=171
def Hu:Nat:=172
def Hv:Nat:=173
def rL:Nat:=174
def Hw:Nat:=175
def Hx:Nat:=176
def y4:Nat:=177
def y5:Nat:=178
def y6:Nat:=179
def Hy:Nat:=180
def pR:Nat:=181
def Hz:Nat:=182
def uN:Nat:=183
def HA:Nat:=184
def HB:Nat:=185
def y7:Nat:=186
def HC:Nat:=187
def HD:Nat:=188
def HE:Nat:=189
def HF:Nat:=190
def HG:Nat:=191
def HH:Nat:=192
def HI:Nat:=193
def y8:Nat:=194
def HJ:Nat:=195
def HK:Nat:=196
def HL:Nat:=197
def HM:Nat:=198
def HN:Nat:=199
def y9:Nat:=200
def HO:Nat:=201
def HP:Nat:=202
def HQ:Nat:=203
def HR:Nat:=204
def rM:Nat:=205
def za:Nat:=206
def HS:Nat:=207
def HT:Nat:=208
def HU:Nat:=209
def zb:Nat:=210
def HV:Nat:=211
def uO:Nat:=212
def rN:Nat:=213
def uP:Nat:=214
def HW:Nat:=215
def uQ:Nat:=216
def HX:Nat:=217
def HY:Nat:=218
def uR:Nat:=219
def HZ:Nat:=220
def H0:Nat:=221
def zc:Nat:=222
def zd:Nat:=223
def ze:Nat:=224
def H1:Nat:=225
def H2:Nat:=226
def H3:Nat:=227
def H4:Nat:=228
def H5:Nat:=229
def H6:Nat:=230
def H7:Nat:=231
def Rl:Nat:=232
def H8:Nat:=234
def cmp_isNaN_int:Nat:=235
def zf:Nat:=236
def uS:Nat:=237
def rO:Nat:=238
def H9:Nat:=239
def Ia:Nat:=240
def zg:Nat:=241
def Ib:Nat:=242
def Ic:Nat:=243
def Ie:Nat:=244
def If:Nat:=245
def Ig:Nat:=246
def Ih:Nat:=247
def Ii:Nat:=248
def lI:Nat:=249
def lJ:Nat:=250
def Ij:Nat:=251
def Rm:Nat:=252
def Ik:Nat:=253
def Rn:Nat:=254
def Il:Nat:=255
def Im:Nat:=256
def oF:Nat:=257
def In:Nat:=258
def Io:Nat:=259
def Ip:Nat:=260
def Iq:Nat:=270
def Ir:Nat:=271
def rP:Nat:=272
def Is:Nat:=273
def It:Nat:=274
def Iu:Nat:=275
def Iv:Nat:=276
def lK:Nat:=277
def Iw:Nat:=278
def Ix:Nat:=279
def Iy:Nat:=280
def Ro:Nat:=281
def Rp:Nat:=288
def Iz:Nat:=289
def IA:Nat:=290
def IB:Nat:=292
def IC:Nat:=293
def ID:Nat:=294
def Rq:Nat:=295
def IE:Nat:=296
def Rr:Nat:=297
def Rs:Nat:=298
def Rt:Nat:=299
def Ru:Nat:=300
def Rv:Nat:=301
def cmp_Less_int:Nat:=302
def Rw:Nat:=303
def Rx:Nat:=304
def Ry:Nat:=314
def Rz:Nat:=315
abbrev IF:Nat:=0
abbrev al:Nat:=2
abbrev ah:Nat:=3
abbrev ek:Nat:=4
abbrev cD:Nat:=5
abbrev cZ:Nat:=9
abbrev cH:Nat:=22
abbrev nr:Nat:=23
abbrev de:Nat:=25
abbrev ap:Nat:=26
abbrev dn:Nat:=27
abbrev jI:Nat:=28
abbrev ei:Nat:=29
abbrev gh:Nat:=30
abbrev aX:Nat:=33
abbrev jJ:Nat:=38
abbrev mm:Nat:=47
abbrev au:Nat:=51
abbrev fj:Nat:=58
abbrev bX:Nat:=60
abbrev c0:Nat:=63
abbrev a6:Nat:=70
abbrev fz:Nat:=72
abbrev mn:Nat:=82
abbrev kS:Nat:=83
abbrev e1:Nat:=84
abbrev bY:Nat:=86
abbrev IG:Nat:=87
abbrev fN:Nat:=89
abbrev zh:Nat:=92
abbrev oG:Nat:=94
abbrev bu:Nat:=96
abbrev dI:Nat:=98
abbrev uT:Nat:=108
abbrev uU:Nat:=111
abbrev cS:Nat:=118
abbrev dB:Nat:=120
abbrev dY:Nat:=135
abbrev gH:Nat:=136
abbrev hs:Nat:=137
abbrev iB:Nat:=138
abbrev cO:Nat:=140
abbrev IH:Nat:=155
abbrev dJ:Nat:=157
abbrev fO:Nat:=162
abbrev rQ:Nat:=164
abbrev e2:Nat:=167
abbrev ht:Nat:=168
abbrev cb:Nat:=170
abbrev je:Nat:=175
abbrev iC:Nat:=176
abbrev b0:Nat:=178
abbrev dK:Nat:=184
abbrev cv:Nat:=186
abbrev eS:Nat:=187
abbrev cw:Nat:=189
abbrev fk:Nat:=191
abbrev dy:Nat:=195
abbrev bw:Nat:=197
abbrev dC:Nat:=199
abbrev ch:Nat:=201
abbrev ea:Nat:=205
abbrev a1:Nat:=207
abbrev kT:Nat:=212
abbrev fA:Nat:=214
abbrev eT:Nat:=215
abbrev hv:Nat:=219
abbrev oH:Nat:=228
abbrev pS:Nat:=239
abbrev hT:Nat:=248
abbrev jK:Nat:=254
abbrev eb:Nat:=259
abbrev b5:Nat:=263
abbrev gi:Nat:=265
abbrev cT:Nat:=270
abbrev iD:Nat:=283
abbrev fB:Nat:=285
abbrev oI:Nat:=286
abbrev gj:Nat:=289
abbrev cU:Nat:=292
abbrev rR:Nat:=305
abbrev gV:Nat:=307
abbrev fP:Nat:=310
abbrev cz:Nat:=312
abbrev kU:Nat:=335
abbrev jf:Nat:=337
abbrev RA:Nat:=350
abbrev oJ:Nat:=357
abbrev lL:Nat:=358
abbrev mo:Nat:=380
abbrev rS:Nat:=399
theorem az{f:Q1}{fn:Func}{c:Code}{Q:x1->x3->Prop}{Z:{B S aS:Type}->ml B S aS->(x1->x3->B)->B}{a:Prop}(j:x7.funcs[f]?=σ fn)(h:a)(p:fn.body=σ c:=by rfl)(_:∀{B S aS:Type}(A:ml B S aS)(Q:x1->x3->B),uD A false false (n:=w.heap.size) fn c args w Q=Z A Q:=by intros;conv=>lhs;reduce)(_:Z (oC x7) Q=a:=by dsimp only[oC])(e:a=eC x7 fn.ntmps (false,w.heap.size) c (mi fn.results.toList) (kN 0 args) w (lE x7 fn.results.toList false 0 Q):=by kernel_rfl)(hk:(!(fn.name == "runtime.NumGoroutine")&&wf fn.ntmps c&&Nat.ble args.length fn.ntmps&& !kd c)=true:=by kernel_rfl):ai x7 f args w Q:=by
 simp only[U4,Bool.not_eq_true']at hk;exact ai.FG mixed j p hk.1.1.1 hk.1.1.2 hk.1.2 hk.2 (e▸h)
theorem hU{f:Q1}{fn:Func}{c:Code}{Q:x1->x3->Prop}{Z:{B S aS:Type}->ml B S aS->(x1->x3->B)->B}{a:Prop}(j:x7.funcs[f]?=σ fn)(h:a)(p:fn.body=σ c:=by rfl)(_:∀{B S aS:Type}(A:ml B S aS)(Q:x1->x3->B),uD A false true (n:=w.heap.size) fn c args w Q=Z A Q:=by intros;conv=>lhs;reduce)(_:Z (oC x7) Q=a:=by dsimp only[oC])(e:a=eC x7 fn.ntmps (false,w.heap.size) c (mi fn.results.toList) (kN 0 args) w (lE x7 fn.results.toList true w.heap.size Q):=by kernel_rfl)(hk:(!(fn.name == "runtime.NumGoroutine")&&wf fn.ntmps c&&Nat.ble args.length fn.ntmps)=true:=by kernel_rfl):ai x7 f args w Q:=by
 simp only[U4,Bool.not_eq_true']at hk;exact ai.enter mixed j p hk.1.1 hk.1.2 hk.2 (e▸h)
theorem oK{f:Q1}{fn:Func}{c:Code}{Q:x1->x3->Prop}{Z:{B S aS:Type}->ml B S aS->(x1->x3->B)->B}{a:Prop}(j:x7.funcs[f]?=σ fn)(h:a)(p:fn.body=σ c:=by rfl)(_:∀{B S aS:Type}(A:ml B S aS)(Q:x1->x3->B),uD A true false (n:=0) fn c args w Q=Z A Q:=by intros;conv=>lhs;reduce)(_:Z (oC x7) Q=a:=by dsimp only[oC])(e:a=eC x7 fn.ntmps (true,0) c (mi fn.results.toList) (kN 0 args) w (lE x7 fn.results.toList false 0 Q):=by kernel_rfl)(hk:(!(fn.name == "runtime.NumGoroutine")&&wf fn.ntmps c&&Nat.ble args.length fn.ntmps)=true:=by kernel_rfl):gE x7 f args w Q:=by
 simp only[U4,Bool.not_eq_true']at hk;exact gE.enter mixed j p hk.1.1 hk.1.2 hk.2 (e▸h)
theorem jd.enters:Enters x7 jd:=Enters.of x7 (show x7.funcs[jd]?=σ Tryz.f81 from Tryz.func81) rfl Ψ
theorem kQ.enters:Enters x7 kQ:=Enters.of x7 (show x7.funcs[kQ]?=σ Tryz.f94 from Tryz.func94) rfl Ψ
theorem oD.enters:Enters x7 oD:=Enters.of x7 (show x7.funcs[oD]?=σ Tryz.f162 from Tryz.func162) rfl Ψ
theorem lI.enters:Enters x7 lI:=Enters.of x7 (show x7.funcs[lI]?=σ Tryz.f249 from Tryz.func249) rfl Ψ
theorem oF.enters:Enters x7 oF:=Enters.of x7 (show x7.funcs[oF]?=σ Tryz.f257 from Tryz.func257) rfl Ψ
theorem lK.enters:Enters x7 lK:=Enters.of x7 (show x7.funcs[lK]?=σ Tryz.f277 from Tryz.func277) rfl Ψ
end Go.Proofs.YtikkpokkcdocoaaGreatDoor
namespace Go.Vc
open Go Go.RowKit
theorem uV{b o:Nat}(h:w.cell? ⟨b,o,ν⟩=σ v):∃c e f,w.heap[b]?=σ (.cells c e f)/\c[o]?=σ v:=by
 simp only[x3.cell?]at h;split at h
 .rename_i c e f a;exact⟨c,e,f,a,by simpa using h⟩
 .cases h
theorem zi(a:ae S w w'){b o:Nat}(j:¬S b)(h:w.cell? ⟨b,o,ν⟩=σ v):w'.cell? ⟨b,o,ν⟩=σ v:=by
 obtain⟨c,e,f,p,q⟩:=uV h;simp[x3.cell?,a.aY b _ p rfl j,q]
theorem iE(a:Ext w w'){b o:Nat}(h:w.cell? ⟨b,o,ν⟩=σ v):w'.cell? ⟨b,o,ν⟩=σ v:=
 zi (a.V λ_=>False) (λh=>h) h
theorem ns(a:Ext w w'){b o:Nat}(h:w.rangeAt b o cs):w'.rangeAt b o cs:=λj v e=>iE a (h j v e)
theorem hx(a:ae S w w'){b o:Nat}(e:¬S b)(h:w.rangeAt b o cs):w'.rangeAt b o cs:=λj v f=>zi a e (h j v f)
def ad(w:x3)(g:Nat)(e:r9)(cs:List x1):Prop:=w.heap[g]?=σ (.cells cs.toArray e (0,0))
theorem ad.ext{g:Nat}(h:ad w g e cs)(a:Ext w w'):ad w' g e cs:=a.aY g _ h rfl
theorem ad.V{g:Nat}(h:ad w g e cs)(a:ae S w w')(f:¬S g):ad w' g e cs:=a.aY g _ h rfl f
theorem ad.lt{g:Nat}(h:ad w g e cs):g<w.heap.size:=(n9.1 h).1
theorem ad.cell{g:Nat}(h:ad w g e cs){o:Nat}(a:cs[o]?=σ v):w.cell? ⟨g,o,ν⟩=σ v:=by
 unfold ad at h;simp[x3.cell?,h,a]
theorem ad.Qz{w:World}{g:Nat}{e:TypeId}{cs:List Value}{v:Value}(h:ad w g e cs)(I:cs[0]?=σ v):w.cell? ⟨g,0,ν⟩=σ v:=h.cell I
theorem ad.range{g:Nat}(h:ad w g e cs):w.rangeAt g 0 cs:=λj v a=>by rw[X6];exact h.cell a
theorem ad.frozen{g:Nat}(h:ad w g e cs)(o:Nat)(a:Option Nat):w.frozen? ⟨g,o,a⟩=false:=by
 unfold ad at h;simp[x3.frozen?,h]
def cc(w:x3)(k:Nat)(v:x1)(n:Nat)(cs:List x1):Prop:=
 cs.length=n*k/\∃b o base cap,v= .slice base n cap/\n<=cap/\cap<=maxLen/\(0<n->base=σ ⟨b,o,ν⟩)/\w.rangeAt b o cs
theorem cc.ext{k:Nat}(h:cc w k v n cs)(a:Ext w w'):cc w' k v n cs:=by
 obtain⟨h1,b,o,base,cap,e,f,j,p,q⟩:=h;exact⟨h1,b,o,base,cap,e,f,j,p,ns a q⟩
theorem cc.le{k:Nat}(h:cc w k v n cs):n<=maxLen:=by
 obtain⟨_,_,_,_,_,_,a,e,_⟩:=h;exact Y5 a e
theorem cc.nil(w:x3)(k:Nat):cc w k (.slice ν 0 0) 0 []:=⟨Ξ,0,0,ν,0,rfl,p8 _,X4 _,λh=>absurd h (Nat.lt_irrefl _),λj v h=>by simp at h⟩
def aO(P:W9)(t:r9)(k b:Nat)(z:x1):Prop:=∃i,P.info? t=σ i/\i.size=k/\i.bytes=b/\i.zero=σ z
theorem aO.of{P:W9}{k b:Nat}(h:(P.info? t).map (λi=>(i.size,i.bytes,i.zero))=σ (k,b,σ z)):aO P t k b z:=by
 cases hi:P.info? t with
 |none=>simp[hi]at h
 |some i=>simp[hi]at h;exact⟨i,hi,h⟩
theorem aO.size{P:W9}{k b:Nat}(h:aO P t k b z):(P.info? t).map (·.size)=σ k:=by
 obtain⟨i,hi,I,_⟩:=h;simp[hi,I]
def bE(P:W9)(t:r9)(pl:List (Nat×Nat)):Prop:=∃a,P.underlying t=σ (.struct a)/\a.toList.map (λf=>(f.offset,((P.info? f.type).map (·.size)).getD 0))=pl
def zj(P:W9)(t:r9):Option (List (Nat×Nat)):=match P.underlying t with
 |some (.struct a)=>σ (a.toList.map λf=>(f.offset,((P.info? f.type).map (·.size)).getD 0))
 |_=>ν
theorem bE.of{P:W9}{pl:List (Nat×Nat)}(h:zj P t=σ pl):bE P t pl:=by
 unfold zj at h;split at h
 .rename_i a hu;exact⟨a,hu,by simpa using h⟩
 .cases h
section
variable{P:W9}{w:x3}
theorem aa.of{s:Sem x1}(h:∀w',Ext w w'->s.run P w'= .ok v w'):aa P s w K=K v:=by
 refine propext ⟨λ⟨a,h',k⟩=>?_,λk=>⟨v,h,k⟩⟩;have:=h' w (Ext.refl w);rw[h w (Ext.refl w)]at this;cases this;exact k
theorem aC.of{α:Type}{s:Sem α}{v:α}{K:α->x3->Prop}(h:s.run P w= .ok v w')(a:cF w w')(k:K v w'):aC P s w K:=⟨v,w',h,a,k⟩
theorem b7{c:Bool}{A B:Prop}:Split (.bool c) A B=((c=true->A)/\(c=false->B)):=by
 refine propext ⟨λ⟨e,h,h1,a⟩=>?_,λ⟨h1,a⟩=>⟨c,rfl,h1,a⟩⟩;cases h;exact⟨h1,a⟩
theorem aj{p:Prop}[Decidable p]{A B:Prop}:Split (.bool (decide p)) A B=((p->A)/\(¬p->B)):=by rw[b7];simp
theorem bL{A B:Prop}:Split (.bool true) A B=A:=by rw[b7];simp
theorem aU{A B:Prop}:Split (.bool false) A B=B:=by rw[b7];simp
theorem aP{b:Int}:aa P (aJ .add t cx cy (.int k a) (.int k b)) w K=K (.int k (k.wrap (a+b))):=
 aa.of λw' _=>by simp[aJ,eqGuard,binOp,Op.intArith]
theorem dD{b:Int}:aa P (aJ .sub t cx cy (.int k a) (.int k b)) w K=K (.int k (k.wrap (a-b))):=
 aa.of λw' _=>by simp[aJ,eqGuard,binOp,Op.intArith]
theorem hV{b:Int}:aa P (aJ .mul t cx cy (.int k a) (.int k b)) w K=K (.int k (k.wrap (a*b))):=
 aa.of λw' _=>by simp[aJ,eqGuard,binOp,Op.intArith]
theorem rT{b:Int}(e:b≠0):aa P (aJ .quo t cx cy (.int k a) (.int k b)) w K=K (.int k (k.wrap (a.tdiv b))):=
 aa.of λw' _=>by simp[aJ,eqGuard,binOp,Op.intDiv,e]
theorem rU{b:Int}(e:b≠0):aa P (aJ .rem t cx cy (.int k a) (.int k b)) w K=K (.int k (a.tmod b)):=
 aa.of λw' _=>by simp[aJ,eqGuard,binOp,Op.intDiv,e]
theorem aQ{b:Int}:aa P (aJ .lss t cx cy (.int k a) (.int k b)) w K=K (.bool (decide (a<b))):=
 aa.of λw' _=>by simp[aJ,eqGuard,binOp,Op.intCmp]
theorem Υ{k:IntKind}{P:Program}{t:TypeId}{cx cy:Bool}{a b:Int}{w:World}{A B:Prop}(hA:a<b->A)(h:a<b:=by omega):aa P (aJ .lss t cx cy (.int k a) (.int k b)) w λv=>Split v A B:=by
 rw[aQ,aj];exact⟨hA,λe=>absurd h e⟩
theorem mp{b:Int}:aa P (aJ .leq t cx cy (.int k a) (.int k b)) w K=K (.bool (decide (a<=b))):=
 aa.of λw' _=>by simp[aJ,eqGuard,binOp,Op.intCmp]
theorem bP{b:Int}:aa P (aJ .gtr t cx cy (.int k a) (.int k b)) w K=K (.bool (decide (b<a))):=
 aa.of λw' _=>by simp[aJ,eqGuard,binOp,Op.intCmp]
theorem cI{b:Int}:aa P (aJ .geq t cx cy (.int k a) (.int k b)) w K=K (.bool (decide (b<=a))):=
 aa.of λw' _=>by simp[aJ,eqGuard,binOp,Op.intCmp]
theorem bd{b:Int}:aa P (aJ .eql t cx cy (.int k a) (.int k b)) w K=K (.bool (decide (a=b))):=
 aa.of λw' _=>by
  have:(a == b)=decide (a=b):=by by_cases h:a=b<;>simp[h]
  simp[aJ,eqGuard,binOp,Op.intCmp,this]
theorem bI{b:Int}:aa P (aJ .neq t cx cy (.int k a) (.int k b)) w K=K (.bool (decide (a≠b))):=
 aa.of λw' _=>by
  have:(a != b)=decide (a≠b):=by by_cases h:a=b<;>simp[h,bne]
  simp[aJ,eqGuard,binOp,Op.intCmp,this]
theorem zk{e:o4}{b:Int}(f:0<=b):aa P (aJ .shl t cx cy (.int k a) (.int e b)) w K=K (.int k (k.wrap (a*2 ^ min b.toNat k.bits))):=
 aa.of λw' _=>by simp[aJ,eqGuard,binOp,Op.shift,show¬b<0 by omega]
theorem bC{c:Bool}:aa P (Op.unary .not (.bool c)) w K=K (.bool !c):=aa.of λw' _=>by simp[Op.unary]
theorem lM:aa P (Op.unary .neg (.int k a)) w K=K (.int k (k.wrap (0-a))):=aa.of λw' _=>by simp[Op.unary,Op.intArith]
theorem fl{s d:r9}{e:o4}(I:P.underlying s=σ (.int e))(f:P.underlying d=σ (.int k)):
  aa P (convert s d (.int e a)) w K=K (.int k (k.wrap a)):=aa.of λw' _=>by simp[convert,run_underlying I,run_underlying f,Conv.intToInt]
theorem zl{x y:x1}{r:Bool}(a:∀w',(eqGuard .eql t (aV cx) (aV cy) x y).run P w'= .ok () w')(e:binOp .eql t x y=(do pure (.bool (<-Op.equal t x y))))(h:∀w',Ext w w'->(Op.equal t x y).run P w'= .ok r w'):aa P (aJ .eql t cx cy x y) w K=K (.bool r):=aa.of λw' f=>by
 unfold aJ;rw[e,W6,a w',Result.andThen_ok,W6,h w' f];rfl
theorem II{x y:x1}{r:Bool}(a:∀w',(eqGuard .neq t (aV cx) (aV cy) x y).run P w'= .ok () w')(e:binOp .neq t x y=(do pure (.bool (!(<-Op.equal t x y)))))(h:∀w',Ext w w'->(Op.equal t x y).run P w'= .ok r w'):aa P (aJ .neq t cx cy x y) w K=K (.bool !r):=aa.of λw' f=>by
 unfold aJ;rw[e,W6,a w',Result.andThen_ok,W6,h w' f];rfl
theorem zm(w:x3)(d:Nat){p:Option Addr}(h:P.underlying t=σ (.pointer e)):(Op.equalIn (d+1) t (.pointer p) (.pointer ν)).run P w= .ok p.isNone w:=by
 cases p<;>simp[Op.equalIn,run_underlying h]
theorem rV{base:Option Addr}{c:Nat}(a:P.underlying t=σ (.slice e)):
  aa P (aJ .eql t cx cy (.slice base n c) (.slice ν 0 0)) w K=K (.bool base.isNone):=zl (λ_=>rfl) rfl λw' _=>run_equal_slice_nil w' t e base n c a
theorem cP{p:Option Addr}(a:P.underlying t=σ (.pointer e)):
  aa P (aJ .eql t cx cy (.pointer p) (.pointer ν)) w K=K (.bool p.isNone):=zl (λ_=>rfl) rfl λw' _=>zm w' 9999 a
theorem zn{p:Option Addr}(a:P.underlying t=σ (.pointer e)):
  aa P (aJ .neq t cx cy (.pointer p) (.pointer ν)) w K=K (.bool !p.isNone):=II (λ_=>rfl) rfl λw' _=>zm w' 9999 a
theorem hy{a:r9}{base:Option Addr}{c:Nat}(f:P.underlying t=σ (.slice e)):
  aa P (V2 #[t] a #[.slice base n c]) w K=K (Δ n):=aa.of λw' _=>by simp[V2,run_underlying f,goInt]
theorem lN{e:Array r9}{f:r9}{b:Int}:
  aa P (Z5.min_ e f #[.int k a,.int k b]) w K=K (.int k (min a b)):=aa.of λw' _=>by
 simp only[Z5.min_,List.foldlM,Z5.min2];simp only[W6,V4,Result.andThen_ok,Int.min_def];congr 2;split<;>split<;>omega
theorem uW{e:Array r9}{f:r9}{b:Int}:
  aa P (Z5.max_ e f #[.int k a,.int k b]) w K=K (.int k (max a b)):=aa.of λw' _=>by
 simp only[Z5.max_,List.foldlM,Z5.max2];simp only[W6,V4,Result.andThen_ok,Int.max_def];congr 2;split<;>split<;>omega
theorem iF{vs:Array x1}{i:Nat}(h:vs[i]?=σ v):aa P (Y3 (.tuple vs) i) w K=K v:=aa.of λw' _=>by simp[Y3,h]
theorem ki{f:Fn}{a b:Array x1}:aa P (Instr.makeFunc f a b) w K=K (.func f a b):=aa.of λ_ _=>rfl
def jL(P:W9)(t:r9):Bool:=match P.underlying t with
 |some (.struct _)|some (.array _ _)|none=>false
 |_=>true
theorem aB{b o:Nat}(a:jL P t=true)(h:w.cell? ⟨b,o,ν⟩=σ v):
  aa P (u4 t (.pointer (σ ⟨b,o,ν⟩))) w K=K v:=aa.of λw' e=>by
 have h':=iE e h;unfold jL at a;cases hu:P.underlying t with
 |none=>rw[hu]at a;cases a
 |some d=>
  rw[hu]at a;cases d<;>first|(cases a;done)|simp[u4,Instr.sureAddr,loadVar,isAgg,run_underlying hu,h']
theorem zo{d:TypeDesc}{b o k a:Nat}(hu:P.underlying t=σ d)(e:d.isRow=true)(hi:aO P t k a z)(f:cs.length=k)(h:w.rangeAt b o cs):aa P (u4 t (.pointer (σ ⟨b,o,ν⟩))) w K=K (.agg cs.toArray):=aa.of λw' j=>
 run_loadAt_mid (P:=P) w' b o t cs d (ns j h) hu e (by rw[hi.size,f])
theorem bH{pl:List (Nat×Nat)}{b o k a:Nat}(hu:bE P t pl)(hi:aO P t k a z)(e:cs.length=k)(h:w.rangeAt b o cs):aa P (u4 t (.pointer (σ ⟨b,o,ν⟩))) w K=K (.agg cs.toArray):=by
 obtain⟨f,hu,_⟩:=hu;exact zo hu rfl hi e h
theorem aR{pl:List (Nat×Nat)}{i b o off z:Nat}(q:bE P t pl)(a:pl[i]?=σ (off,z+1)):
  aa P (u5 t (.pointer (σ ⟨b,o,ν⟩)) i) w K=K (.pointer (σ ⟨b,o+off,ν⟩)):=aa.of λw' _=>by
 obtain⟨r,hu,rfl⟩:=q;rw[x8]at a;cases e:r[i]? with
 |none=>rw[S8,e]at a;cases a
 |some f=>
  rw[S8,e]at a;simp only[Z7,X0,S2]at a;obtain⟨rfl,p⟩:=a;cases h:P.info? f.type with
  |none=>simp[h]at p
  |some j=>
   have I:j.size=z+1:=by simpa[h]using p
   simp[u5,run_underlying hu,e,Instr.sureAddr,fieldPlace,sizeOf,typeInfo,h,I,T2]
theorem zp{i:Int}{b o c z:Nat}{h:x1}{base:Option Addr}(hu:P.underlying t=σ (.slice e))(p:aO P e z f h)(q:0<=i)(hi:i<n)(a:0<n->base=σ ⟨b,o,ν⟩):
  aa P (j5 t (.slice base n c) (.int k i)) w K=K (.pointer (σ ⟨b,o+i.toNat*z,ν⟩)):=aa.of λw' _=>by
 have a:=a Ω;subst a;obtain⟨j,r,I,_⟩:=p;simp[j5,asIntOf,run_underlying hu,q,hi,sizeOf,typeInfo,r,I,T2]
theorem e3{i:Nat}{b o c z a:Nat}{f:x1}{base:Option Addr}(hu:P.underlying t=σ (.slice e))(h:aO P e z a f)(hi:i<n)(j:0<n->base=σ ⟨b,o,ν⟩):
  aa P (j5 t (.slice base n c) (.int k (i:Int))) w K=K (.pointer (σ ⟨b,o+i*z,ν⟩)):=by
 rw[zp (i:=(i:Int)) hu h Ω Ω j];rfl
theorem IJ{i:Int}{b o z a:Nat}{f:x1}(hu:P.underlying t=σ (.array n e))(h:aO P e z a f)(p:0<=i)(hi:i<n):
  aa P (j5 t (.pointer (σ ⟨b,o,ν⟩)) (.int k i)) w K=K (.pointer (σ ⟨b,o+i.toNat*z,ν⟩)):=aa.of λw' _=>by
 obtain⟨j,q,I,_⟩:=h;simp[j5,asIntOf,run_underlying hu,Instr.sureAddr,p,hi,sizeOf,typeInfo,q,I,T2]
theorem uX{i:Nat}{b o z a:Nat}{f:x1}(hu:P.underlying t=σ (.array n e))(h:aO P e z a f)(hi:i<n):
  aa P (j5 t (.pointer (σ ⟨b,o,ν⟩)) (.int k (i:Int))) w K=K (.pointer (σ ⟨b,o+i*z,ν⟩)):=by
 rw[IJ (i:=(i:Int)) hu h Ω Ω];rfl
def lO:Option x1->Nat->Prop
 |none,l=>l=0
 |some v,l=>∃k,v= .int k l
def lP:Option x1->Nat->Nat->Prop
 |none,n,h=>h=n
 |some v,_,h=>∃k,v= .int k h
def maxOf:Option x1->Option x1->Nat->Nat->Prop
 |none,_,c,m=>m=c
 |some v,σ _,_,m=>∃k,v= .int k m
 |some _,ν,_,_=>False
theorem nt{l:Nat}:lO (σ (.int k (l:Int))) l:=⟨_,rfl⟩
theorem nu(l:Nat)(x:Int)(h:x=(l:Int)):lO (σ (.int k x)) l:=⟨k,by rw[h]⟩
theorem nv(l:Nat)(x:Int)(h:x=(l:Int)):lP (σ (.int k x)) n l:=⟨k,by rw[h]⟩
theorem iG:lO ν 0:=rfl
theorem nw:lP (σ (.int k (h:Int))) n h:=⟨_,rfl⟩
theorem iH:lP ν n n:=rfl
theorem eU{h:Option x1}{c:Nat}:maxOf ν h c c:=by cases h<;>rfl
theorem rW(w:x3){sl:Bool}{c l m:Nat}{low high mx:Option x1}(h1:lO low l)(e:lP high n h)(a:maxOf mx high c m)(f:l<=h)(ao:h<=m)(hm:m<=c):
  (Instr.sliceBounds sl n c low high mx).run P w= .ok (l,h,m) w:=by
 cases low<;>cases high<;>cases mx<;>simp only[lO,lP,maxOf]at h1 e a<;>(try exact a.elim)<;>(try obtain⟨j,rfl⟩:=h1)<;>(try obtain⟨p,rfl⟩:=e)<;>(try obtain⟨q,rfl⟩:=a)<;>(try subst h1)<;>(try subst e)<;>(try subst a) <;>
  simp[Instr.sliceBounds,Instr.sliceBound,asIntOf,f,ao,hm]
theorem gk{c z a l m:Nat}{f:x1}{base:Option Addr}{low high mx:Option x1}(hu:P.underlying t=σ (.slice e))(p:aO P e z a f)(h1:lO low l)(q:lP high n h)(r:maxOf mx high c m)(s:l<=h)(ao:h<=m)(hm:m<=c):
  aa P (V6 t (.slice base n c) low high mx) w K=K (.slice (if m=l then base else base.map (·.add (l*z))) (h-l) (m-l)):=aa.of λw' _=>by
 obtain⟨j,x,I,_⟩:=p;simp[V6,Instr.slice,run_underlying hu,rW w' h1 q r s ao hm,sizeOf,typeInfo,x,I]
theorem rX{z a l m b o:Nat}{f:x1}{low high mx:Option x1}(hu:P.underlying t=σ (.array n e))(p:aO P e z a f)(h1:lO low l)(q:lP high n h)(r:maxOf mx high n m)(s:l<=h)(ao:h<=m)(hm:m<=n):
  aa P (V6 t (.pointer (σ ⟨b,o,ν⟩)) low high mx) w K=K (.slice (σ (if m=l then⟨b,o,ν⟩else⟨b,o+l*z,ν⟩)) (h-l) (m-l)):=aa.of λw' _=>by
 obtain⟨j,x,I,_⟩:=p;simp[V6,Instr.sureAddr,run_underlying hu,rW w' h1 q r s ao hm,sizeOf,typeInfo,x,I,T2]
theorem dh{parts:Array (Nat×x1)}{cs:Array x1}(h:P.built t parts.toList=σ cs):aa P (Instr.build t parts) w K=K (.agg cs):=aa.of λw' _=>
 run_build (P:=P) w' t parts cs h
end
theorem cc.part{k c l m:Nat}{base:Option Addr}(I:cc w k (.slice base n c) n cs)(q:l<=h)(ao:h<=n)(hm:h<=m)(r:m<=c):
  cc w k (.slice (if m=l then base else base.map (·.add (l*k))) (h-l) (m-l)) (h-l) ((cs.drop (l*k)).take ((h-l)*k)):=by
 obtain⟨h1,b,o,s,cap,he,x,y,e,f⟩:=I;cases he;have z:h*k<=n*k:=Y4 _ ao;have A:l*k+(h-l)*k=h*k:=by rw[<-U8];congr 1;omega
 refine⟨by simp[h1];omega,b,o+l*k,_,m-l,rfl,Ω,Ω,λB=>?_,λj v a=>?_⟩
 .rw[e Ω,if_neg Ω];simp[T2]
 .have p:=(x4.1 a).1;simp at p;rw[Z9 Ω,List.getElem?_drop]at a;rw[S6];exact f _ _ a
section
variable{P:W9}{w:x3}
structure jg(g:Nat)(w w':x3):Prop where
 os:w'.os=w.os
 tape:jE w w'
 output:w'.output=w.output
 size:w'.heap.size=w.heap.size
 aY:∀r,r≠g->w'.heap[r]?=w.heap[r]?
theorem jg.refl(g:Nat)(w:x3):jg g w w:=⟨rfl,.ka,rfl,rfl,λ_ _=>rfl⟩
theorem jg.trans{g:Nat}{a b:x3}(h:jg g a b)(k:jg g b c):jg g a c:=
 ⟨k.os.trans h.os,k.tape.trans h.tape,k.output.trans h.output,k.size.trans h.size,λr e=>(k.aY r e).trans (h.aY r e)⟩
theorem jg.V{g:Nat}{w:x3}(h:jg g w w'):ae (λr=>r=g) w w':=⟨Nat.le_of_eq h.size.symm,λr o a _ e=>by rw[h.aY r e];exact a⟩
theorem jg.cj{g:Nat}{w:x3}(h:jg g w w')(f:ad w g e cs):cF w w':=
 ⟨h.os,h.tape,h.output,Nat.le_of_eq h.size.symm,λr o a I=>by
  by_cases j:r=g
  .subst j;unfold ad at f;rw[f]at a;cases a;simp[fw]at I
  .rw[h.aY r j];exact a⟩
theorem zq{g:Nat}(h:ad w g e cs)(o:Nat)(v:x1):ad (w.setCell ⟨g,o,ν⟩ v) g e (cs.set o v)/\jg g w (w.setCell ⟨g,o,ν⟩ v):=by
 unfold ad at h;refine⟨?_,rfl,.ka,rfl,by simp[x3.setCell],λr a=>?_⟩
 .simp[ad,x3.setCell,Array.getElem?_modify,h]
 .simp[x3.setCell,Array.getElem?_modify,Ne.symm a]
def over(cs:List x1):Nat->List x1->List x1
 |_,[]=>cs
 |o,v::r=>over (cs.set o v) (o+1) r
theorem lQ:∀(vs cs:List x1)(o:Nat),(over cs o vs).length=cs.length
 |[],_,_=>rfl
 |v::r,cs,o=>by simp[over,lQ r]
theorem nx:∀(vs cs:List x1)(o:Nat),o+vs.length<=cs.length->∀j,(over cs o vs)[j]?=if o<=j/\j<o+vs.length then vs[j-o]? else cs[j]?
 |[],cs,o,_,j=>by simp[over];intro h1 a;omega
 |v::r,cs,o,h,j=>by
  simp only[c9]at h;rw[over,nx r (cs.set o v) (o+1) Θ j];simp only[c9];by_cases h1:o+1<=j/\j<o+1+r.length
  .rw[if_pos h1,if_pos Ω];rw[show j-o=(j-(o+1))+1 by omega,List.getElem?_cons_succ]
  .rw[if_neg h1];by_cases a:j=o
   .subst a;rw[if_pos Ω,Z0 Ω];simp
   .rw[if_neg Ω,Y8 (Ne.symm a)]
theorem mq{o:Nat}(h:o+vs.length<=cs.length):over cs o vs=cs.take o++vs++cs.drop (o+vs.length):=by
 apply X2;intro j;rw[nx vs cs o h];by_cases h1:j<o
 .rw[if_neg Ω,Y1 Θ,Y1 Θ,Z9 h1]
 .by_cases a:j<o+vs.length
  .rw[if_pos Ω,Y1 Θ,Y2 Θ];congr 1;simp;omega
  .rw[if_neg Ω,Y2 Θ,List.getElem?_drop];congr 1;simp;omega
theorem ny{g:Nat}{e:r9}:∀(vs:List x1)(cs:List x1)(o:Nat)(w:x3),ad w g e cs->ad (w.setCells g o vs) g e (over cs o vs)/\jg g w (w.setCells g o vs)
 |[],cs,o,w,h=>⟨h,jg.refl _ _⟩
 |v::r,cs,o,w,h=>by
  obtain⟨h1,a⟩:=zq h o v;obtain⟨f,j⟩:=ny r (cs.set o v) (o+1) _ h1;exact⟨f,a.trans j⟩
theorem rY(w:x3)(c:List x1)(e:r9):ad (w.alloc (.cells c.toArray e)) w.heap.size e c/\Ext w (w.alloc (.cells c.toArray e))/\cF w (w.alloc (.cells c.toArray e)):=
 ⟨heap_alloc_new w _,pB w _,pC w _⟩
theorem bz{k a:Nat}{K:x1->x3->Prop}(hi:aO P t k a z)(h:∀g w',g=w.heap.size->Ext w w'->ad w' g t z.cells.toList->K (Γ g) w'):aC P (Instr.alloc t true (.tuple #[])) w K:=by
 obtain⟨i,hi,_,_,e⟩:=hi;obtain⟨h1,f,j⟩:=rY w z.cells.toList t;refine .of ?_ j (h _ _ rfl f h1);simp[Instr.alloc,zeroValue,typeInfo,hi,e,newVar,newRow]
theorem bj{K:x1->x3->Prop}(h:∀g w',g=w.heap.size->Ext w w'->ad w' g t v.cells.toList->K (Γ g) w'):aC P (Instr.box t v) w K:=by
 obtain⟨h1,a,e⟩:=rY w v.cells.toList t;refine .of ?_ e (h _ _ rfl a h1);simp[Instr.box,newVar,newRow]
def dP(z:Array x1)(n:Nat):List x1:=((Array.range n).map (z[·% z.size]!)).toList
theorem oL(z:Array x1)(n:Nat):(dP z n).length=n:=by simp[dP]
theorem kj{k q:Nat}{parts:Array (Nat×x1)}{cs:Array x1}{K:x1->x3->Prop}(p:P.underlying t=σ (.slice e))(hi:aO P e k q z)(A:n*k<=2 ^ 24)(a:Instr.fill (λj=>σ (j*k,k)) ((Array.range (n*k)).map ((if n*k=0 then#[]else z.cells)[·% (if n*k=0 then#[]else z.cells).size]!)) parts.toList=σ cs)(h:∀g w',g=w.heap.size->Ext w w'->ad w' g e cs.toList->K (.slice (σ ⟨g,0,ν⟩) n n) w'):aC P (Y7 t n parts) w K:=by
 obtain⟨i,hi,rfl,_,r⟩:=hi;obtain⟨h1,s,x⟩:=rY w cs.toList e;refine .of ?_ x (h _ _ rfl s h1);have y:¬(16777216<n*i.size):=Ω
 by_cases f:n*i.size=0
 .simp only[f,if_true]at a;simp[Y7,run_underlying p,sizeOf,typeInfo,hi,f,newRow];simp at a;simp[a]
 .simp only[f,if_false]at a;simp[Y7,run_underlying p,sizeOf,typeInfo,hi,y,f,newRow,zeroValue,r,a]
theorem bk{g o:Nat}{K:Unit->x3->Prop}(hi:aO P t 1 j z)(h1:v.cells= #[v])(p:v.oneCell'=true)(a:ad w g e cs)(q:o<cs.length)(h:∀w',ae (λr=>r=g) w w'->w'.heap.size=w.heap.size->ad w' g e (cs.set o v)->K () w'):aC P (o6 t (.pointer (σ ⟨g,o,ν⟩)) v) w K:=by
 obtain⟨i,hi,I,_⟩:=hi;obtain⟨s,f⟩:=zq a o v;refine .of (w':=w.setCell ⟨g,o,ν⟩ v) ?_ (f.cj a) (h _ f.V f.size s);have x:=a.cell (x6 q);have y:(⟨g,o,ν⟩:Addr).add 0=⟨g,o,ν⟩:=rfl;simp[o6,Instr.sureAddr,storeVar,sizeOf,typeInfo,hi,I,h1,storeCells,y,run_store P w _ v _ p,x,a.frozen]
theorem zr{k p g o:Nat}{K:Unit->x3->Prop}(hi:aO P t k p z)(q:vs.length=k)(s:∀v∈vs,v.oneCell'=true)(a:ad w g e cs)(A:o+vs.length<=cs.length)(h:∀w',ae (λr=>r=g) w w'->w'.heap.size=w.heap.size->ad w' g e (over cs o vs)->K () w'):aC P (o6 t (.pointer (σ ⟨g,o,ν⟩)) (.agg vs.toArray)) w K:=by
 obtain⟨x,f⟩:=ny vs cs o w a;refine .of (w':=w.setCells g o vs) ?_ (f.cj a) (h _ f.V f.size x);exact run_storeAt_mid (P:=P) w g o t vs.toArray (λj y=>⟨by rw[a.cell (x6 (show o+j<cs.length by simp at y;omega))];rfl,a.frozen _ _⟩) (by rw[hi.size];simp[q]) (by simpa using s)
def bW(w:x3)(g:Nat)(e:r9)(k:Nat)(v:x1)(n:Nat)(xs:List x1):Prop:=
 xs.length=n*k/\((v= .slice ν 0 0/\n=0)\/∃cap cs,v= .slice (σ ⟨g,0,ν⟩) n cap/\ad w g e cs/\n<=cap/\cap<=maxLen/\cs.length=cap*k/\cs.take (n*k)=xs)
theorem bW.nil(w:x3)(g:Nat)(e:r9)(k:Nat):bW w g e k (.slice ν 0 0) 0 []:=⟨Ξ,.inl ⟨rfl,rfl⟩⟩
theorem bW.full{g:Nat}{k:Nat}(h:ad w g e cs)(a:cs.length=n*k)(f:n<=maxLen):bW w g e k (.slice (σ ⟨g,0,ν⟩) n n) n cs:=
 ⟨a,.inr ⟨n,cs,rfl,h,p8 _,f,a,by rw[<-a,o5]⟩⟩
theorem bW.V{g:Nat}{k:Nat}(h:bW w g e k v n xs)(f:ae S w w')(j:g<w.heap.size->¬S g):bW w' g e k v n xs:=
 ⟨h.1,h.2.imp id λ⟨cap,cs,h1,a,p⟩=>⟨cap,cs,h1,a.V f (j a.lt),p⟩⟩
theorem bW.ext{g:Nat}{k:Nat}(h:bW w g e k v n xs)(a:Ext w w'):bW w' g e k v n xs:=h.V (a.V λ_=>False) (λ_ h=>h)
theorem bW.sl{g:Nat}{k:Nat}(h:bW w g e k v n xs):cc w k v n xs:=by
 obtain⟨h1,⟨rfl,rfl⟩|⟨cap,cs,rfl,f,p,q,s,r⟩⟩:=h
 .have:xs=[]:=j4 (by simpa using h1);subst this;exact cc.nil w k
 .refine⟨h1,g,0,_,cap,rfl,p,q,λ_=>rfl,λj v a=>?_⟩;rw[X6];have x:=(x4.1 a).1;rw[<-r,Z9 Ω]at a;exact f.cell a
theorem cc.src{k:Nat}{x:x1}{m:Nat}{a:List x1}{f h:r9}(I:cc w k x m a)(hk:P.underlying f=σ (.slice h))(h1:∀u∈a,u.oneCell'=true)(p:0<m):Src P k f x m a w:=by
 obtain⟨q,b,o,base,cap,rfl,_,_,e,r⟩:=I;have e:=e p;subst e;exact Src.ofSlice w hk ⟨b,o,ν⟩ m cap a q (λj u hu=>by rw[T2];exact r j u hu) h1
theorem cc.IK{k:Nat}{x:x1}{f:List x1}{h:r9}(I:cc w k x 0 f)(hk:P.underlying e=σ (.slice h)):Src P k e x 0 [] w:=by
 obtain⟨j,b,o,base,cap,rfl,_,_,p,q⟩:=I;cases base with
 |none=>exact Src.ofNil w hk cap
 |some a=>exact Src.ofSlice w hk a 0 cap [] Ξ Ξ Ξ
theorem zs{p s M X:r9}{k g m:Nat}{x:x1}{a:List x1}{K:x1->x3->Prop}(B:P.underlying t=σ (.slice e))(C:P.underlying p=σ (.slice X))(hi:aO P e k N z)(Y:z.cells.size=k)(O:bW w g M k v n xs)(I:cc w k x m a)(h1:∀u∈a,u.oneCell'=true)(Z:(n+m)*N<=140737488355328)(Q:n+m<=maxLen)(h:∀E F w' G,(F=g/\G=M/\(v=E\/g<w.heap.size/\v≠ .slice ν 0 0)\/F=w.heap.size/\G=e)->bW w' F G k E (n+m) (xs++a)->ae (λr=>r=g/\v≠ .slice ν 0 0) w w'->K E w'):
  aC P (Z3 #[t,p] s #[v,x]) w K:=by
 obtain⟨i,hi,rfl,rfl,aa⟩:=hi;have ab:=O.sl;obtain⟨f,H⟩:=O;have q:=I.1;have grow:∀(base:Option Addr)(cap:Nat),v= .slice base n cap->cap<n+m->0<m->(Z5.firstCells i.size n (.slice base n cap)).run P w.drew= .ok xs.toArray w.drew->aC P (Z3 #[t,p] s #[v,x]) w K:=by
  rintro base cap rfl R hm ac;have y:=run_append_grow_src (P:=P) w t p s e i z B hi aa base n cap xs ac x m a (I.src C h1 hm) R (by simp only[maxLen]at Q;omega) (growslice_fits R Z);have ad:n+m<=grownCap w (n+m) cap e:=grownCap_ge w _ _ _;have J:grownCap w (n+m) cap e<=maxLen:=grownCap_le_maxLen w (n+m) cap e Q;have af:Ext w (w.drew.alloc (.cells ((xs++a).toArray++Z5.zeroCells z.cells (grownCap w (n+m) cap e-(n+m))) e)):=(rf w _).trans (pB _ _);refine .of y ((pA w _ (Nat.le_succ _)).trans (pC _ _)) (h _ w.heap.size _ _ (.inr ⟨rfl,rfl⟩) ⟨by simp[f,q,U8],.inr ⟨_,((xs++a).toArray++Z5.zeroCells z.cells (grownCap w (n+m) cap e-(n+m))).toList,rfl,?_,ad,J,?_,?_⟩⟩ (af.V _))
  .show _=_;rw[Array.toArray_toList];exact heap_alloc_new w.drew _
  .simp[f,q,size_zeroCells,Y,<-U8];congr 1;omega
  .rw[Array.toList_append,List.toList_toArray,U8,<-f,<-q,<-r8];exact List.take_left
 rcases Q4 m with rfl|hm
 .have ag:a=[]:=j4 (by simpa using q);subst ag;have ah:=I.IK C;have S:∀base cap,v= .slice base n cap->n<=cap->aC P (Z3 #[t,p] s #[v,x]) w K:=by
   rintro base cap rfl J;refine .of (run_append_nothing (P:=P) w t p s e i B hi base n cap J x ah) (cF.refl _) (h _ g _ _ (.inl ⟨rfl,rfl,.inl rfl⟩) ?_ (ae.refl _ _));rw[Nat.add_zero,W7];exact⟨f,H⟩
  obtain⟨rfl,rfl⟩|⟨cap,cs,rfl,_,T,_⟩:=H
  .exact S _ _ rfl (p8 _)
  .exact S _ _ rfl T
 .obtain⟨rfl,rfl⟩|⟨cap,cs,rfl,A,T,ai,U,aj⟩:=H
  .have ak:xs=[]:=j4 (by simpa using f);subst ak;exact grow ν 0 rfl Ω hm (run_firstCells_none w.drew i.size 0 0 0)
  .by_cases L:n+m<=cap
   .have al:n*i.size+a.length<=cs.length:=by rw[q,U,<-U8];exact Y4 _ L
    have y:=run_append_room_src (P:=P) w t p s e i B hi g 0 n cap x m a (I.src C h1 hm) L
     (λj aq=>by rw[A.cell (x6 (show 0+n*i.size+j<cs.length by omega))];rfl) (λj _=>A.frozen _ _)
    obtain⟨am,W⟩:=ny a cs (n*i.size) w A;rw[X6]at y;refine .of y (W.cj A) (h _ g _ _ (.inl ⟨rfl,rfl,.inr ⟨A.lt,Ξ⟩⟩) ⟨by simp[f,q,U8],.inr ⟨cap,_,rfl,am,L,ai,by rw[lQ,U],?_⟩⟩ (W.V.mono λr _ h=>⟨h,Ξ⟩));rw[mq al,aj,U8,<-f,<-q,<-r8];exact List.take_left
   .refine grow _ cap rfl Ω hm (run_firstCells_some w.drew i.size n _ n cap xs f λj u hu=>?_);rw[T2];obtain⟨_,b,o,base,au,he,_,_,an,y⟩:=ab;cases he;have ao:0<n:=by
     rcases Q4 n with rfl|ap
     .simp at f;subst f;simp at hu
     .exact ap
    have:=an ao;cases this;simpa using y j u hu
theorem nz{p y A:r9}{k q g m:Nat}{x:x1}{j:List x1}{K:x1->x3->Prop}(B:P.underlying t=σ (.slice e))(C:P.underlying p=σ (.slice A))(hi:aO P e k q z)(E:z.cells.size=k)(F:bW w g e k v n xs)(I:cc w k x m j)(h1:∀u∈j,u.oneCell'=true)(G:(n+m)*q<=140737488355328)(H:n+m<=maxLen)(h:∀f a w',(a=g\/w.heap.size<=a)->bW w' a e k f (n+m) (xs++j)->ae (λr=>r=g) w w'->K f w'):
  aC P (Z3 #[t,p] y #[v,x]) w K:=
 zs B C hi E F I h1 G H λf a w' L s hm J=>by
  refine h f a w' (s.imp And.left λh=>Nat.le_of_eq h.1.symm) ?_ (J.mono λr _ h=>h.1);obtain⟨_,rfl,_⟩|⟨_,rfl⟩:=s<;>exact hm
theorem zt{f q s:r9}{J g o hz y:Nat}{x:x1}{base:Option Addr}{C:r9}{K:x1->x3->Prop}(E:P.underlying f=σ (.slice e))(hi:aO P e 1 J z)(a:ad w g C cs)(L:0<hz->base=σ ⟨g,o,ν⟩)(W:o+hz<=cs.length)(I:cc w 1 x n xs)(h1:∀u∈xs,u.oneCell'=true)(h:∀w',ae (λr=>r=g) w w'->w'.heap.size=w.heap.size->ad w' g C (over cs o (xs.take hz))->K (Δ (min n hz:Nat)) w'):
  aC P (Z5.copy_ #[f,q] s #[.slice base hz y,x]) w K:=by
 obtain⟨A,b,o',M,cap,rfl,_,_,N,O⟩:=I;simp only[T0]at A;have F:(P.info? e).map (·.size)=σ 1:=hi.size;by_cases p:Nat.min n hz=0
 .have he:xs.take hz=[]:=j4 (by rw[o7,A];rw[Nat.min_comm];exact p);rw[he]at h;refine .of (run_copy_none (P:=P) w f q s e base M hz y n cap E F p) (cF.refl _) ?_;have G:min n hz=0:=p;rw[G]at h;exact h w (ae.refl _ _) rfl a
 .have G:min n hz≠0:=p;have Q:=N Ω;have R:=L Ω;subst Q;subst R;have H:(xs.take hz).length=min n hz:=by rw[o7,A,Nat.min_comm]
  obtain⟨S,B⟩:=ny (xs.take hz) cs o w a;have T:=run_copy_cells (P:=P) w f q s e g o hz y ⟨b,o',ν⟩ n cap (xs.take hz) E F H
   (λj u hu=>by
    rw[T2];have U:=(x4.1 hu).1;rw[Z9 Ω]at hu;exact O j u hu)
   (λj U=>by rw[a.cell (x6 (show o+j<cs.length by omega))];rfl) (λj _=>a.frozen _ _) (λu hu=>h1 u (V5 hu))
  refine .of T (B.cj a) ?_;rw[H];exact h _ B.V B.size S
theorem ai.mono{f:Q1}{K e:x1->x3->Prop}(h:ai P f args w K)(j:∀v w',cF w w'->K v w'->e v w'):ai P f args w e:=by
 cases h with
 |code h1 a=>exact .code h1 (a.mono λ_ w' ⟨v,h1,p,a⟩=>⟨v,h1,p,j v w' p a⟩)
 |ext v w' h1 a q=>exact .ext v w' h1 a (j v w' a q)
theorem gE.mono{f:Q1}{K e:x1->x3->Prop}(h:gE P f args w K)(j:∀v w',K v w'->e v w'):gE P f args w e:=by
 cases h with
 |code h1 a=>exact .code h1 (a.mono λ_ w' ⟨v,h1,a⟩=>⟨v,h1,j v w' a⟩)
 |ext v w' h1 p=>exact .ext v w' h1 (j v w' p)
end
end Go.Vc
namespace Go.Proofs.YtikkpokkcdocoaaGreatDoor
open Go Go.Vc Go.RowKit Go.Proofs Go.Proofs.Tryz
set_option maxRecDepth 100000
theorem al.u:x7.underlying al=σ (.int .i64):=Ψ
theorem al.i:aO x7 al 1 8 (Δ 0):=aO.of Ψ
theorem ah.u:x7.underlying ah=σ (.int .i64):=Ψ
theorem ah.i:aO x7 ah 1 8 (Δ 0):=aO.of Ψ
theorem ek.i:aO x7 ek 1 1 (.bool false):=aO.of Ψ
theorem cD.u:x7.underlying cD=σ (.int .u8):=Ψ
theorem cD.i:aO x7 cD 1 1 (.int .u8 0):=aO.of Ψ
theorem cZ.u:x7.underlying cZ=σ .string:=Ψ
theorem cZ.i:aO x7 cZ 1 16 (.string ⟨#[]⟩):=aO.of Ψ
theorem cH.u:x7.underlying cH=σ (.slice cD):=Ψ
theorem nr.u:x7.underlying nr=σ (.slice c0):=Ψ
theorem de.u:x7.underlying de=σ (.pointer bY):=Ψ
theorem ap.u:x7.underlying ap=σ (.slice ah):=Ψ
theorem ap.i:aO x7 ap 1 24 (.slice ν 0 0):=aO.of Ψ
theorem dn.u:x7.underlying dn=σ (.slice ap):=Ψ
theorem dn.i:aO x7 dn 1 24 (.slice ν 0 0):=aO.of Ψ
theorem jI.u:x7.underlying jI=σ (.slice ek):=Ψ
theorem jI.i:aO x7 jI 1 24 (.slice ν 0 0):=aO.of Ψ
theorem ei.u:x7.underlying ei=σ (.slice au):=Ψ
theorem ei.i:aO x7 ei 1 24 (.slice ν 0 0):=aO.of Ψ
theorem gh.u:x7.underlying gh=σ (.slice fz):=Ψ
theorem gh.i:aO x7 gh 1 24 (.slice ν 0 0):=aO.of Ψ
theorem aX.p:bE x7 aX [(0,1),(1,1),(2,1),(3,1),(4,1),(5,1),(6,1),(7,1)]:=bE.of Ψ
theorem aX.i:aO x7 aX 8 160 (.agg #[(Δ 0),(.slice ν 0 0),(Δ 0),(.slice ν 0 0),(.slice ν 0 0),(.slice ν 0 0),(.slice ν 0 0),(.slice ν 0 0)]):=aO.of Ψ
theorem jJ.i:aO x7 jJ 1 8 (Δ 0):=aO.of Ψ
theorem mm.u:x7.underlying mm=σ (.slice fN):=Ψ
theorem mm.i:aO x7 mm 1 24 (.slice ν 0 0):=aO.of Ψ
theorem au.u:x7.underlying au=σ (.slice al):=Ψ
theorem au.i:aO x7 au 1 24 (.slice ν 0 0):=aO.of Ψ
theorem fj.u:x7.underlying fj=σ (.int .u64):=Ψ
theorem fj.i:aO x7 fj 1 8 (.int .u64 0):=aO.of Ψ
theorem bX.p:bE x7 bX [(0,1),(1,1)]:=bE.of Ψ
theorem bX.i:aO x7 bX 2 16 (.agg #[(.int .u64 0),(Δ 0)]):=aO.of Ψ
theorem c0.p:bE x7 c0 [(0,1),(1,1),(2,1),(3,1),(4,1)]:=bE.of Ψ
theorem c0.i:aO x7 c0 5 40 (.agg #[(.int .u8 0),(Δ 0),(Δ 0),(Δ 0),(Δ 0)]):=aO.of Ψ
theorem a6.p:bE x7 a6 [(0,1),(1,1),(2,1)]:=bE.of Ψ
theorem a6.i:aO x7 a6 3 72 (.agg #[(.slice ν 0 0),(.slice ν 0 0),(.slice ν 0 0)]):=aO.of Ψ
theorem fz.p:bE x7 fz [(0,3),(3,1)]:=bE.of Ψ
theorem fz.i:aO x7 fz 4 80 (.agg #[(.slice ν 0 0),(.slice ν 0 0),(.slice ν 0 0),(.bool false)]):=aO.of Ψ
theorem mn.u:x7.underlying mn=σ (.pointer fA):=Ψ
theorem kS.u:x7.underlying kS=σ (.pointer cO):=Ψ
theorem e1.u:x7.underlying e1=σ (.slice dI):=Ψ
theorem e1.i:aO x7 e1 1 24 (.slice ν 0 0):=aO.of Ψ
theorem bY.p:bE x7 bY [(0,1),(1,1),(2,1),(3,1),(4,1)]:=bE.of Ψ
theorem fN.p:bE x7 fN [(0,1),(1,1),(2,1)]:=bE.of Ψ
theorem fN.i:aO x7 fN 3 56 (.agg #[(Δ 0),(.slice ν 0 0),(.slice ν 0 0)]):=aO.of Ψ
theorem oG.i:aO x7 oG 1 8 .nilFunc:=aO.of Ψ
theorem bu.p:bE x7 bu [(0,1)]:=bE.of Ψ
theorem bu.i:aO x7 bu 1 24 (.agg #[(.slice ν 0 0)]):=aO.of Ψ
theorem dI.p:bE x7 dI [(0,1),(1,1),(2,1)]:=bE.of Ψ
theorem dI.i:aO x7 dI 3 56 (.agg #[(.slice ν 0 0),(.slice ν 0 0),(Δ 0)]):=aO.of Ψ
theorem uT.u:x7.underlying uT=σ (.pointer cv):=Ψ
theorem uU.u:x7.underlying uU=σ (.pointer dC):=Ψ
theorem cS.u:x7.underlying cS=σ (.slice a6):=Ψ
theorem cS.i:aO x7 cS 1 24 (.slice ν 0 0):=aO.of Ψ
theorem dB.p:bE x7 dB [(0,1),(1,1),(2,1),(3,1),(4,1)]:=bE.of Ψ
theorem dB.i:aO x7 dB 5 88 (.agg #[(Δ 0),(.slice ν 0 0),(Δ 0),(.slice ν 0 0),(.slice ν 0 0)]):=aO.of Ψ
theorem dY.p:bE x7 dY [(0,1),(1,1)]:=bE.of Ψ
theorem dY.i:aO x7 dY 2 16 (.agg #[(Δ 0),(.int .u64 0)]):=aO.of Ψ
theorem gH.u:x7.underlying gH=σ (.slice dY):=Ψ
theorem gH.i:aO x7 gH 1 24 (.slice ν 0 0):=aO.of Ψ
theorem hs.u:x7.underlying hs=σ (.slice fO):=Ψ
theorem hs.i:aO x7 hs 1 24 (.slice ν 0 0):=aO.of Ψ
theorem iB.u:x7.underlying iB=σ (.slice dJ):=Ψ
theorem iB.i:aO x7 iB 1 24 (.slice ν 0 0):=aO.of Ψ
theorem cO.p:bE x7 cO [(0,1),(1,1),(2,1),(3,1)]:=bE.of Ψ
theorem dJ.p:bE x7 dJ [(0,1),(1,1),(2,1)]:=bE.of Ψ
theorem dJ.i:aO x7 dJ 3 24 (.agg #[(Δ 0),(Δ 0),(.int .u64 0)]):=aO.of Ψ
theorem fO.p:bE x7 fO [(0,1),(1,2)]:=bE.of Ψ
theorem fO.i:aO x7 fO 3 24 (.agg #[(Δ 0),(Δ 0),(.int .u64 0)]):=aO.of Ψ
theorem rQ.u:x7.underlying rQ=σ (.pointer hT):=Ψ
theorem e2.p:bE x7 e2 [(0,1),(1,1),(2,1),(3,1)]:=bE.of Ψ
theorem ht.u:x7.underlying ht=σ (.slice jK):=Ψ
theorem ht.i:aO x7 ht 1 24 (.slice ν 0 0):=aO.of Ψ
theorem cb.p:bE x7 cb [(0,1),(1,4),(5,1),(6,1)]:=bE.of Ψ
theorem je.u:x7.underlying je=σ (.slice b0):=Ψ
theorem iC.u:x7.underlying iC=σ (.slice eb):=Ψ
theorem iC.i:aO x7 iC 1 24 (.slice ν 0 0):=aO.of Ψ
theorem b0.p:bE x7 b0 [(0,1),(1,1),(2,1),(3,1)]:=bE.of Ψ
theorem b0.i:aO x7 b0 4 80 (.agg #[(.slice ν 0 0),(.slice ν 0 0),(Δ 0),(.slice ν 0 0)]):=aO.of Ψ
theorem dK.u:x7.underlying dK=σ (.slice cw):=Ψ
theorem dK.i:aO x7 dK 1 24 (.slice ν 0 0):=aO.of Ψ
theorem cv.p:bE x7 cv [(0,1),(1,1),(2,1),(3,1)]:=bE.of Ψ
theorem eS.u:x7.underlying eS=σ (.pointer fB):=Ψ
theorem eS.i:aO x7 eS 1 8 (.pointer ν):=aO.of Ψ
theorem cw.p:bE x7 cw [(0,1),(1,1)]:=bE.of Ψ
theorem cw.i:aO x7 cw 2 32 (.agg #[(.slice ν 0 0),(.pointer ν)]):=aO.of Ψ
theorem fk.u:x7.underlying fk=σ (.slice ch):=Ψ
theorem fk.i:aO x7 fk 1 24 (.slice ν 0 0):=aO.of Ψ
theorem dy.u:x7.underlying dy=σ (.slice a1):=Ψ
theorem dy.i:aO x7 dy 1 24 (.slice ν 0 0):=aO.of Ψ
theorem bw.p:bE x7 bw [(0,1),(1,1),(2,1),(3,1),(4,1),(5,1),(6,1),(7,1),(8,1)]:=bE.of Ψ
theorem dC.p:bE x7 dC [(0,1),(1,1),(2,1),(3,1)]:=bE.of Ψ
theorem ch.p:bE x7 ch [(0,1),(1,1)]:=bE.of Ψ
theorem ch.i:aO x7 ch 2 24 (.agg #[(.string ⟨#[]⟩),(Δ 0)]):=aO.of Ψ
theorem ea.u:x7.underlying ea=σ (.slice b5):=Ψ
theorem ea.i:aO x7 ea 1 24 (.slice ν 0 0):=aO.of Ψ
theorem a1.p:bE x7 a1 [(0,1),(1,1),(2,1),(3,1)]:=bE.of Ψ
theorem a1.i:aO x7 a1 4 80 (.agg #[(.slice ν 0 0),(.slice ν 0 0),(Δ 0),(.slice ν 0 0)]):=aO.of Ψ
theorem kT.u:x7.underlying kT=σ (.slice hv):=Ψ
theorem kT.i:aO x7 kT 1 24 (.slice ν 0 0):=aO.of Ψ
theorem fA.p:bE x7 fA [(0,1),(1,1),(2,1),(3,1)]:=bE.of Ψ
theorem eT.u:x7.underlying eT=σ (.pointer cU):=Ψ
theorem eT.i:aO x7 eT 1 8 (.pointer ν):=aO.of Ψ
theorem hv.p:bE x7 hv [(0,1),(1,1)]:=bE.of Ψ
theorem hv.i:aO x7 hv 2 32 (.agg #[(.slice ν 0 0),(.pointer ν)]):=aO.of Ψ
theorem oH.u:x7.underlying oH=σ (.int .u64):=Ψ
theorem pS.p:bE x7 pS [(0,1),(1,1)]:=bE.of Ψ
theorem hT.p:bE x7 hT [(0,1),(1,1),(2,1)]:=bE.of Ψ
theorem jK.p:bE x7 jK [(0,1),(1,1)]:=bE.of Ψ
theorem jK.i:aO x7 jK 2 48 (.agg #[(.slice ν 0 0),(.slice ν 0 0)]):=aO.of Ψ
theorem eb.p:bE x7 eb [(0,1),(1,1)]:=bE.of Ψ
theorem eb.i:aO x7 eb 2 32 (.agg #[(.slice ν 0 0),(Δ 0)]):=aO.of Ψ
theorem b5.p:bE x7 b5 [(0,1),(1,1)]:=bE.of Ψ
theorem b5.i:aO x7 b5 2 32 (.agg #[(.slice ν 0 0),(Δ 0)]):=aO.of Ψ
theorem gi.u:x7.underlying gi=σ (.slice cT):=Ψ
theorem cT.p:bE x7 cT [(0,1),(1,1)]:=bE.of Ψ
theorem cT.i:aO x7 cT 2 32 (.agg #[(.slice ν 0 0),(.pointer ν)]):=aO.of Ψ
theorem iD.u:x7.underlying iD=σ (.map cz al):=Ψ
theorem fB.p:bE x7 fB [(0,1),(1,1),(2,1),(3,1)]:=bE.of Ψ
theorem oI.u:x7.underlying oI=σ (.slice gj):=Ψ
theorem gj.p:bE x7 gj [(0,1),(1,1)]:=bE.of Ψ
theorem gj.i:aO x7 gj 2 32 (.agg #[(.slice ν 0 0),(Δ 0)]):=aO.of Ψ
theorem cU.p:bE x7 cU [(0,1),(1,1),(2,1)]:=bE.of Ψ
theorem rR.u:x7.underlying rR=σ (.array 64 cD):=Ψ
theorem gV.u:x7.underlying gV=σ (.map cZ ah):=Ψ
theorem fP.u:x7.underlying fP=σ (.int .i8):=Ψ
theorem fP.i:aO x7 fP 1 1 (.int .i8 0):=aO.of Ψ
theorem cz.u:x7.underlying cz=σ (.array 6 fP):=Ψ
theorem cz.i:aO x7 cz 6 6 (.agg #[(.int .i8 0),(.int .i8 0),(.int .i8 0),(.int .i8 0),(.int .i8 0),(.int .i8 0)]):=aO.of Ψ
theorem kU.u:x7.underlying kU=σ (.slice fP):=Ψ
theorem jf.u:x7.underlying jf=σ (.slice cz):=Ψ
theorem jf.i:aO x7 jf 1 24 (.slice ν 0 0):=aO.of Ψ
theorem oJ.u:x7.underlying oJ=σ (.int .u32):=Ψ
theorem lL.u:x7.underlying lL=σ (.map al ah):=Ψ
theorem mo.u:x7.underlying mo=σ (.array 24 cD):=Ψ
theorem mo.i:aO x7 mo 24 24 (.agg #[(.int .u8 0),(.int .u8 0),(.int .u8 0),(.int .u8 0),(.int .u8 0),(.int .u8 0),(.int .u8 0),(.int .u8 0),(.int .u8 0),(.int .u8 0),(.int .u8 0),(.int .u8 0),(.int .u8 0),(.int .u8 0),(.int .u8 0),(.int .u8 0),(.int .u8 0),(.int .u8 0),(.int .u8 0),(.int .u8 0),(.int .u8 0),(.int .u8 0),(.int .u8 0),(.int .u8 0)]):=aO.of Ψ
theorem rS.u:x7.underlying rS=σ (.array 20 fj):=Ψ
end Go.Proofs.YtikkpokkcdocoaaGreatDoor
namespace Go.Vc
open Go Go.RowKit
def bS:x1->Int
 | .int _ i=>i
 |_=>0
theorem wrap_i64{x:Int}(h1: -9223372036854775808<=x)(a:x<9223372036854775808):X7.wrap x=x:=by
 simp only[o4.wrap,o4.bits,o4.signed];simp;omega
theorem wrap_u8{x:Int}(h1:0<=x)(a:x<256):o4.u8.wrap x=x:=by
 simp only[o4.wrap,o4.bits,o4.signed];simp;omega
theorem IL{x:Int}(h1: -128<=x)(a:x<128):o4.i8.wrap x=x:=by
 simp only[o4.wrap,o4.bits,o4.signed];simp;omega
theorem wrap_u64{x:Int}(h1:0<=x)(a:x<18446744073709551616):T1.wrap x=x:=by
 simp only[o4.wrap,o4.bits,o4.signed];simp;omega
abbrev ints(k:o4)(l:Λ):List x1:=l.map (V7 k)
theorem pT(k:o4)(l:Λ):∀u∈ints k l,u.oneCell'=true:=by
 intro u hu;obtain⟨x,_,rfl⟩:=l9.1 hu;rfl
theorem kV{i:Nat}{x:Int}(h:l[i]?=σ x):(ints k l)[i]?=σ (.int k x):=by simp[ints,h]
theorem uY{α:Type}{a b:List α}{i:Nat}{x y:α}(h:a.take i=b.take i)(e:a[i]?=σ x)(f:b[i]?=σ y)(j:x=y):a.take (i+1)=b.take (i+1):=by
 rw[u7,u7,h,e,f,j]
theorem dd{ax:x3->Prop}{B:(x3->Prop)->Prop}(G:x3->Prop)(h1:∀w,G w->ax w)(e:∀a:x3->Prop,(∀w,G w->a w)->B a):ck ax B:=e ax h1
theorem aT{ax:x1->x3->Prop}{B:(x1->x3->Prop)->Prop}(G:x1->x3->Prop)(h1:∀v w,G v w->ax v w)(e:∀a:x1->x3->Prop,(∀v w,G v w->a v w)->B a):ck ax B:=e ax h1
theorem iA{ax:x1->x1->x3->Prop}{B:(x1->x1->x3->Prop)->Prop}(G:x1->x1->x3->Prop)(h1:∀u v w,G u v w->ax u v w)(e:∀a:x1->x1->x3->Prop,(∀u v w,G u v w->a u v w)->B a):ck ax B:=e ax h1
theorem ai.calls{P:W9}{f:Q1}{K:x1->x3->Prop}(h:ai P f args w K)(a:Enters P f):Calls P f args.toArray w λe w'=>∃v,e= .returned v/\cF w w'/\K v w':=by
 cases h with
 |code _ h=>exact h
 |ext v w' h1=>rw[a]at h1;cases h1
theorem IM(f:Ext w w')(a:cF w w'):Below w.heap.size w w':=
 ⟨a.os,a.tape.1,a.output,f.size,λk hk=>by
  have e:w.heap[k]?=σ w.heap[k]:=Array.getElem?_eq_getElem hk;rw[e];cases I:fw w.heap[k]with
  |true=>exact f.aY k _ e I
  |false=>exact a.aY k _ e I⟩
theorem uZ{x:Addr}(h:w.cell? x=σ v):x=⟨x.block,x.off,ν⟩:=by
 obtain⟨b,o,s⟩:=x;cases s with
 |none=>rfl
 |some s=>
  unfold x3.cell? at h;split at h<;>simp at h
theorem IN{a:Option Addr}{len cap:Nat}{e:Λ}(h:(a=ν/\len=0/\cap=0/\e=[])\/
   ∃x,a=σ x/\len<=cap/\cap<=maxLen/\e.length=cap/\(∀i,i<e.length->w.cell? (x.add i)=σ (.int k (e.getD i 0)))/\∀n∈e,(Lit.int k n).wf=true):
  cc w 1 (.slice a len cap) len (ints k (e.take len))/\∀n∈e.take len,k.min<=n/\n<=k.max:=by
 rcases h with⟨rfl,rfl,rfl,rfl⟩|⟨x,rfl,h1,r,s,f,y⟩
 .exact⟨cc.nil _ _,Ξ⟩
 .refine⟨⟨by simp[s,h1],x.block,x.off,σ x,cap,rfl,h1,r,λC=>?_,λj v p=>?_⟩,λn z=>?_⟩
  .have:=f 0 Ω;exact congrArg σ (uZ this)
  .have A:=(x4.1 p).1;rw[u9,o7]at A;have B:x=⟨x.block,x.off,ν⟩:=uZ (v:=.int k (e.getD 0 0)) (f 0 Ω);have q:=f j Ω;rw[B,T2]at q;rw[q,<-p,ints,x8,Z9 Ω,v8,x6 Ω];rfl
  .have:=y n (V5 z);simpa[Lit.wf]using this
def aH(k:o4)(w:x3)(v:x1)(l:Λ):Prop:=cc w 1 v l.length (ints k l)
def aq(k:o4)(e:r9)(w:x3)(g:Nat)(v:x1)(l:Λ):Prop:=bW w g e 1 v l.length (ints k l)
theorem aH.ext(h:aH k w v l)(a:Ext w w'):aH k w' v l:=cc.ext h a
theorem aq.ext{g:Nat}(h:aq k e w g v l)(a:Ext w w'):aq k e w' g v l:=bW.ext h a
theorem aq.V{g:Nat}(h:aq k e w g v l)(a:ae S w w')(f:g<w.heap.size->¬S g):aq k e w' g v l:=bW.V h a f
theorem aq.ls{g:Nat}(h:aq k e w g v l):aH k w v l:=bW.sl h
theorem aH.of(h:cc w 1 v n (ints k l)):aH k w v l:=by
 have:l.length=n:=by simpa using h.1
 unfold aH;rw[this];exact h
theorem aq.of{g:Nat}(h:bW w g e 1 v n (ints k l)):aq k e w g v l:=by
 have:l.length=n:=by simpa using h.1
 unfold aq;rw[this];exact h
theorem aH.le(h:aH k w v l):l.length<=9223372036854775807:=by
 have:=cc.le h;simpa[maxLen]using this
theorem aH.cells(h:aH k w v l):v.cells= #[v]/\v.oneCell'=true:=by
 obtain⟨_,_,_,_,_,rfl,_⟩:=h;exact⟨rfl,rfl⟩
theorem aq.nil(k:o4)(e:r9)(w:x3)(g:Nat):aq k e w g (.slice ν 0 0) []:=bW.nil w g e 1
section
variable{P:W9}{w:x3}
theorem aW{a:r9}(f:P.underlying t=σ (.slice e))(h:aH k w v l):
  aa P (V2 #[t] a #[v]) w K=K (Δ l.length):=by
 obtain⟨_,_,_,_,_,rfl,_⟩:=h;exact hy f
theorem be{f:o4}{b:Nat}{i:Nat}{x:Int}(j:P.underlying t=σ (.slice e))(hi:aO P e 1 b z)(h1:jL P e=true)(h:aH k w v l)(a:l[i]?=σ x):aa P (j5 t v (.int f (i:Int))) w (λp=>aa P (u4 e p) w K)=K (.int k x):=by
 have q:=(x4.1 a).1;obtain⟨_,_,_,_,_,rfl,_,_,r,s⟩:=h;rw[e3 j hi q r,T0,aB h1 (s i _ (kV a))]
theorem gl{a:o4}{b:Nat}{i:Nat}{x:Int}(f:y=(i:Int))(j:P.underlying t=σ (.slice e))(hi:aO P e 1 b z)(h1:jL P e=true)(h:aH k w v l)(q:l[i]?=σ x):aa P (j5 t v (.int a y)) w (λp=>aa P (u4 e p) w K)=K (.int k x):=by
 subst f;exact be j hi h1 h q
theorem jh{p:r9}{b g:Nat}{x:x1}{m:Λ}{K:x1->x3->Prop}(j:P.underlying t=σ (.slice e))(hi:aO P e 1 b z)(q:z.cells.size=1)(h:aq k e w g v l)(s:aH k w x m)(y:(l.length+m.length)*b<=140737488355328)(A:l.length+m.length<=9223372036854775807)(B:∀f a w',(a=g\/w.heap.size<=a)->aq k e w' a f (l++m)->ae (λr=>r=g) w w'->K f w'):aC P (Z3 #[t,t] p #[v,x]) w K:=
 nz j j hi q h s (pT _ _) y (by simpa[maxLen]using A) λf a w' h1 C E=>B f a w' h1 (aq.of (by rw[ints,Z4];exact C)) E
theorem en{b:Nat}{x:Int}{K:x1->x3->Prop}(j:P.underlying t=σ (.slice e))(hi:aO P e 1 b z)(s:z.cells.size=1)(h:∀v g w',g=w.heap.size->Ext w w'->aq k e w' g v [x]->K v w'):aC P (Y7 t 1 #[(0,.int k x)]) w K:=
 kj j hi Ω (cs:=#[.int k x]) (by
   have I:∀(a:Array x1),a.size=1->a.setIfInBounds 0 (.int k x)= #[.int k x]:=λa f=>by
    apply Array.ext
    .simp[f]
    .intro i h1 y;have:i=0:=by simp[f]at h1;exact h1
     subst this;simp
   simp only[Instr.fill,x1.cells,List.zipIdx];simp;exact I _ Ξ) λg w' p q r=>h _ g w' p q (aq.of (n:=1) (bW.full r rfl (by simp[maxLen])))
theorem ai.free{f:Q1}{K:x1->x3->Prop}(h:ai P f args w K):gE P f args w λv w'=>cF w w'/\K v w':=by
 cases h with
 |code h1 a=>exact .code h1 (a.mono λ_ w' ⟨v,h1,e,a⟩=>⟨v,h1,e,a⟩)
 |ext v w' h1 a j=>exact .ext v w' h1 ⟨a,j⟩
theorem bJ{a:Addr}:aa P (bN (.pointer (σ a))) w K=K (.pointer (σ a)):=aa.of λ_ _=>by
 simp[bN,rh,execOp]
theorem aL{u:r9}{pl:List (Nat×Nat)}{b off z:Nat}{K:x1->x1->Prop}(h:bE P t pl)(i:Nat)(j:ad w b e cs)(a:cs[(pl[i]?.getD (0,0)).1]?=σ v)(f:pl[i]?=σ (off,z+1):=by rfl)(p:jL P u=true:=by kernel_rfl):
  aa P (u5 t (Γ b) i) w (λx=>aa P (u4 u x) w (K x))=K (.pointer (σ ⟨b,0+off,ν⟩)) v:=by
 rw[f]at a;rw[aR h f,aB p (j.cell (by rw[X6];exact a))]
theorem aG{u:r9}{pl:List (Nat×Nat)}{b off z:Nat}{K:x1->x1->x1->Prop}(a:bE P t pl)(i:Nat)(f:ad w b e cs)(h:cs[(pl[i]?.getD (0,0)).1]?=σ v)(j:pl[i]?=σ (off,z+1):=by rfl)(p:jL P u=true:=by kernel_rfl):
  aa P (bN (Γ b)) w (λy=>aa P (u5 t y i) w (λx=>aa P (u4 u x) w (K y x)))=K (Γ b) (.pointer (σ ⟨b,0+off,ν⟩)) v:=by
 rw[bJ,aL a i f h j p]
theorem zu{a f:o4}{k:Nat}{K:x1->x3->Prop}(q:P.underlying t=σ (.slice e))(hi:aO P e k j z)(A:n*j<=281474976710656)(B:n<=9223372036854775807)(h:∀g w',g=w.heap.size->Ext w w'->ad w' g e (dP z.cells (n*k))->K (.slice (σ ⟨g,0,ν⟩) n n) w'):aC P (Instr.makeSlice t (.int a (n:Int)) (.int f (n:Int))) w K:=by
 obtain⟨i,hi,rfl,rfl,r⟩:=hi;have s:(i.bytes:Int)*(n:Int)<=281474976710656:=by
  rw[Int.mul_comm];have h:((n*i.bytes:Nat):Int)<=281474976710656:=Ω
  rwa [Int.natCast_mul]at h
 have p:=run_make (P:=P) w t e i z q hi r a f n n Ω (Int.le_refl _) s Ω;have hm:madeCells z.cells ((n:Int).toNat*i.size)=(dP z.cells (n*i.size)).toArray:=by rw[dP,Array.toArray_toList];rfl
 rw[hm]at p;obtain⟨h1,x,y⟩:=rY w (dP z.cells (n*i.size)) e;exact .of p y (h _ _ rfl x h1)
theorem IP(v:x1)(n:Nat):dP #[v] n=p9 n v:=by
 apply List.ext_getElem
 .simp[dP]
 .intro i h1 a;simp[dP,Nat.mod_one]
theorem kk{f j:o4}{a:Nat}{K:x1->x3->Prop}(p:P.underlying t=σ (.slice e))(hi:aO P e 1 a (.int k 0))(q:n*a<=281474976710656)(r:n<=9223372036854775807)(h:∀g w',g=w.heap.size->Ext w w'->ad w' g e (ints k (p9 n 0))->K (.slice (σ ⟨g,0,ν⟩) n n) w'):aC P (Instr.makeSlice t (.int f (n:Int)) (.int j (n:Int))) w K:=
 zu p hi q r λg w' s x y=>h g w' s x (by
  have e:dP (V7 k 0).cells (n*1)=ints k (p9 n 0):=by rw[T0];show dP #[_] n=_;rw[IP];simp[ints]
  rw[<-e];exact y)
theorem fC{pl:List (Nat×Nat)}{b o k a:Nat}(hu:bE P t pl)(hi:aO P t k a z)(e:cs.length=k)(h:w.rangeAt b o cs):aa P (do loadVar t (<-asAddr (.pointer (σ ⟨b,o,ν⟩)))) w K=K (.agg cs.toArray):=aa.of λw' f=>by
 obtain⟨j,hu,_⟩:=hu;have:=run_loadVar_mid (P:=P) w' b o t cs (.struct j) (ns f h) hu rfl (by rw[hi.size,e]);simp only[asAddr,W6,V4,Result.andThen_ok,this]
theorem IQ(h:vs.length=cs.length):over cs 0 vs=vs:=by
 rw[mq Ω];simp[h]
theorem b6{k g:Nat}{K:Unit->x3->Prop}(hi:aO P t k f z)(j:vs.length=k)(x:cs.length=k)(p:∀v∈vs,v.oneCell'=true)(q:ad w g e cs)(h:∀w',ae (λr=>r=g) w w'->w'.heap.size=w.heap.size->ad w' g e vs->K () w'):aC P (o6 t (Γ g) (.agg vs.toArray)) w K:=
 zr hi j p q Ω λw' h1 s a=>h w' h1 s (by rw[IQ Ω]at a;exact a)
end
section
variable{P:W9}{w w' U:x3}{t:r9}{cx cy:Bool}{k:o4}{a b:Int}{A B:Prop}{x y z:x1}{K:x1->Prop}
theorem br:aa P (Y3 (.tuple #[x,y]) 0) w K=K x:=iF rfl
theorem bt:aa P (Y3 (.tuple #[x,y]) 1) w K=K y:=iF rfl
theorem gW:aa P (Y3 (.tuple #[x,y,z]) 0) w K=K x:=iF rfl
theorem gX:aa P (Y3 (.tuple #[x,y,z]) 1) w K=K y:=iF rfl
theorem gY:aa P (Y3 (.tuple #[x,y,z]) 2) w K=K z:=iF rfl
theorem bQ(h:a<b)(e:A):aa P (aJ .lss t cx cy (.int k a) (.int k b)) w λv=>Split v A B:=by
 rw[aQ,aj];exact⟨λ_=>e,λf=>absurd h f⟩
theorem cn(h:¬a<b)(e:B):aa P (aJ .lss t cx cy (.int k a) (.int k b)) w λv=>Split v A B:=by
 rw[aQ,aj];exact⟨λf=>absurd f h,λ_=>e⟩
theorem Ext.put{g:Nat}(a:Ext w w')(e:ae (λr=>r=g) w' U)(h:w.heap.size<=g):Ext w U:=a.then e λr f he=>by
 have he:r=g:=he;omega
theorem aF{α:Type}{l:List α}{i:Nat}(h:i<l.length):∃x,l[i]?=σ x:=⟨_,x6 h⟩
end
abbrev af:=Nat->Prop
def ia(S:af)(w:x3)(k:Nat)(v:x1)(n:Nat)(cs:List x1):Prop:=
 cs.length=n*k/\∃b o base cap,v= .slice base n cap/\n<=cap/\cap<=maxLen/\(0<n->base=σ ⟨b,o,ν⟩)/\(0<cs.length->S b)/\w.rangeAt b o cs
theorem ia.sl{S:af}{k:Nat}(h:ia S w k v n cs):cc w k v n cs:=by
 obtain⟨h1,b,o,base,cap,a,e,f,j,_,p⟩:=h;exact⟨h1,b,o,base,cap,a,e,f,j,p⟩
theorem zv{b o:Nat}(h:w.rangeAt b o cs)(a:0<cs.length):b<w.heap.size:=by
 have:=h 0 cs[0] (x6 a);obtain⟨c,e,f,j,_⟩:=uV this;exact(n9.1 j).1
theorem ia.V{S T:af}{k:Nat}(h:ia S w k v n cs)(p:ae T w w')(q:∀r,r<w.heap.size->S r->¬T r):ia S w' k v n cs:=by
 obtain⟨h1,b,o,base,cap,s,x,y,z,e,f⟩:=h;refine⟨h1,b,o,base,cap,s,x,y,z,e,?_⟩;rcases Q4 cs.length with a|a
 .intro j v A;have:=(x4.1 A).1;omega
 .exact hx p (q b (zv f a) (e a)) f
theorem ia.mono{S T:af}{k:Nat}(h:ia S w k v n cs)(f:∀r,r<w.heap.size->S r->T r):ia T w k v n cs:=by
 obtain⟨h1,b,o,base,cap,j,p,q,s,x,a⟩:=h;exact⟨h1,b,o,base,cap,j,p,q,s,λe=>f b (zv a e) (x e),a⟩
class an(α:Type) where
 n:Nat
 rep:Bool->af->af->x3->List x1->α->Prop
 len:∀{m S R w cs a},rep m S R w cs a->cs.length=n
 one:∀{m S R w cs a},rep m S R w cs a->∀u∈cs,u.oneCell'=true
 V:∀{m S R T w w' cs a},rep m S R w cs a->ae T w w'->(∀r,r<w.heap.size->S r\/R r->¬T r)->rep m S R w' cs a
 mono:∀{m S S' R R' w cs a},rep m S R w cs a->(∀r,r<w.heap.size->S r->S' r)->(∀r,r<w.heap.size->R r->R' r)->rep m S' R' w cs a
 hR:∀{m S R w cs a},rep m S R w cs a->rep false (λ_=>False) (λr=>S r\/R r) w cs a
section
variable{α β:Type}[an α][an β]{m:Bool}{S R T:af}{w w':x3}
abbrev bD(S R:af)(w:x3)(cs:List x1)(a:α):Prop:=an.rep true S R w cs a
abbrev Seen(R:af)(w:x3)(cs:List x1)(a:α):Prop:=an.rep false (λ_=>False) R w cs a
abbrev fm:af:=λ_=>True
theorem bT{a:α}(h:an.rep m S R w cs a)(e:Ext w w'):an.rep m S R w' cs a:=an.V h (e.V λ_=>False) λ_ _ _ h=>h
theorem mr{a:α}(h:an.rep m S R w cs a):an.rep m (λr=>S r/\r<w.heap.size) R w cs a:=an.mono h (λ_ h1 e=>⟨e,h1⟩) λ_ _ h=>h
theorem jM{a:α}(h:an.rep m S R w cs a):Seen fm w cs a:=an.mono (an.hR h) (λ_ _ h=>h.elim) λ_ _ _=>trivial
theorem pU{a:α}{Q:af}(h:an.rep m S R w cs a)(e:∀r,r<w.heap.size->S r\/R r->Q r):Seen Q w cs a:=an.mono (an.hR h) (λ_ _ h=>h.elim) e
instance:an Int where
 n:=1
 rep _ _ _ _ cs a:=cs=[Δ a]
 len h:=by subst h;rfl
 one h:=by subst h;intro u hu;simp at hu;subst hu;rfl
 V h _ _:=h
 mono h _ _:=h
 hR h:=h
instance:an Bool where
 n:=1
 rep _ _ _ _ cs a:=cs=[.bool a]
 len h:=by subst h;rfl
 one h:=by subst h;intro u hu;simp at hu;subst hu;rfl
 V h _ _:=h
 mono h _ _:=h
 hR h:=h
instance:an ByteArray where
 n:=1
 rep _ _ _ _ cs a:=cs=[.string a]
 len h:=by subst h;rfl
 one h:=by subst h;intro u hu;simp at hu;subst hu;rfl
 V h _ _:=h
 mono h _ _:=h
 hR h:=h
def lR(_:o4):Type:=Int
instance (k:o4):an (lR k) where
 n:=1
 rep _ _ _ _ cs a:=cs=[.int k a]
 len h:=by subst h;rfl
 one h:=by subst h;intro u hu;simp at hu;subst hu;rfl
 V h _ _:=h
 mono h _ _:=h
 hR h:=h
def Rd(α:Type):Type:=α
instance RB:an (Rd α) where
 n:=an.n α
 rep _ _ R w cs a:=an.rep (α:=α) false (λ_=>False) R w cs a
 len h:=an.len (α:=α) h
 one h:=an.one (α:=α) h
 V h e f:=an.V (α:=α) h e λr j h=>f r j (.inr (h.elim False.elim id))
 mono h _ p:=an.mono (α:=α) h (λ_ _ h=>h) p
 hR h:=an.mono (α:=α) h (λ_ _ h=>h) λ_ _ h=>.inr h
instance RC:an (α×β) where
 n:=an.n α+an.n β
 rep m S R w cs a:=∃c d A B,cs=c++d/\(∀r,A r->S r)/\(∀r,B r->S r)/\(m=true->∀r,A r->¬B r)/\an.rep m A R w c a.1/\an.rep m B R w d a.2
 len:=by
  rintro m S R w cs a ⟨c,d,A,B,rfl,_,_,_,h1,e⟩;simp[an.len h1,an.len e]
 one:=by
  rintro m S R w cs a ⟨c,d,A,B,rfl,_,_,_,h1,e⟩ u hu;rcases o9.1 hu with hu|hu
  .exact an.one h1 u hu
  .exact an.one e u hu
 V:=by
  rintro m S R T w w' cs a ⟨c,d,A,B,rfl,j,p,s,h1,e⟩ x q;exact⟨c,d,A,B,rfl,j,p,s,an.V h1 x λr f h=>q r f (h.imp (j r) id),an.V e x λr f h=>q r f (h.imp (p r) id)⟩
 mono:=by
  rintro m S S' R R' w cs a ⟨c,d,A,B,rfl,j,p,s,h1,e⟩ q y;exact⟨c,d,λr=>A r/\r<w.heap.size,λr=>B r/\r<w.heap.size,rfl,λr h=>q r h.2 (j r h.1),λr h=>q r h.2 (p r h.1),λhm r h k=>s hm r h.1 k.1,
   an.mono h1 (λr f h=>⟨h,f⟩) y,an.mono e (λr f h=>⟨h,f⟩) y⟩
 hR:=by
  rintro m S R w cs a ⟨c,d,A,B,rfl,j,p,s,h1,e⟩;exact⟨c,d,λ_=>False,λ_=>False,rfl,λ_ h=>h.elim,λ_ h=>h.elim,(λh=>by cases h),an.mono (an.hR h1) (λ_ _ h=>h) λr _ h=>h.imp (j r) id,
   an.mono (an.hR e) (λ_ _ h=>h) λr _ h=>h.imp (p r) id⟩
def mu(m:Bool)(R:af)(F:Nat->af)(w:x3)(vs:List (List x1))(l:List α):Prop:=
 vs.length=l.length/\∀(i:Nat)(c:List x1)(a:α),vs[i]?=σ c->l[i]?=σ a->an.rep m (F i) R w c a
structure zw(m:Bool)(S:af)(g:Nat)(F:Nat->af):Prop where
 sub:∀i r,F i r->S r
 top:m=true->∀i,¬F i g
 gI:m=true->∀i j r,i≠j->F i r->¬F j r
theorem mu.len{F:Nat->af}{vs:List (List x1)}{l:List α}(h:mu m R F w vs l):∀c∈vs,c.length=an.n α:=by
 intro c a;obtain⟨i,hi,rfl⟩:=List.mem_iff_getElem.1 a;exact an.len (h.2 i _ _ (x6 hi) (x6 (h.1▸hi)))
theorem mu.one{F:Nat->af}{vs:List (List x1)}{l:List α}(h:mu m R F w vs l):∀u∈vs.flatten,u.oneCell'=true:=by
 intro u hu;obtain⟨c,a,hu⟩:=List.mem_flatten.1 hu;obtain⟨i,hi,rfl⟩:=List.mem_iff_getElem.1 a;exact an.one (h.2 i _ _ (x6 hi) (x6 (h.1▸hi))) u hu
theorem ji{k:Nat}:∀{vs:List (List x1)},(∀c∈vs,c.length=k)->vs.flatten.length=vs.length*k
 |[],_=>Ξ
 |c::r,h=>by
  have:=ji (vs:=r) λx a=>h x (.tail _ a);simp only[List.flatten_cons,r8,this,h c (.head _),c9,U8];omega
theorem nA{k:Nat}:∀{vs:List (List x1)},(∀c∈vs,c.length=k)->∀{i j:Nat}{c:List x1},vs[i]?=σ c->j<k->vs.flatten[i*k+j]?=c[j]?
 |gZ::r,h,0,j,c,a,e=>by
  simp only[List.getElem?_cons_zero,X0]at a;subst a;rw[List.flatten_cons,Y1 (by rw[h _ (.head _)];omega)];simp
 |gZ::r,h,i+1,j,c,a,e=>by
  simp only[List.getElem?_cons_succ]at a;have f:=h gZ (.head _);rw[List.flatten_cons,Y2 (by rw[f,U8];omega),f,U8,show i*k+1*k+j-k=i*k+j by omega];exact nA (λx p=>h x (.tail _ p)) a e
 |[],_,i,_,c,a,_=>by simp at a
instance instList:an (List α) where
 n:=1
 rep m S R w cs l:=∃v,cs=[v]/\∃(vs:List (List x1))(g:Nat)(F:Nat->af),zw m S g F/\mu m R F w vs l/\ia (λr=>S r\/R r) w (an.n α) v l.length vs.flatten/\
  (m=true->(v= .slice ν 0 0\/S g)/\∃e,bW w g e (an.n α) v l.length vs.flatten)
 len:=by rintro m S R w cs a ⟨v,rfl,_⟩;rfl
 one:=by
  rintro m S R w cs a ⟨v,rfl,vs,g,F,_,_,⟨_,_,_,_,_,rfl,_⟩,_⟩ u hu;simp at hu;subst hu;rfl
 V:=by
  rintro m S R T w w' cs a ⟨v,rfl,vs,g,F,p,he,I,hm⟩ A s;refine⟨v,rfl,vs,g,F,p,⟨he.1,λi c a y z=>an.V (he.2 i c a y z) A λr q h=>s r q (h.imp (p.sub i r) id)⟩,I.V A s,λh=>?_⟩;obtain⟨h1,e,f⟩:=hm h;refine⟨h1,e,?_⟩;rcases h1 with rfl|h1
  .obtain⟨C,⟨_,x⟩|⟨_,_,x,_⟩⟩:=f
   .exact⟨C,.inl ⟨rfl,x⟩⟩
   .cases x
  .exact f.V A λq=>s g q (.inl h1)
 mono:=by
  rintro m S S' R R' w cs a ⟨v,rfl,vs,g,F,p,he,I,hm⟩ s B;refine⟨v,rfl,vs,g,λi r=>F i r/\r<w.heap.size,⟨λi r h=>s r h.2 (p.sub i r h.1),λh i f=>p.top h i f.1,λh i j r E h1 f=>p.gI h i j r E h1.1 f.1⟩,
   ⟨he.1,λi c a y z=>an.mono (he.2 i c a y z) (λr q h=>⟨h,q⟩) B⟩,I.mono λr q h=>h.imp (s r q) (B r q),λh=>?_⟩
  obtain⟨h1,e,f⟩:=hm h;refine⟨?_,e,f⟩;obtain⟨_,⟨x,_⟩|⟨_,_,x,G,_⟩⟩:=f
  .exact .inl x
  .rcases h1 with h1|h1
   .exact .inl h1
   .exact .inr (s g G.lt h1)
 hR:=by
  rintro m S R w cs a ⟨v,rfl,vs,g,F,p,he,I,hm⟩;exact⟨v,rfl,vs,g,λ_ _=>False,⟨λ_ _ h=>h,(λh=>by cases h),λh=>by cases h⟩,
   ⟨he.1,λi c a y z=>an.mono (an.hR (he.2 i c a y z)) (λ_ _ h=>h) λr _ h=>h.imp (p.sub i r) id⟩,I.mono λr _ h=>.inr h,λh=>by cases h⟩
end
section
variable{P:W9}{w:x3}{α β:Type}[an α][an β]{m:Bool}{S R:af}
theorem jj{l:List α}(h:an.rep m S R w [v] l):∃(vs:List (List x1))(g:Nat)(F:Nat->af),zw m S g F/\mu m R F w vs l/\ia (λr=>S r\/R r) w (an.n α) v l.length vs.flatten/\
  (m=true->(v= .slice ν 0 0\/S g)/\∃e,bW w g e (an.n α) v l.length vs.flatten):=by
 obtain⟨_,a,h⟩:=h;cases a;exact h
theorem jk{a:α}(h:an.rep m S R w [v] a):v.oneCell'=true:=an.one h v (.head _)
theorem pV{l:List α}(h:an.rep m S R w [v] l):v.cells= #[v]:=by
 obtain⟨_,_,_,_,_,⟨_,_,_,_,_,rfl,_⟩,_⟩:=jj h;rfl
theorem rZ{l:List α}(h:an.rep m S R w [v] l):l.length<=9223372036854775807:=by
 obtain⟨_,_,_,_,_,h,_⟩:=jj h;have:=h.sl.le;simpa[maxLen]using this
theorem hA:an.rep m S R w [.slice ν 0 0] ([]:List α):=
 ⟨_,rfl,[],0,λ_ _=>False,⟨λ_ _ h=>h.elim,λ_ _ h=>h,λ_ _ _ _ _ h=>h.elim⟩,⟨rfl,λi c a e=>by simp at e⟩,
  ⟨Ξ,0,0,ν,0,rfl,p8 _,X4 _,λh=>absurd h (Nat.lt_irrefl _),λh=>by simp at h,λj v h=>by simp at h⟩,
  λ_=>⟨.inl rfl,0,bW.nil w 0 0 _⟩⟩
theorem zx{F:Nat->af}{vs:List (List x1)}(h:mu m R F w vs l):vs.flatten=ints .i64 l:=by
 have:vs=l.map λx=>[V7 .i64 x]:=by
  apply List.ext_getElem
  .simp[h.1]
  .intro i h1 a;have e:i<l.length:=by simpa using a
   have:=h.2 i _ _ (x6 h1) (x6 e);rw[List.getElem_map];exact this
 subst this;clear h;induction l with
 |nil=>rfl
 |cons x l f=>simp only[T4,List.flatten_cons,f];rfl
theorem ew(h:an.rep m S R w [v] l):aH .i64 w v l:=by
 obtain⟨vs,g,F,_,he,I,_⟩:=jj h;have:=I.sl;rw[zx he]at this;exact this
theorem jl{a:r9}{l:List α}(f:P.underlying t=σ (.slice e))(h:an.rep m S R w [v] l):
  aa P (V2 #[t] a #[v]) w K=K (Δ l.length):=by
 obtain⟨_,_,_,_,_,⟨_,_,_,_,_,rfl,_⟩,_⟩:=jj h;exact hy f
theorem lS{x:o4}{i b:Nat}{l:List α}{a:α}(A:y=(i:Int))(B:P.underlying t=σ (.slice e))(hi:aO P e (an.n α) b z)(h:an.rep m S R w [v] l)(f:l[i]?=σ a)(C:∀b o cs,w.rangeAt b o cs->an.rep m S R w cs a->K (.pointer (σ ⟨b,o,ν⟩))):aa P (j5 t v (.int x y)) w K:=by
 subst A;obtain⟨vs,g,F,E,he,⟨_,b,o,base,cap,rfl,_,_,G,_,H⟩,_⟩:=jj h;have p:=(x4.1 f).1;rw[e3 B hi p G];obtain⟨c,q⟩:∃c,vs[i]?=σ c:=⟨_,x6 (by rw[he.1];exact p)⟩;have s:=he.2 i c a q f;have I:=an.len s;refine C _ _ c (λj u hu=>?_) (an.mono s (λr _ h=>E.sub i r h) λ_ _ h=>h);have J:=(x4.1 hu).1;rw[S6];refine H (i*an.n α+j) u ?_;rw[nA he.len q Ω];exact hu
theorem jm{q:o4}{i b:Nat}{l:List α}{a:α}(r:an.n α=1)(s:y=(i:Int))(x:P.underlying t=σ (.slice e))(hi:aO P e (an.n α) b z)(h1:jL P e=true)(h:an.rep m S R w [v] l)(A:l[i]?=σ a)(B:∀u,an.rep m S R w [u] a->K u):
  aa P (j5 t v (.int q y)) w λp=>aa P (u4 e p) w K:=by
 refine lS s x hi h A λb o cs C f=>?_;have j:=an.len f;rw[r]at j;obtain⟨u,rfl⟩:=V1.1 j;rw[aB h1 (by have:=C 0 u rfl;simpa using this)];exact B u f
theorem nB{pl:List (Nat×Nat)}{j:o4}{i b:Nat}{l:List α}{a:α}(hu:bE P e pl)(q:y=(i:Int))(r:P.underlying t=σ (.slice e))(hi:aO P e (an.n α) b z)(h:an.rep m S R w [v] l)(s:l[i]?=σ a)(x:∀cs,an.rep m S R w cs a->K (.agg cs.toArray)):
  aa P (j5 t v (.int j y)) w λp=>aa P (u4 e p) w K:=by
 refine lS q r hi h s λb o cs A f=>?_;rw[bH hu hi (an.len f) A];exact x cs f
theorem oM{g:Nat}{k:Nat}(h:bW w g e k v n xs)(f:v= .slice ν 0 0\/S g):ia S w k v n xs:=by
 obtain⟨h1,⟨rfl,rfl⟩|⟨cap,cs,rfl,p,q,r,x,s⟩⟩:=h
 .have:xs=[]:=j4 (by simpa using h1);subst this;exact⟨Ξ,0,0,ν,0,rfl,p8 _,X4 _,λh=>absurd h (Nat.lt_irrefl _),λh=>by simp at h,λj v h=>by simp at h⟩
 .refine⟨h1,g,0,_,cap,rfl,q,r,λ_=>rfl,λ_=>f.resolve_left Ξ,λj v a=>?_⟩;rw[X6];have y:=(x4.1 a).1;rw[<-s,Z9 Ω]at a;exact p.cell a
open Classical in
theorem IR{U Y Z:r9}{b:Nat}{x:x1}{us:List (List x1)}{l l':List α}{G:Nat->af}{K:x1->x3->Prop}(aa:P.underlying t=σ (.slice e))(ab:P.underlying U=σ (.slice Y))(hi:aO P e (an.n α) b z)(ac:z.cells.size=an.n α)(h:bD S R w [v] l)(ad:cc w (an.n α) x l'.length us.flatten)(L:mu true R G w us l')(ag:∀i j r,i≠j->G i r->¬G j r)(E:∀r,r<w.heap.size->S r->(∀i,¬G i r)/\¬R r)(ah:(l.length+l'.length)*b<=140737488355328)(ai:l.length+l'.length<=9223372036854775807)(aj:∀p w',bD (λr=>S r\/(∃i,G i r)\/w.heap.size<=r) R w' [p] (l++l')->ae S w w'->K p w'):aC P (Z3 #[t,U] Z #[v,x]) w K:=by
 obtain⟨vs,g,F,A,he,I,hm⟩:=jj h;obtain⟨M,ap,W⟩:=hm rfl;refine zs aa ab hi ac W ad L.one ah (by simpa[maxLen]using ai) ?_;intro p H w' ak al N O;have Q:∀r,r=g/\v≠ .slice ν 0 0->S r:=λr ⟨h1,f⟩=>h1▸M.resolve_left f;have am:=W;have T:(p= .slice ν 0 0)\/(H=g/\S g/\g<w.heap.size)\/H=w.heap.size:=by
  rcases al with⟨h1,_,f|f⟩|⟨h1,_⟩
  .rcases M with s|s
   .exact .inl (f▸s)
   .obtain⟨_,⟨y,_⟩|⟨_,_,_,y,_⟩⟩:=am
    .exact .inl (f▸y)
    .exact .inr (.inl ⟨h1,s,y.lt⟩)
  .exact .inr (.inl ⟨h1,M.resolve_left f.2,f.1⟩)
  .exact .inr (.inr h1)
 refine aj p w' ⟨p,rfl,vs++us,if p= .slice ν 0 0 then w.heap.size else H,λi r=>if i<l.length then F i r/\r<w.heap.size else G (i-l.length) r/\r<w.heap.size,⟨λi r h=>?_,λ_ i h=>?_,λ_ i j r ao h1 f=>?_⟩,⟨by simp[he.1,L.1],λi c a hi J=>?_⟩,?_,λ_=>⟨?_,ak,?_⟩⟩ (O.mono λr _ h=>Q r h)
 .split at h
  .exact .inl (A.sub i r h.1)
  .exact .inr (.inl ⟨_,h.1⟩)
 .have B:(if p= .slice ν 0 0 then w.heap.size else H)<w.heap.size:=by split at h<;>exact h.2
  split at B
  .omega
  .rename_i q;rw[if_neg q]at h;rcases T with h1|⟨rfl,f,s⟩|h1
   .exact q h1
   .split at h
    .exact A.top rfl i h.1
    .exact (E _ s f).1 _ h.1
   .omega
 .split at h1<;>split at f
  .exact A.gI rfl i j r ao h1.1 f.1
  .exact (E r h1.2 (A.sub i r h1.1)).1 _ f.1
  .exact (E r h1.2 (A.sub j r f.1)).1 _ h1.1
  .exact ag (i-l.length) (j-l.length) r Ω h1.1 f.1
 .have X:∀r,r<w.heap.size->R r->¬(r=g/\v≠ .slice ν 0 0):=λr C h1 f=>(E r C (Q r f)).2 h1;by_cases B:i<l.length
  .rw[Y1 (by rw[he.1];exact B)]at hi;rw[Y1 B]at J;simp only[if_pos B];refine an.V (mr (he.2 i c a hi J)) O λr C h1 f=>?_;rcases h1 with h1|h1
   .exact A.top rfl i (f.1▸h1.1)
   .exact X r C h1 f
  .rw[Y2 (by rw[he.1];omega),he.1]at hi;rw[Y2 Ω]at J;simp only[if_neg B];refine an.V (mr (L.2 _ c a hi J)) O λr C h1 f=>?_;rcases h1 with h1|h1
   .exact (E r C (Q r f)).1 _ h1.1
   .exact X r C h1 f
 .rw[r8,List.flatten_append];refine oM N ?_;rcases T with h1|⟨rfl,f,_⟩|rfl
  .exact .inl h1
  .exact .inr (.inl (.inl f))
  .exact .inr (.inl (.inr (.inr (p8 _))))
 .rcases T with h1|⟨rfl,f,_⟩|rfl
  .exact .inl h1
  .by_cases q:p= .slice ν 0 0
   .exact .inl q
   .rw[if_neg q];exact .inr (.inl f)
  .split
   .exact .inr (.inr (.inr (p8 _)))
   .exact .inr (.inr (.inr (p8 _)))
 .rw[r8,List.flatten_append];by_cases q:p= .slice ν 0 0
  .subst q;obtain⟨s,⟨_,y⟩|⟨_,_,y,_⟩⟩:=N
   .exact⟨s,.inl ⟨rfl,y⟩⟩
   .cases y
  .rw[if_neg q];exact N
theorem nC{F:r9}{b:Nat}{x:x1}{l:List α}{a:α}{A:af}{K:x1->x3->Prop}(B:P.underlying t=σ (.slice e))(hi:aO P e (an.n α) b z)(H:z.cells.size=an.n α)(h:bD S R w [v] l)(J:cc w (an.n α) x 1 cs)(L:bD A R w cs a)(C:∀r,r<w.heap.size->S r->¬(A r\/R r))(f:(l.length+1)*b<=140737488355328)(M:l.length+1<=9223372036854775807)(N:∀p w',bD (λr=>S r\/A r\/w.heap.size<=r) R w' [p] (l++[a])->ae S w w'->K p w'):aC P (Z3 #[t,t] F #[v,x]) w K:=by
 refine IR (l':=[a]) (us:=[cs]) (G:=λi r=>i=0/\A r) B B hi H h (by simpa using J) ⟨rfl,λi c b q f=>?_⟩ (λi j r O h1 s=>O (h1.1.trans s.1.symm)) (λr E I=>⟨λi h=>C r E I (.inl h.2),λh=>C r E I (.inr h)⟩) (by simpa using f) (by simpa using M)
  λp w' h1 s=>N p w' (an.mono h1 (λr _ h=>h.imp id (Or.imp (λ⟨_,h⟩=>h.2) id)) λ_ _ h=>h) s
 have y:=(x4.1 q).1;have y:i=0:=by simpa using y
 subst y;simp at q f;subst q f;exact an.mono L (λr _ h=>⟨rfl,h⟩) λ_ _ h=>h
end
theorem zy:∀(c:List x1)(i:Nat)(z:Array x1),(i+c.length<=z.size)->((c.zipIdx i).foldl (λcs (x:x1×Nat)=>cs.setIfInBounds x.2 x.1) z).toList=z.toList.take i++c++z.toList.drop (i+c.length)
 |[],i,z,h=>Ξ
 |x::r,i,z,h=>by
  simp only[c9]at h;rw[List.zipIdx_cons,T9,zy r (i+1) _ Θ];simp only[Array.toList_setIfInBounds,c9];rw[List.drop_set_of_lt Ω,List.take_set,u7,x6 Θ];simp only[o8];rw[S0 _ _ Θ];have e:i-(z.toList.take i).length=0:=Θ
  rw[e,show i+1+r.length=i+(r.length+1) by omega];simp
theorem zz{k:Nat}{z:Array x1}(a:z.size=k)(e:v.cells.size=k):Instr.fill (λj=>σ (j*k,k)) z [(0,v)]=σ v.cells:=by
 have h:=zy v.cells.toList 0 z Θ;simp only[Instr.fill,Nat.zero_mul,X6];rw[if_neg Θ];congr 1;apply Array.toList_inj.1;rw[<-Array.foldl_toList,Array.toList_zipIdx,h];simp;omega
section
variable{P:W9}{w:x3}{α β:Type}[an α][an β]{m:Bool}{S R:af}
theorem kl{b:Nat}{x:x1}{a:α}{A:af}{K:x1->x3->Prop}(C:P.underlying t=σ (.slice e))(hi:aO P e (an.n α) b z)(L:an.n α<=100000)(q:x.cells=cs.toArray)(s:bD A R w cs a)(E:∀v w',Ext w w'->bD (λr=>A r\/w.heap.size<=r) R w' [v] [a]->cc w' (an.n α) v 1 cs->K v w'):aC P (Y7 t 1 #[(0,x)]) w K:=by
 have F:=an.len s;refine kj C hi Ω (cs:=x.cells) (zz Ξ (by rw[q];simpa using F)) λg w' M y f=>?_;have f:ad w' g e cs:=by rw[q]at f;simpa using f
 have hm:bW w' g e (an.n α) (.slice (σ ⟨g,0,ν⟩) 1 1) 1 cs:=bW.full f Ω (by simp[maxLen]);refine E _ w' y ⟨_,rfl,[cs],g,λi r=>i=0/\A r/\r<w.heap.size,⟨λi r h=>.inl h.2.1,λ_ i h=>Ω,λ_ i j r G h1 H=>G (h1.1.trans H.1.symm)⟩,⟨rfl,λi c a' p B=>?_⟩,?_,λ_=>⟨.inr (.inr Ω),e,by simpa using hm⟩⟩ hm.sl
 .have I:i=0:=by simpa using(x4.1 p).1
  subst I;simp at p B;subst p B;exact bT (an.mono s (λr J h=>⟨rfl,h,J⟩) λ_ _ h=>h) y
 .have:=oM (S:=λr=>(A r\/w.heap.size<=r)\/R r) hm (.inr (.inl (.inr Ω)));simpa using this
end
theorem bZ.range{B:x1->x3->(x1->x3->Prop)->Prop}(n:Nat)(a:Nat->x3->Prop)(q:n<=9223372036854775807)(f:a 0 w)(j:∀(i:Nat)(w:x3)(k:x1->x3->Prop),i<n->a i w->(∀w',a (i+1) w'->k (Δ (X7.wrap ((i:Int)+1))) w')->B (Δ (i:Int)) w k)(p:∀(w:x3)(k:x1->x3->Prop),a n w->B (Δ (n:Int)) w k):bZ (Δ 0) w B:=by
 refine⟨λt w=>∃i:Nat,t=Δ (i:Int)/\i<=n/\a i w,λt _=>n-(bS t).toNat,⟨0,rfl,X4 _,f⟩,?_⟩;rintro _ w ⟨i,rfl,hi,h⟩;by_cases e:i<n
 .refine j i w _ e h λw' h'=>⟨⟨i+1,?_,e,h'⟩,?_⟩
  .rw[wrap_i64 Ω Ω];rfl
  .rw[wrap_i64 Ω Ω];simp only[bS];omega
 .have:i=n:=Ω
  subst this;exact p w _ h
theorem cd.range{a:x1}{B:x1->x1->x3->(x1->x1->x3->Prop)->Prop}(n:Nat)(e:Nat->x1->x3->Prop)(r:n<=9223372036854775807)(j:e 0 a w)(p:∀(i:Nat)(a:x1)(w:x3)(k:x1->x1->x3->Prop),i<n->e i a w->(∀a' w',e (i+1) a' w'->k a' (Δ (X7.wrap ((i:Int)+1))) w')->B a (Δ (i:Int)) w k)(q:∀(a:x1)(w:x3)(k:x1->x1->x3->Prop),e n a w->B a (Δ (n:Int)) w k):cd a (Δ 0) w B:=by
 refine⟨λa t w=>∃i:Nat,t=Δ (i:Int)/\i<=n/\e i a w,λa t _=>n-(bS t).toNat,⟨0,rfl,X4 _,j⟩,?_⟩;rintro a _ w ⟨i,rfl,hi,h⟩;by_cases f:i<n
 .refine p i a w _ f h λa' w' h'=>⟨⟨i+1,?_,f,h'⟩,?_⟩
  .rw[wrap_i64 Ω Ω];rfl
  .rw[wrap_i64 Ω Ω];simp only[bS];omega
 .have:i=n:=Ω
  subst this;exact q a w _ h
theorem nb.range{a b:x1}{B:x1->x1->x1->x3->(x1->x1->x1->x3->Prop)->Prop}(n:Nat)(e:Nat->x1->x1->x3->Prop)(s:n<=9223372036854775807)(p:e 0 a b w)(q:∀(i:Nat)(a b:x1)(w:x3)(k:x1->x1->x1->x3->Prop),i<n->e i a b w->(∀a' f w',e (i+1) a' f w'->k a' f (Δ (X7.wrap ((i:Int)+1))) w')->B a b (Δ (i:Int)) w k)(r:∀(a b:x1)(w:x3)(k:x1->x1->x1->x3->Prop),e n a b w->B a b (Δ (n:Int)) w k):nb a b (Δ 0) w B:=by
 refine⟨λa b t w=>∃i:Nat,t=Δ (i:Int)/\i<=n/\e i a b w,λa b t _=>n-(bS t).toNat,⟨0,rfl,X4 _,p⟩,?_⟩;rintro a b _ w ⟨i,rfl,hi,h⟩;by_cases j:i<n
 .refine q i a b w _ j h λa' f w' h'=>⟨⟨i+1,?_,j,h'⟩,?_⟩
  .rw[wrap_i64 Ω Ω];rfl
  .rw[wrap_i64 Ω Ω];simp only[bS];omega
 .have:i=n:=Ω
  subst this;exact r a b w _ h
theorem pH.range{a b c:x1}{B:x1->x1->x1->x1->x3->(x1->x1->x1->x1->x3->Prop)->Prop}(n:Nat)(e:Nat->x1->x1->x1->x3->Prop)(x:n<=9223372036854775807)(q:e 0 a b c w)(r:∀(i:Nat)(a b c:x1)(w:x3)(k:x1->x1->x1->x1->x3->Prop),i<n->e i a b c w->(∀a' f j w',e (i+1) a' f j w'->k a' f j (Δ (X7.wrap ((i:Int)+1))) w')->B a b c (Δ (i:Int)) w k)(s:∀(a b c:x1)(w:x3)(k:x1->x1->x1->x1->x3->Prop),e n a b c w->B a b c (Δ (n:Int)) w k):pH a b c (Δ 0) w B:=by
 refine⟨λa b c t w=>∃i:Nat,t=Δ (i:Int)/\i<=n/\e i a b c w,λa b c t _=>n-(bS t).toNat,⟨0,rfl,X4 _,q⟩,?_⟩;rintro a b c _ w ⟨i,rfl,hi,h⟩;by_cases p:i<n
 .refine r i a b c w _ p h λa' f j w' h'=>⟨⟨i+1,?_,p,h'⟩,?_⟩
  .rw[wrap_i64 Ω Ω];rfl
  .rw[wrap_i64 Ω Ω];simp only[bS];omega
 .have:i=n:=Ω
  subst this;exact s a b c w _ h
theorem pI.range{a b c d:x1}{B:x1->x1->x1->x1->x1->x3->(x1->x1->x1->x1->x1->x3->Prop)->Prop}(n:Nat)(e:Nat->x1->x1->x1->x1->x3->Prop)(y:n<=9223372036854775807)(r:e 0 a b c d w)(s:∀(i:Nat)(a b c d:x1)(w:x3)(k:x1->x1->x1->x1->x1->x3->Prop),i<n->e i a b c d w->(∀a' f j p w',e (i+1) a' f j p w'->k a' f j p (Δ (X7.wrap ((i:Int)+1))) w')->B a b c d (Δ (i:Int)) w k)(x:∀(a b c d:x1)(w:x3)(k:x1->x1->x1->x1->x1->x3->Prop),e n a b c d w->B a b c d (Δ (n:Int)) w k):pI a b c d (Δ 0) w B:=by
 refine⟨λa b c d t w=>∃i:Nat,t=Δ (i:Int)/\i<=n/\e i a b c d w,λa b c d t _=>n-(bS t).toNat,⟨0,rfl,X4 _,r⟩,?_⟩;rintro a b c d _ w ⟨i,rfl,hi,h⟩;by_cases q:i<n
 .refine s i a b c d w _ q h λa' f j p w' h'=>⟨⟨i+1,?_,q,h'⟩,?_⟩
  .rw[wrap_i64 Ω Ω];rfl
  .rw[wrap_i64 Ω Ω];simp only[bS];omega
 .have:i=n:=Ω
  subst this;exact x a b c d w _ h
section
variable{P:W9}{w:x3}{m:Bool}{S R:af}
theorem IS(l:Λ):(l.map λx=>[V7 k x]).flatten=ints k l:=by
 induction l with
 |nil=>rfl
 |cons x l a=>simp only[T4,List.flatten_cons,a];rfl
theorem nD{g:Nat}(h:aq .i64 e w g v l):bD (λr=>r=g) R w [v] l:=by
 have j:(l.map λx=>[V7 .i64 x]).flatten=ints .i64 l:=IS l;refine⟨v,rfl,l.map λx=>[Δ x],g,λ_ _=>False,⟨λ_ _ h=>h.elim,λ_ _ h=>h,λ_ _ _ _ _ h=>h.elim⟩,⟨Ξ,λi c a f p=>?_⟩,?_,λ_=>⟨.inr rfl,e,?_⟩⟩
 .rw[x8,p]at f;simp at f;exact f.symm
 .rw[j];exact oM h (.inr (.inl rfl))
 .rw[j];exact h
def lR.val(x:lR k):Int:=x
theorem zA(h:bD S R w [v] l):∃g e,aq .i64 e w g v l/\(v= .slice ν 0 0\/S g):=by
 obtain⟨vs,g,F,_,he,I,hm⟩:=jj h;obtain⟨h1,e,a⟩:=hm rfl;rw[zx he]at a;exact⟨g,e,a,h1⟩
end
end Go.Vc
namespace Go.Proofs.YtikkpokkcdocoaaGreatDoor
open Go Go.Vc Go.RowKit Go.Proofs Go.Proofs.Tryz
set_option maxRecDepth 100000
def right(k:Int):Prop:=1<=k/\k<=2147483648
def cp(a k:Int):Prop:=right k/\0<=a/\a<=k
instance (k:Int):Decidable (right k):=by unfold right;infer_instance
instance (a k:Int):Decidable (cp a k):=by unfold cp;infer_instance
theorem zB{k:Int}:ai x7 HU [Δ k] w λv w'=>v= .bool (decide (right k))/\Ext w w':=by
 refine az func209 ?_;simp only[ck,cI,mp,aj];refine⟨λh=>⟨?_,Ext.refl _⟩,λh=>⟨?_,Ext.refl _⟩⟩
 .congr 1;simp[right,h]
 .rw[decide_eq_false];intro a;exact h a.1
theorem jN{k:Int}:ai x7 Hi [Δ a,Δ k] w λv w'=>v= .bool (decide (cp a k))/\Ext w w':=by
 refine az func156 ?_;simp only[ck];refine zB.mono ?_;rintro _ J _ ⟨rfl,e⟩;simp only[cI,mp,aj];refine⟨λh=>⟨λf=>⟨?_,e⟩,λf=>⟨?_,e⟩⟩,λh=>⟨?_,e⟩⟩
 .congr 1;simp[cp,h,f]
 .rw[decide_eq_false];intro j;exact f j.2.1
 .rw[decide_eq_false];intro j;exact h j.1
theorem IT{k:Int}:ai x7 HQ [Δ k] w λv w'=>v= .bool (decide (right k))/\Ext w w':=by
 refine az func203 ?_;simp only[ck,bP,mp,aj];refine⟨λh=>⟨?_,Ext.refl _⟩,λh=>⟨?_,Ext.refl _⟩⟩
 .congr 1;have h':1<=k:=Ω
  simp[right,h']
 .rw[decide_eq_false];intro a;have:=a.1;omega
theorem zC{k:Int}:ai x7 G4 [Δ a,Δ k] w λv w'=>v= .bool (decide (cp a k))/\Ext w w':=by
 refine az func140 ?_;simp only[ck];refine IT.mono ?_;rintro _ J _ ⟨rfl,e⟩;simp only[cI,mp,aj];refine⟨λh=>⟨λf=>⟨?_,e⟩,λf=>⟨?_,e⟩⟩,λh=>⟨?_,e⟩⟩
 .congr 1;simp[cp,h,f]
 .rw[decide_eq_false];intro j;exact f j.2.1
 .rw[decide_eq_false];intro j;exact h j.1
def aK:Λ->Int
 |[]=>1
 |x::r=>x*aK r
theorem zD:∀(a b:Λ),aK (a++b)=aK a*aK b
 |[],b=>by simp[aK]
 |x::a,b=>by simp[aK,zD a b,Int.mul_assoc]
theorem r0{i:Nat}{x:Int}(h:l[i]?=σ x):aK (l.take (i+1))=aK (l.take i)*x:=by
 rw[u7,h,zD];simp[aK]
def b1(l:Λ):Prop:=l.length<=6/\∀x∈l,1<=x/\x<=32
theorem b1.take(h:b1 l)(i:Nat):b1 (l.take i):=⟨by rw[o7];have:=h.1;omega,λx a=>h.2 x (V5 a)⟩
theorem b1.drop(h:b1 l)(i:Nat):b1 (l.drop i):=⟨by rw[List.length_drop];have:=h.1;omega,λx a=>h.2 x (List.mem_of_mem_drop a)⟩
theorem mv:∀(l:Λ),(∀x∈l,1<=x/\x<=32)->1<=aK l/\aK l<=32 ^ l.length
 |[],_=>by simp[aK]
 |x::r,h=>by
  obtain⟨h1,a⟩:=mv r λy e=>h y (.tail _ e);obtain⟨f,j⟩:=h x (.head _);simp only[aK,c9];constructor
  .have:=Int.mul_le_mul f h1 Ω Ω;simpa using this
  .have:=Int.mul_le_mul j a Ω Ω;rw[Int.pow_succ];rw[Int.mul_comm (32 ^ r.length) 32];exact this
theorem prod_bound(h:b1 l):1<=aK l/\aK l<=1073741824:=by
 obtain⟨h1,a⟩:=mv l h.2;refine⟨h1,Int.le_trans a ?_⟩;have:(32:Int) ^ l.length<=32 ^ 6:=by
  have e:=h.1
  match l.length,e with
  |0,_=>decide
  |1,_=>decide
  |2,_=>decide
  |3,_=>decide
  |4,_=>decide
  |5,_=>decide
  |6,_=>decide
 simpa using this
def cB:Λ->Λ->Int->Option Int
 |[],[],n=>σ n
 |k::s,v::t,n=>if 0<=v/\v<k then cB s t (n*k+v)else ν
 |_,_,_=>ν
theorem u0:∀(s t:Λ)(n:Int),s.length≠t.length->cB s t n=ν
 |[],[],_,h=>absurd rfl h
 |[],_::_,_,_=>rfl
 |_::_,[],_,_=>rfl
 |k::s,v::t,n,h=>by
  unfold cB;split
  .exact u0 s t _ (by simpa using h)
  .rfl
def cJ:Λ->Int->Λ
 |[],_=>[]
 |k::s,n=>(n / aK s) % k::cJ s n
theorem jn:∀(s:Λ)(n:Int),(cJ s n).length=s.length
 |[],_=>rfl
 |_::s,n=>by simp[cJ,jn s n]
theorem zE:∀{s:Λ}{n:Int}{i:Nat}{k:Int},s[i]?=σ k->(cJ s n)[i]?=σ ((n / aK (s.drop (i+1))) % k)
 |a::s,n,0,k,h=>by simp at h;subst h;simp[cJ]
 |a::s,n,i+1,k,h=>by
  simp only[List.getElem?_cons_succ]at h;simp only[cJ,List.getElem?_cons_succ,List.drop_succ_cons];exact zE h
theorem nE:∀{s t:Λ}{m n:Int},(∀x∈s,1<=x/\x<=32)->cB s t m=σ n->m*aK s<=n/\n<(m+1)*aK s
 |[],[],m,n,_,h=>by simp[cB]at h;subst h;simp[aK];omega
 |k::s,v::t,m,n,I,h=>by
  unfold cB at h;split at h
  .rename_i p;have e:=nE (λx a=>I x (.tail _ a)) h;have q:=(mv s λx a=>I x (.tail _ a)).1;simp only[aK];have f:m*(k*aK s)=m*k*aK s:=(Int.mul_assoc _ _ _).symm;have j:(m+1)*(k*aK s)=(m*k+k)*aK s:=by rw[<-Int.mul_assoc,Int.add_mul,Int.one_mul]
   rw[f,j];constructor
   .refine Int.le_trans ?_ e.1;exact Int.mul_le_mul_of_nonneg_right Ω Ω
   .refine Int.lt_of_lt_of_le e.2 ?_;exact Int.mul_le_mul_of_nonneg_right Ω Ω
  .cases h
 |[],_::_,_,_,_,h=>by cases h
 |_::_,[],_,_,_,h=>by cases h
def bg:Λ->List (Λ)
 |[]=>[[]]
 |k::s=>(V0 k.toNat).flatMap λ(v:Nat)=>(bg s).map λt=>(v:Int)::t
theorem iI:∀{s:Λ},(∀x∈s,1<=x/\x<=32)->(bg s).length=(aK s).toNat
 |[],_=>rfl
 |k::s,h=>by
  have e:=iI (s:=s) λx a=>h x (.tail _ a);have hk:=h k (.head _);have f:=(mv s λx a=>h x (.tail _ a)).1;simp only[bg,aK,List.length_flatMap,u9,e];rw[List.map_const',List.length_range,List.sum_replicate_nat,Int.toNat_mul Ω Ω]
theorem r1:∀{s x:Λ},x∈bg s->x.length=s.length
 |[],x,h=>by simp[bg]at h;subst h;rfl
 |k::s,x,h=>by
  simp only[bg,List.mem_flatMap,l9]at h;obtain⟨v,_,t,a,rfl⟩:=h;simp[r1 a]
theorem u1{s x:Λ}(h:(bg s)[j]?=σ x):x.length=s.length:=r1 (x5 h)
theorem oN(h:aH .i64 w sv l)(I:b1 l):
  ai x7 GF [.agg #[sv]] w λv w'=>v=Δ (aK l)/\Ext w w':=by
 refine az func95 ?_;refine bj λg w0 r f j=>?_;rw[aL bu.p 0 j rfl,aW ap.u (h.ext f)];refine⟨λn t J=>Ext w J/\∃i:Nat,t=Δ i/\i<=l.length/\n=Δ (aK (l.take i)),λ_ t _=>l.length-(bS t).toNat,⟨f,0,rfl,X4 _,rfl⟩,?_⟩;rintro _ _ J ⟨a,i,rfl,hi,rfl⟩;have s:=I.1;simp only[aQ,aj];refine⟨λy=>?_,λz=>⟨?_,a⟩⟩
 .obtain⟨x,e⟩:=aF (l:=l) (i:=i) Ω;rw[be ap.u ah.i Ψ (h.ext a) e];have q:=prod_bound (I.take (i+1));rw[r0 e]at q;simp only[hV,aP];rw[wrap_i64 Ω Ω,wrap_i64 Ω Ω,<-r0 e];refine⟨⟨a,i+1,rfl,Ω,rfl⟩,?_⟩;simp only[bS];omega
 .have:i=l.length:=Ω
  rw[this,o5]
theorem IU{i:Nat}(h:aH .i64 w sv l)(I:b1 l)(hi:i<l.length):
  ai x7 Hh [.agg #[sv],Δ i] w λv w'=>v=Δ (aK (l.drop (i+1)))/\Ext w w':=by
 have B:=I.1;refine az func154 ?_;refine bj λg w0 C f j=>?_;have a:=h.ext f;simp only[ck,aQ,aj];refine⟨λE=>Ω,λ_=>?_⟩;rw[aL bu.p 0 j rfl,aW ap.u a];simp only[cI,aj];refine⟨λG=>Ω,λ_=>?_⟩;rw[aL bu.p 0 j rfl];simp only[aP];have r:X7.wrap ((i:Int)+1)=((i+1:Nat):Int):=by rw[wrap_i64 Ω Ω];omega
 rw[r];have s:=a;obtain⟨_,b,o,base,cap,rfl,H,J,K,L⟩:=id a;rw[gk ap.u ah.i (l:=i+1) (h:=l.length) (m:=cap) nt iH eU Ω Ω Ω];have e:=cc.part (l:=i+1) (h:=l.length) (m:=cap) s Ω Ω Ω Ω;generalize y:(x1.slice (if cap=i+1 then base else U3 (λx=>x.add ((i+1)*1)) base) (l.length-(i+1)) (cap-(i+1)))=q at e ⊢;have z:((ints .i64 l).drop ((i+1)*1)).take ((l.length-(i+1))*1)=ints .i64 (l.drop (i+1)):=by
  rw[j0 Ξ,T0,ints,<-List.map_drop]
 rw[z]at e;rw[dh (cs:=#[q]) (by subst y;kernel_rfl)];refine(oN (aH.of e) (I.drop (i+1))).mono ?_;rintro _ U _ ⟨rfl,A⟩;exact⟨rfl,f.trans A⟩
def kW(s t:Λ):x1:=match cB s t 0 with
 |some n=>.tuple #[Δ n,Δ 0]
 |none=>.tuple #[Δ 0,Δ 3]
theorem zF{s t:Λ}(h:aH .i64 w sv s)(q:aH .i64 w aM t)(I:b1 s):
  ai x7 Hf [.agg #[sv],aM] w λv w'=>v=kW s t/\Ext w w':=by
 have K:=I.1;refine az func151 ?_;refine bj λg w0 L e r=>?_;rw[aW ap.u (q.ext e),aL bu.p 0 r rfl,aW ap.u (h.ext e)];simp only[bI,aj];refine⟨λM=>⟨?_,e⟩,λz=>?_⟩
 .unfold kW;rw[u0 _ _ _ Ω]
 .have z:s.length=t.length:=Ω
  rw[aW ap.u (q.ext e)];refine⟨λ_ _ n c J=>Ext w0 J/\∃(i:Nat)(m:Int),c=Δ i/\i<=t.length/\n=Δ m/\0<=m/\m<aK (s.take i)/\cB s t 0=cB (s.drop i) (t.drop i) m,λ_ _ _ c _=>t.length-(bS c).toNat,
   ⟨Ext.refl _,0,0,rfl,X4 _,rfl,Int.le_refl _,by simp[aK],rfl⟩,?_⟩
  rintro _ _ _ _ J ⟨j,i,m,rfl,hi,rfl,A,N,f⟩;have a:=e.trans j;simp only[aQ,aj];refine⟨λO=>?_,λP=>⟨?_,a⟩⟩
  .obtain⟨v,B,C⟩:∃v,t[i]?=σ v/\t.drop i=v::t.drop (i+1):=⟨t[i],x6 Ω,X8 Ω⟩;obtain⟨k,hk,E⟩:∃k,s[i]?=σ k/\s.drop i=k::s.drop (i+1):=⟨s[i],x6 Ω,X8 Ω⟩;rw[C,E]at f;have G:=prod_bound (I.take (i+1));have Q:=prod_bound (I.take i);have R:=I.2 k (x5 hk);rw[r0 hk]at G;have y:¬(0<=v/\v<k)->kW s t= .tuple #[Δ 0,Δ 3]:=λH=>by unfold kW;rw[f];simp[cB,H]
   rw[be ap.u ah.i Ψ (q.ext a) B];simp only[ck,aQ,aj,bL];refine⟨λS=>⟨(y Ω).symm,a⟩,λU=>?_⟩;rw[aL bu.p 0 (r.ext j) rfl,be ap.u ah.i Ψ (h.ext a) hk];simp only[cI,aj];refine⟨λV=>⟨(y Ω).symm,a⟩,λW=>?_⟩;rw[aL bu.p 0 (r.ext j) rfl,be ap.u ah.i Ψ (h.ext a) hk];have X:0<=m*k/\m*k+k<=aK (s.take i)*k:=by
    constructor
    .exact Int.mul_nonneg A Ω
    .have:=Int.mul_le_mul_of_nonneg_right (show m+1<=aK (s.take i) by omega) (show 0<=k by omega);rw[Int.add_mul,Int.one_mul]at this;exact this
   simp only[hV,aP];rw[wrap_i64 (x:=m*k) Ω Ω,wrap_i64 (x:=m*k+v) Ω Ω,wrap_i64 (x:=(i:Int)+1) Ω Ω];refine⟨⟨j,i+1,m*k+v,rfl,Ω,rfl,Ω,by rw[r0 hk];omega,?_⟩,?_⟩
   .rw[f];simp[cB,show 0<=v/\v<k from⟨Ω,Ω⟩]
   .simp only[bS];omega
  .have:i=t.length:=Ω
   rw[this,List.drop_of_length_le Ω,List.drop_of_length_le Ω]at f;unfold kW;rw[f];rfl
theorem IV{e:Nat}{a b:Λ}(h1:cc w 1 s1 e (ints .i64 a))(A:cc w 1 z j (ints .i64 b)):
  ai x7 y6 [s1,z] w λv w'=>v= .bool (decide (a=b))/\Ext w w':=by
 have P:a.length=e:=by simpa using h1.1
 have Q:b.length=j:=by simpa using A.1
 have B:=h1.le;obtain⟨_,R,S,V,W,rfl,X,Y,G,H⟩:=h1;obtain⟨_,Z,aa,ab,ac,rfl,ad,ae,I,K⟩:=A;refine az func179 ?_;simp only[hy ap.u,bI,aj];refine⟨λC=>⟨?_,Ext.refl _⟩,λE=>?_⟩
 .rw[decide_eq_false];rintro rfl;omega
 .have E:e=j:=Ω
  refine⟨λt4 p J=>Ext w J/\∃i:Nat,p=Δ i/\i<=e/\a.take i=b.take i,λ_ p _=>e-(bS p).toNat,⟨Ext.refl _,0,rfl,X4 _,rfl⟩,?_⟩;rintro t4 _ J ⟨f,i,rfl,hi,q⟩;simp only[aQ,aj,ev];refine⟨λr U L _ _=>?_,λaf=>⟨?_,f⟩⟩
  .have r:i<e:=Ω
   have f:=f.trans L;obtain⟨x,s⟩:=aF (l:=a) (i:=i) Ω;obtain⟨y,h⟩:=aF (l:=b) (i:=i) Ω;have M:=iE f (H i _ (kV s));have N:=iE f (K i _ (kV h));rw[e3 ap.u ah.i r G,T0,aB Ψ M,e3 ap.u ah.i (E▸r) I,T0,aB Ψ N];simp only[bI,aj,aP];refine⟨λC=>⟨?_,f⟩,λag=>⟨⟨f,i+1,?_,Ω,uY q s h Ω⟩,?_⟩⟩
   .rw[decide_eq_false];rintro rfl;rw[s]at h;cases h;exact C rfl
   .rw[wrap_i64 Ω (by simp only[maxLen]at B;omega)];rfl
   .rw[wrap_i64 Ω (by simp only[maxLen]at B;omega)];simp only[bS];omega
  .have O:i=e:=Ω
   subst O;rw[decide_eq_true];rw[j0 Ω,j0 Ω]at q;exact q
theorem IW{s:x1}{a:Λ}(h1:cc w 1 s n (ints .i64 a))(B:n<=1000000):
  ai x7 yS [s] w λv w'=>Ext w w'/\∃g,w.heap.size<=g/\bW w' g ah 1 v n (ints .i64 a):=by
 have j:=h1;obtain⟨p,C,E,G,H,rfl,I,K,q,L⟩:=h1;refine az func87 ?_;simp only[rV ap.u,b7];refine⟨λf=>⟨Ext.refl _,w.heap.size,p8 _,?_⟩,λ_=>?_⟩
 .have:n=0:=by
   rcases Q4 n with h|h
   .exact h
   .rw[q h]at f;cases f
  subst this;have:ints .i64 a=[]:=j4 (by simpa using p);rw[this];exact bW.nil _ _ _ _
 .refine kj ap.u ah.i Ω (cs:=#[]) Ψ ?_;intro g J M e x;refine nz (g:=g) ap.u ap.u ah.i rfl (bW.full x rfl Ω) (j.ext e) (pT _ _) Ω (by simp only[maxLen];omega) ?_;intro N y U O z A;refine⟨e.then A (by rintro r P rfl;omega),y,?_,?_⟩
  .have:=e.size;omega
  .simpa using z
theorem IX{e:Nat}{a b:Λ}(h1:cc w 1 s1 e (ints .i64 a))(A:cc w 1 z j (ints .i64 b)):
  ai x7 yL [s1,z] w λv w'=>v= .bool (decide (a=b))/\Ext w w':=by
 have P:a.length=e:=by simpa using h1.1
 have Q:b.length=j:=by simpa using A.1
 have B:=h1.le;obtain⟨_,R,S,V,W,rfl,X,Y,G,H⟩:=h1;obtain⟨_,Z,aa,ab,ac,rfl,ad,ae,I,K⟩:=A;refine az func22 ?_;simp only[hy au.u,bI,aj];refine⟨λC=>⟨?_,Ext.refl _⟩,λE=>?_⟩
 .rw[decide_eq_false];rintro rfl;omega
 .have E:e=j:=Ω
  refine⟨λt4 p J=>Ext w J/\∃i:Nat,p=Δ i/\i<=e/\a.take i=b.take i,λ_ p _=>e-(bS p).toNat,⟨Ext.refl _,0,rfl,X4 _,rfl⟩,?_⟩;rintro t4 _ J ⟨f,i,rfl,hi,q⟩;simp only[aQ,aj,ev];refine⟨λr U L _ _=>?_,λaf=>⟨?_,f⟩⟩
  .have r:i<e:=Ω
   have f:=f.trans L;obtain⟨x,s⟩:=aF (l:=a) (i:=i) Ω;obtain⟨y,h⟩:=aF (l:=b) (i:=i) Ω;have M:=iE f (H i _ (kV s));have N:=iE f (K i _ (kV h));rw[e3 au.u al.i r G,T0,aB Ψ M,e3 au.u al.i (E▸r) I,T0,aB Ψ N];simp only[bI,aj,aP];refine⟨λC=>⟨?_,f⟩,λag=>⟨⟨f,i+1,?_,Ω,uY q s h Ω⟩,?_⟩⟩
   .rw[decide_eq_false];rintro rfl;rw[s]at h;cases h;exact C rfl
   .rw[wrap_i64 Ω (by simp only[maxLen]at B;omega)];rfl
   .rw[wrap_i64 Ω (by simp only[maxLen]at B;omega)];simp only[bS];omega
  .have O:i=e:=Ω
   subst O;rw[decide_eq_true];rw[j0 Ω,j0 Ω]at q;exact q
theorem IY{s:x1}{a:Λ}(h1:cc w 1 s n (ints .i64 a))(B:n<=1000000):
  ai x7 y8 [s] w λv w'=>Ext w w'/\∃g,w.heap.size<=g/\bW w' g al 1 v n (ints .i64 a):=by
 have j:=h1;obtain⟨p,C,E,G,H,rfl,I,K,q,L⟩:=h1;refine az func194 ?_;simp only[rV au.u,b7];refine⟨λf=>⟨Ext.refl _,w.heap.size,p8 _,?_⟩,λ_=>?_⟩
 .have:n=0:=by
   rcases Q4 n with h|h
   .exact h
   .rw[q h]at f;cases f
  subst this;have:ints .i64 a=[]:=j4 (by simpa using p);rw[this];exact bW.nil _ _ _ _
 .refine kj au.u al.i Ω (cs:=#[]) Ψ ?_;intro g J M e x;refine nz (g:=g) au.u au.u al.i rfl (bW.full x rfl Ω) (j.ext e) (pT _ _) Ω (by simp only[maxLen];omega) ?_;intro N y U O z A;refine⟨e.then A (by rintro r P rfl;omega),y,?_,?_⟩
  .have:=e.size;omega
  .simpa using z
theorem IZ{e:x1}{a b:Λ}(h1:aH .i64 w s1 a)(f:aH .i64 w e b):
  ai x7 y6 [s1,e] w λv w'=>v= .bool (decide (a=b))/\Ext w w':=IV h1 f
theorem kX{s:x1}{a:Λ}(h1:aH .i64 w s a)(e:a.length<=1000000):
  ai x7 yS [s] w λv w'=>Ext w w'/\∃g,w.heap.size<=g/\aq .i64 ah w' g v a:=IW h1 e
theorem r2{e:x1}{a b:Λ}(h1:aH .i64 w s1 a)(f:aH .i64 w e b):
  ai x7 yL [s1,e] w λv w'=>v= .bool (decide (a=b))/\Ext w w':=IX h1 f
theorem u2{s:x1}{a:Λ}(h1:aH .i64 w s a)(e:a.length<=1000000):
  ai x7 y8 [s] w λv w'=>Ext w w'/\∃g,w.heap.size<=g/\aq .i64 al w' g v a:=IY h1 e
theorem I0{n:Int}(h:aH .i64 w sv l)(I:b1 l)(x:0<=n)(X:n<aK l):
  ai x7 GG [.agg #[sv],Δ n] w λv w'=>Ext w w'/\∃aM g,v= .tuple #[aM,Δ 0]/\w.heap.size<=g/\aq .i64 ah w' g aM (cJ l n):=by
 have Y:=I.1;have Z:=prod_bound I;refine az func96 ?_;refine bj λg w0 aa y a=>?_;have ab:=h.cells;simp only[ck,aQ,aj];refine⟨λac=>Ω,λ_=>?_⟩;rw[bH bu.p bu.i rfl a.range];refine(oN (h.ext y) I).mono ?_;rintro _ J _ ⟨rfl,f⟩;simp only[cI,aj];refine⟨λae=>Ω,λ_=>?_⟩;have j:=y.trans f;rw[aL bu.p 0 (a.ext f) rfl,aW ap.u (h.ext j)];refine kk ap.u ah.i Ω Ω ?_;intro E U af z L;simp only[hy ap.u];have M:=j.trans z;have s0:=y.size;have s1:=f.size;have ag:=a.lt;refine⟨λt q=>Ext w q/\Ext w0 q/\∃i:Nat,t=Δ i/\i<=l.length/\ad q E ah (ints .i64 ((cJ l n).take i++p9 (l.length-i) 0)),λt _=>l.length-(bS t).toNat,
  ⟨M,f.trans z,0,rfl,X4 _,by simpa using L⟩,?_⟩
 rintro _ q ⟨A,B,i,rfl,hi,G⟩;simp only[aQ,aj];refine⟨λC=>?_,λak=>?_⟩
 .have C:i<l.length:=Ω
  rw[bH bu.p bu.i rfl (a.ext B).range];refine(IU (h.ext A) I C).mono ?_;rintro _ al _ ⟨rfl,N⟩;simp only[ev];intro am O _ _;have s:=N.trans O;have H:=A.trans s;obtain⟨k,hk⟩:∃k,l[i]?=σ k:=⟨l[i],x6 Ω⟩;have an:=I.2 k (x5 hk);have ao:=prod_bound (I.drop (i+1));have P:0<=n / aK (l.drop (i+1)):=Int.ediv_nonneg x Ω;have au:n / aK (l.drop (i+1))<=n:=Int.ediv_le_self _ x;rw[rT Ω,Int.tdiv_eq_ediv_of_nonneg x,wrap_i64 Ω Ω,
   aL bu.p 0 ((a.ext B).ext s) rfl,be ap.u ah.i Ψ (h.ext H) hk,
   rU Ω,Int.tmod_eq_emod_of_nonneg P,e3 ap.u ah.i C (λ_=>rfl),T0]
  refine bk ah.i rfl rfl (G.ext s) (by simp[jn];omega) ?_;intro av K aw Q;simp only[aP];rw[wrap_i64 Ω Ω];have ax:=z.size;have ay:=j.size;refine⟨⟨H.then K (by rintro r R rfl;omega),(B.trans s).then K (by rintro r R rfl;omega),i+1,rfl,Ω,?_⟩,?_⟩
  .have S:=zE (n:=n) hk;have e:(ints .i64 ((cJ l n).take i++p9 (l.length-i) 0)).set (0+i) (Δ (n / aK (l.drop (i+1)) % k))=ints .i64 ((cJ l n).take (i+1)++p9 (l.length-(i+1)) 0):=by
    have V:((cJ l n).take i).length=i:=by rw[o7,jn];omega
    rw[X6,ints,<-U6];congr 1;rw[List.set_append,if_neg Ω,V,U2,show l.length-i=(l.length-(i+1))+1 by omega,List.replicate_succ,List.set_cons_zero,u7,S];simp
   rw[<-e];exact Q
  .simp only[bS];omega
 .have W:i=l.length:=Ω
  subst W;refine⟨A,_,E,rfl,by have:=j.size;omega,aq.of (n:=l.length) (bW.full ?_ (by simp[ints,jn]) (by simp[maxLen];omega))⟩;have e:(cJ l n).take l.length++p9 (l.length-l.length) 0=cJ l n:=by rw[U2,j0 (by rw[jn];omega)];simp
  rw[<-e];exact G
def ib(x:Int):Prop:=1<=x/\x<=32
instance (x:Int):Decidable (ib x):=by unfold ib;infer_instance
theorem I1{x:Int}:ai x7 rP [Δ x] w λv w'=>v= .bool (decide (¬ib x))/\Ext w w':=by
 refine az func272 ?_;simp only[ck,aQ,bP,aj];refine⟨λh=>⟨?_,Ext.refl _⟩,λh=>⟨?_,Ext.refl _⟩⟩
 .rw[decide_eq_true];intro a;have:=a.1;omega
 .congr 1;have:(32<x)=(¬ib x):=propext ⟨λe a=>by have:=a.2;omega,λe=>by
   by_cases f:32<x
   .exact f
   .exact absurd ⟨Ω,Ω⟩ e⟩
  simp only[this]
theorem I2(h:aH .i64 w sv l):
  ai x7 uM [sv,.func (.func rP) #[] #[]] w λv w'=>Ext w w'/\∃n:Int,v=Δ n/\((0<=n)=¬∀x∈l,ib x):=by
 have z:=h.le;refine az func138 ?_;rw[aW ap.u h];refine⟨λ_ t J=>Ext w J/\∃i:Nat,t=Δ i/\i<=l.length/\∀x∈l.take i,ib x,λ_ t _=>l.length-(bS t).toNat,⟨Ext.refl _,0,rfl,X4 _,Ξ⟩,?_⟩;rintro _ _ J ⟨e,i,rfl,hi,f⟩;simp only[aQ,aj];refine⟨λA=>?_,λB=>⟨e,-1,rfl,?_⟩⟩
 .obtain⟨x,j⟩:=aF (l:=l) (i:=i) Ω;rw[be ap.u ah.i Ψ (h.ext e) j];show ai x7 rP [Δ x] J _;refine I1.mono ?_;rintro _ U _ ⟨rfl,p⟩;simp only[aj,aP];refine⟨λq=>⟨e.trans p,i,rfl,?_⟩,λr=>?_⟩
  .exact propext ⟨λ_ s=>q (s x (x5 j)),λ_=>Ω⟩
  .rw[wrap_i64 Ω Ω];refine⟨⟨e.trans p,i+1,rfl,Ω,λy a=>?_⟩,?_⟩
   .rw[u7,j]at a;rcases o9.1 a with a|a
    .exact f y a
    .simp at a;subst a;exact X3.1 r
   .simp only[bS];omega
 .have:i=l.length:=Ω
  rw[this,o5]at f;exact propext ⟨λh=>Ω,λh=>absurd f h⟩
theorem I3(h:aH .i64 w sv l):
  ai x7 uP [sv,.func (.func rP) #[] #[]] w λv w'=>v= .bool (decide (¬∀x∈l,ib x))/\Ext w w':=by
 refine az func214 ?_;refine(I2 h).mono ?_;rintro _ J _ ⟨a,n,rfl,e⟩;simp only[cI];exact⟨by congr 1;simp only[e],a⟩
def I4(w:x3)(l:Λ)(v:x1)(w':x3):Prop:=
 Ext w w'/\
   (¬b1 l->v= .tuple #[.agg #[.slice ν 0 0],Δ 1])/\
   (b1 l->4096<aK l->v= .tuple #[.agg #[.slice ν 0 0],Δ 5])/\
   (b1 l->aK l<=4096->∃g aM,v= .tuple #[.agg #[aM],Δ 0]/\w.heap.size<=g/\aq .i64 ah w' g aM l)
theorem I5(h:aH .i64 w sv l):ai x7 H9 [sv] w (I4 w l):=by
 refine az func239 ?_;refine bz bu.i λZ J av a q=>?_;have aw:=q.lt;refine aT (λv U=>Ext w U/\Ext J U/\∃c:Bool,v= .bool c/\((c=true)=¬b1 l)) ?_ ?_
 .rintro _ U ⟨s,x,c,rfl,H⟩;simp only[b7];refine⟨λaa=>?_,λab=>?_⟩
  .have K:¬b1 l:=by rw[<-H];exact aa
   rw[dh (cs:=#[.slice ν 0 0]) Ψ];refine b6 (vs:=[.slice ν 0 0]) bu.i rfl rfl (by simp;rfl) (q.ext x) ?_;intro ay ac aA af;rw[fC bu.p bu.i rfl af.range];exact⟨s.then ac (by rintro r y rfl;omega),λ_=>rfl,λh=>absurd h K,λh=>absurd h K⟩
  .have e:b1 l:=by
    have L:¬(c=true):=by simp[ab]
    rw[H]at L;exact Classical.not_not.1 L
   have aB:=e.1;refine(kX (h.ext s) Ω).mono ?_;rintro aM M _ ⟨z,N,aC,hm⟩;have O:=hm.ls.cells;rw[dh (cs:=#[aM]) (by obtain⟨_,_,_,_,_,rfl,_⟩:=hm.ls;kernel_rfl)];refine bz bu.i λgs aD aE A ag=>?_;refine b6 (vs:=[aM]) bu.i rfl rfl (by intro u hu;simp at hu;subst hu;exact O.2) ag ?_;intro B P aF Q;rw[bH bu.p bu.i rfl Q.range];have aG:=z.size;have aI:=A.size;have aJ:=x.size;have aK:ae (λr=>r=gs) M B:=(A.V _).trans P;have C:Ext M B:=A.then P (by rintro r y rfl;omega);have ak:=(s.trans z).trans C;have R:aq .i64 ah B N aM l:=hm.ext C;refine(oN R.ls e).mono ?_;rintro _ al _ ⟨rfl,f⟩;have S:=ak.trans f;have W:ad al Z bu [.slice ν 0 0]:=q.ext (((x.trans z).trans C).trans f);simp only[bP,aj];refine⟨λam=>?_,λan=>?_⟩
   .rw[dh (cs:=#[.slice ν 0 0]) Ψ];refine b6 (vs:=[.slice ν 0 0]) bu.i rfl rfl (by simp;rfl) W ?_;intro ao j au E;rw[fC bu.p bu.i rfl E.range];exact⟨S.then j (by rintro r y rfl;omega),λh=>absurd e h,λ_ _=>rfl,λ_ h=>Ω⟩
   .rw[bH bu.p bu.i rfl (Q.ext f).range];refine b6 (vs:=[aM]) bu.i rfl rfl (by intro u hu;simp at hu;subst hu;exact O.2) W ?_;intro ao j au E;rw[fC bu.p bu.i rfl E.range];have aL:=a.size;exact⟨S.then j (by rintro r y rfl;omega),λh=>absurd e h,λ_ h=>Ω,λ_ _=>⟨N,aM,rfl,Ω,(R.ext f).V j Ω⟩⟩
 .intro ax X;rw[aW ap.u (h.ext a)];simp only[bP,aj];refine⟨λam=>X _ _ ⟨a,Ext.refl _,true,rfl,?_⟩,λan=>?_⟩
  .exact propext ⟨λ_ I=>by have:=I.1;omega,λ_=>rfl⟩
  .refine (I3 (h.ext a)).mono ?_;rintro _ U _ ⟨rfl,Y⟩;refine X _ _ ⟨a.trans Y,Y,_,rfl,?_⟩;rw[decide_eq_true_eq];exact propext ⟨λG I=>G I.2,λG I=>G ⟨Ω,I⟩⟩
theorem u3{P:W9}(f:0<=a)(h1:a<4294967296):
  aa P (aJ .and t cx cy (.int .u64 a) (.int .u64 4294967295)) w K=K (.int .u64 a):=aa.of λw' _=>by
 obtain⟨n,rfl⟩:=U7 f;have q:n<4294967296:=Ω
 have e:(T3 64 (n:Int) &&& T3 64 4294967295).toNat=n:=by
  rw[BitVec.toNat_and,BitVec.toNat_ofInt,BitVec.toNat_ofInt];have h:((n:Int) % ((2 ^ 64:Nat):Int)).toNat=n:=Ω
  have j:((4294967295:Int) % ((2 ^ 64:Nat):Int)).toNat=2 ^ 32-1:=Φ
  rw[h,j,Nat.and_two_pow_sub_one_eq_mod];omega
 have p:(T3 T1.bits (n:Int) &&& T3 T1.bits 4294967295).toNat=n:=e;simp only[aJ,eqGuard,binOp,Op.intBits,p];rw[wrap_u64 Ω Ω];rfl
theorem pW{P:W9}(f:0<=a)(h1:a<4294967296):
  aa P (aJ .shr t cx cy (.int .u64 a) (.int .u64 32)) w K=K (.int .u64 0):=aa.of λw' _=>by
 have e:a.fdiv (2 ^ min 32 T1.bits)=0:=by
  have:(2:Int) ^ min 32 T1.bits=4294967296:=rfl;rw[this,Int.fdiv_eq_ediv_of_nonneg _ Ω];omega
 simp[aJ,eqGuard,binOp,Op.shift,e]
theorem I6{x:Int}(f:0<=x/\x<65536)(e:0<=y/\y<65536):
  ai x7 Is [.int .u64 x,.int .u64 y] w λv w'=>v= .tuple #[.int .u64 0,.int .u64 (x*y)]/\Ext w w':=by
 have j:0<=x*y/\x*y<4294967296:=⟨Int.mul_nonneg f.1 e.1,by
  have:x*y<=65535*65535:=Int.mul_le_mul Ω Ω e.1 Ω;omega⟩
 refine az func273 ?_;refine ai.mono (K:=λv w'=>v= .tuple #[.int .u64 0,.int .u64 (x*y)]/\Ext w w') ?_ ?_
 .refine az func288 ?_;rw[u3 Ω Ω,pW Ω Ω,u3 Ω Ω,pW Ω Ω];simp only[hV,Int.zero_mul,Int.mul_zero];rw[wrap_u64 (x:=x*y) Ω Ω,show T1.wrap 0=0 from rfl,pW (a:=x*y) Ω Ω];simp only[aP,Int.add_zero];rw[show T1.wrap 0=0 from rfl,u3 Ω Ω,pW Ω Ω];simp only[hV,aP,Int.zero_mul,Int.mul_zero,Int.add_zero,show T1.wrap 0=0 from rfl];rw[pW Ω Ω];simp only[hV,aP,Int.add_zero,show T1.wrap 0=0 from rfl];exact⟨trivial,Ext.refl _⟩
 .rintro _ J _ ⟨rfl,h⟩;rw[br,bt];exact⟨rfl,h⟩
theorem zG{ec:x1}{c:Int}(h:aH .i64 w ec [c])(Y:n<65536):
  ai x7 Ia [ec,Δ n] w λv w'=>Ext w w'/\∃g,w.heap.size<=g/\aq .i64 al w' g v (p9 n c):=by
 refine az func240 ?_;refine dd (λJ=>w=J) ?_ ?_
 .rintro _ rfl;rw[aW au.u h,fl ah.u oH.u,fl ah.u oH.u,wrap_u64 Ξ Ξ,wrap_u64 Ω Ω];refine(I6 (x:=([c].length:Int)) Ξ Ω).mono ?_;rintro _ U _ ⟨rfl,z⟩;rw[br,bt];have G:(([c].length:Int)*n)=(n:Int):=Ξ
  rw[G];refine dd (λa=>U=a) ?_ ?_
  .rintro _ rfl;rw[fl oH.u ah.u,wrap_i64 Ω Ω];refine kk au.u al.i Ω Ω ?_;intro g Z aa H I;have A:=z.trans H;have ab:=z.size;refine zt au.u al.i I (o:=0) (λ_=>rfl) Ξ (h.ext A) (pT _ _) ?_;intro ac K ae B;have L:=A.then K (by rintro r M rfl;omega);have st:over (ints .i64 (p9 n 0)) 0 ((ints .i64 [c]).take n)=ints .i64 (p9 (min 1 n) c++p9 (n-min 1 n) 0):=by
    rcases Q4 n with rfl|e
    .simp[over]
    .rw[j0 Θ,mq Θ];have:min 1 n=1:=Ω
     simp[this,ints]
   rw[st]at B;refine⟨λt f=>Ext w f/\∃i:Nat,t=Δ i/\i<=n/\(0<n->0<i)/\ad f g al (ints .i64 (p9 i c++p9 (n-i) 0)),λt _=>n-(bS t).toNat,
    ⟨L,min 1 n,Ξ,Ω,Ω,B⟩,?_⟩
   rintro _ f ⟨p,i,rfl,hi,af,q⟩;simp only[hy au.u,aQ,aj,ev];refine⟨λN O s _ _=>?_,λag=>?_⟩
   .have N:i<n:=Ω
    have C:=q.ext s;rw[gk au.u al.i (l:=i) (h:=n) (m:=n) nt iH eU Ω Ω Ω,
     gk au.u al.i (l:=0) (h:=i) (m:=n) iG nw eU Ω Ω Ω]
    have P:cc O 1 (.slice (σ ⟨g,0,ν⟩) n n) n (ints .i64 (p9 i c++p9 (n-i) 0)):=(bW.full C (by simp<;>omega) (by simp[maxLen]<;>omega)).sl;have e:=P.part (l:=0) (h:=i) (m:=n) Ω Ω Ω Ω;have Q:((ints .i64 (p9 i c++p9 (n-i) 0)).drop (0*1)).take ((i-0)*1)=ints .i64 (p9 i c):=by
     simp[ints]
    rw[Q]at e;refine zt au.u al.i C (o:=i) (λ_=>?_) (by simp<;>omega) e (pT _ _) ?_
    .rw[if_neg Ω];simp[T2]
    .intro ak R am E;have an:=p.size;have ao:=s.size;have S:over (ints .i64 (p9 i c++p9 (n-i) 0)) i ((ints .i64 (p9 i c)).take (n-i))=ints .i64 (p9 (i+min i (n-i)) c++p9 (n-(i+min i (n-i))) 0):=by
      apply X2;intro j;rw[nx _ _ _ (by simp[ints]<;>omega)];simp only[ints,Z4,List.map_replicate,List.getElem?_append,List.getElem?_take,List.getElem?_replicate,o7,List.length_replicate]
      repeat' split
      all_goals first|rfl|omega
     rw[S]at E;have V:min (i-0) (n-i)=min i (n-i):=Ω
     simp only[aP,V];have W:X7.wrap ((i:Int)+((min i (n-i):Nat):Int))=((i+min i (n-i):Nat):Int):=by rw[wrap_i64 Ω Ω];omega
     rw[W];refine⟨⟨(p.trans s).then R (by rintro r M rfl;omega),_,rfl,Ω,Ω,E⟩,?_⟩;simp only[bS,u6];omega
   .have:i=n:=Ω
    subst this;rw[U2,List.replicate_zero,W7]at q;exact⟨p,g,Ω,aq.of (n:=i) (bW.full q Ξ (by simp[maxLen];omega))⟩
  .intro ax y;refine aT (λv a=>v= .bool false/\U=a) ?_ ?_
   .rintro _ _ ⟨rfl,rfl⟩;rw[aU];exact y _ rfl
   .intro ap X;simp only[bP,aj];refine⟨λh=>Ω,λ_=>X _ _ ⟨?_,rfl⟩⟩;rw[decide_eq_false];omega
 .intro ax y;simp only[aQ,aj];exact⟨λh=>Ω,λ_=>y _ rfl⟩
def leads(v:x1)(r:Nat):Prop:=∃a n c,v= .slice (σ a) n c/\a.block=r
theorem bO{g:Nat}(h:aq k e w g v l){r:Nat}(f:leads v r):r=g/\g<w.heap.size:=by
 obtain⟨a,n,c,rfl,rfl⟩:=f;obtain⟨_,⟨h,_⟩|⟨cap,cs,h,j,_⟩⟩:=h
 .cases h
 .cases h;exact⟨rfl,j.lt⟩
theorem bo{g:Nat}(h:aq k e w g v l)(a:ae S w w')(f:∀r,leads v r->¬S r):aq k e w' g v l:=by
 refine⟨h.1,h.2.imp id λ⟨cap,cs,h1,j,p⟩=>⟨cap,cs,h1,j.V a (f g ⟨_,_,_,h1,rfl⟩),p⟩⟩
def c8(w:x3)(g a:Nat)(sv:x1)(ag:Λ)(k:Int)(cs:Λ):Prop:=
 (∃aV gs,ad w g cU [sv,Δ k,aV]/\aq .i64 ah w gs sv ag/\aq .i64 al w a aV cs)/\(g≠a/\¬leads sv a/\aK ag<=4096)/\b1 ag/\cs.length=(aK ag).toNat
theorem c8.ext{g e:Nat}{k:Int}{cs:Λ}(h:c8 w g e sv ag k cs)(a:Ext w w'):c8 w' g e sv ag k cs:=by
 obtain⟨⟨aV,gs,h1,f,j⟩,p⟩:=h;exact⟨⟨aV,gs,h1.ext a,f.ext a,j.ext a⟩,p⟩
def zH(w:x3)(l:Λ)(k a:Int)(v:x1)(w':x3):Prop:=
 Ext w w'/\
  (¬b1 l->v= .tuple #[.pointer ν,Δ 1])/\
  (b1 l->4096<aK l->v= .tuple #[.pointer ν,Δ 5])/\
  (b1 l->aK l<=4096->¬cp a k->v= .tuple #[.pointer ν,Δ 3])/\
  (b1 l->aK l<=4096->cp a k->∃g e sv,v= .tuple #[Γ g,Δ 0]/\w.heap.size<=g/\w.heap.size<=e/\(∀r,leads sv r->w.heap.size<=r)/\
   c8 w' g e sv l k (p9 (aK l).toNat a))
theorem va{k A:Int}(h:aH .i64 w sv l):ai x7 HG [sv,Δ k,Δ A] w (zH w l k A):=by
 refine az func191 ?_;refine(I5 h).mono ?_;rintro v J _ ⟨L,Y,Z,ab⟩;obtain⟨aM,e,rfl,ac,he⟩:∃(aM:x1)(e:Int),v= .tuple #[.agg #[aM],Δ e]/\aM.oneCell'=true/\
   ((e=1/\¬b1 l)\/(e=5/\b1 l/\4096<aK l)\/(e=0/\b1 l/\aK l<=4096/\∃g,w.heap.size<=g/\aq .i64 ah J g aM l)):=by
  by_cases I:b1 l
  .by_cases z:aK l<=4096
   .obtain⟨g,aM,rfl,h1,M⟩:=ab I z;exact⟨aM,0,rfl,M.ls.cells.2,.inr (.inr ⟨rfl,I,z,g,h1,M⟩)⟩
   .exact⟨_,_,Z I Ω,rfl,.inr (.inl ⟨rfl,I,Ω⟩)⟩
  .exact⟨_,_,Y I,rfl,.inl ⟨rfl,I⟩⟩
 rw[br,bt];refine bz bu.i λaO U aP ad ae=>?_;refine b6 (vs:=[aM]) bu.i rfl rfl (by intro u hu;simp at hu;subst hu;exact ac) ae ?_;intro af ag aQ am;have N:Ext J af:=ad.then ag (by rintro r j rfl;omega);have O:=L.trans N;simp only[bI,aj];refine⟨λan=>⟨O,?_⟩,λaR=>?_⟩
 .rcases he with⟨rfl,B⟩|⟨rfl,I,z⟩|⟨rfl,_⟩
  .exact⟨λ_=>rfl,λh=>absurd h B,λh=>absurd h B,λh=>absurd h B⟩
  .exact⟨λh=>absurd I h,λ_ _=>rfl,λ_ h=>Ω,λ_ h=>Ω⟩
  .exact absurd rfl an
 .obtain⟨rfl,I,z,gs,aS,hm⟩:e=0/\b1 l/\aK l<=4096/\∃g,w.heap.size<=g/\aq .i64 ah J g aM l:=by
   rcases he with⟨rfl,B⟩|⟨rfl,I,z⟩|h
   .omega
   .omega
   .exact h
  have aT:=prod_bound I;refine jN.mono ?_;rintro _ aU _ ⟨rfl,E⟩;have P:=O.trans E;simp only[bC,b7];refine⟨λao=>⟨P,λh=>absurd I h,λ_ h=>Ω,λ_ _ _=>rfl,λ_ _ h=>by simp[h]at ao⟩,λap=>?_⟩;have av:cp A k:=by simpa using ap
  simp only[ck,ev];intro Q G _ _;have aw:=P.trans G;have C:=(N.trans E).trans G;have R:=(am.ext E).ext G;rw[bH bu.p bu.i rfl R.range,bH bu.p bu.i rfl R.range];have s1:=L.size;have aV:=C.size;have S:((aK l).toNat:Int)=aK l:=Ω
  have V:∀{x:x3}{s:x1}{y:Nat},Ext Q x->Q.heap.size<=y->aq .i64 al x y s (p9 (aK l).toNat A)->
    aa x7 (Instr.build cU #[(0,.agg #[aM]),(1,Δ k),(2,s)]) x λax=>aC x7 (Instr.box cU ax) x λay W=>zH w l k A (.tuple #[ay,Δ 0]) W:=by
   intro x s y q X j;rw[dh (cs:=#[aM,Δ k,s]) (by
    obtain⟨_,_,_,_,_,rfl,_⟩:=j.ls;obtain⟨_,_,_,_,_,rfl,_⟩:=hm.ls;kernel_rfl)]
   refine bj λg W aW H aA=>?_;have aX:=q.size;have aB:leads s y:=by
    obtain⟨aY,⟨_,aD⟩|⟨cap,cs,rfl,_⟩⟩:=j
    .simp at aD;omega
    .exact⟨_,_,_,rfl,rfl⟩
   have aZ:=(bO j aB).2;refine⟨(aw.trans q).trans H,λh=>absurd I h,λ_ h=>Ω,λ_ _ h=>absurd av h,λ_ _ _=>⟨g,y,aM,rfl,Ω,Ω,λr aE=>?_,⟨s,gs,aA,((hm.ext C).ext q).ext H,j.ext H⟩,⟨Ω,λaF=>?_,z⟩,I,Ξ⟩⟩
   .have:=(bO hm aE).1;omega
   .have:=bO hm aF;omega
  constructor
  .refine en au.u al.i rfl λec ak aG aI a K=>⟨.inl a,?_⟩;refine(oN ((hm.ext C).ext a).ls I).mono ?_;rintro _ aJ _ ⟨rfl,f⟩;refine⟨.inl (a.trans f),?_⟩;rw[<-S];refine(zG (K.ext f).ls Ω).mono ?_;rintro s x _ ⟨q,y,X,j⟩;have aL:=a.size;have aN:=f.size;exact⟨.inl ((a.trans f).trans q),V ((a.trans f).trans q) Ω j⟩
  .refine (oN (hm.ext C).ls I).mono ?_;rintro _ aG _ ⟨rfl,a⟩;refine⟨.inl a,?_⟩;refine en au.u al.i rfl λec ak aJ aI f K=>⟨.inl (a.trans f),?_⟩;rw[<-S];refine(zG K.ls Ω).mono ?_;rintro s x _ ⟨q,y,X,j⟩;have aL:=a.size;have aN:=f.size;exact⟨.inl ((a.trans f).trans q),V ((a.trans f).trans q) Ω j⟩
theorem nF{g:Nat}{a:List x1}{o:Nat}(h:ad w g e cs)(f:∀j v,a[j]?=σ v->cs[o+j]?=σ v):w.rangeAt g o a:=λj v p=>h.cell (f j v p)
theorem zI{g:Nat}{t:Λ}{k:Int}{cs:Λ}(h:c8 w g f sv ag k cs)(q:aH .i64 w aM t):
  ai x7 If [Γ g,aM] w λv w'=>v=kW ag t/\Ext w w':=by
 obtain⟨⟨aV,gs,r,hm,s⟩,_,I,_⟩:=h;refine az func245 ?_;rw[cP eT.u];simp only[j9,aU];rw[bJ,aR cU.p rfl,bH (cs:=[sv]) bu.p bu.i rfl (nF r (by
  intro j v a
  match j,a with
  |0,a=>exact a))]
 refine(zF hm.ls q I).mono ?_;rintro _ J _ ⟨rfl,e⟩;unfold kW;cases cB ag t 0 with
 |none=>rw[br,bt];exact⟨rfl,e⟩
 |some n=>rw[br,bt];exact⟨rfl,e⟩
def oO(ag t cs:Λ):x1:=match cB ag t 0 with
 |some n=>.tuple #[Δ (cs.getD n.toNat 0),Δ 0]
 |none=>.tuple #[Δ 0,Δ 3]
theorem zJ{t cs:Λ}{n:Int}(I:b1 ag)(a:cs.length=(aK ag).toNat)(h:cB ag t 0=σ n):n=(n.toNat:Int)/\n.toNat<cs.length:=by
 have:=nE I.2 h;simp only[Int.zero_mul,Int.zero_add,Int.one_mul]at this;omega
theorem vb{g:Nat}{t:Λ}{k:Int}{cs:Λ}(h:c8 w g f sv ag k cs)(j:aH .i64 w aM t):
  ai x7 H6 [Γ g,aM] w λv w'=>v=oO ag t cs/\Ext w w':=by
 refine az func230 ?_;refine(zI h j).mono ?_;rintro _ J _ ⟨rfl,a⟩;obtain⟨⟨aV,gs,q,hm,r⟩,_,I,s⟩:=h.ext a;unfold kW oO;cases hi:cB ag t 0 with
 |none=>
  rw[br,bt];simp only[bI,aj];exact⟨λ_=>⟨trivial,a⟩,λh=>by simp at h⟩
 |some n=>
  obtain⟨x,e⟩:=zJ I s hi;rw[br,bt];simp only[bI,aj];refine⟨λh=>absurd rfl h,λ_=>?_⟩;rw[aG cU.p 2 q rfl,
   gl x au.u al.i Ψ r.ls (x6 e)]
  refine⟨?_,a⟩;rw[v8,x6 e];rfl
def r3(ag t:Λ)(k c:Int)(cs:Λ):Λ:=match cB ag t 0 with
 |some n=>if cp c k then cs.set n.toNat c else cs
 |none=>cs
def zK(ag t:Λ)(k c:Int):Int:=match cB ag t 0 with
 |some _=>if cp c k then 0 else 3
 |none=>3
theorem I7{g:Nat}{t:Λ}{k c:Int}{cs:Λ}(h:c8 w g f sv ag k cs)(C:aH .i64 w aM t):
  ai x7 HI [Γ g,aM,Δ c] w λv w'=>v=Δ (zK ag t k c)/\ae (λr=>r=f) w w'/\c8 w' g f sv ag k (r3 ag t k c cs):=by
 refine az func193 ?_;refine(zI h C).mono ?_;rintro _ J _ ⟨rfl,a⟩;have h1:=h.ext a;obtain⟨⟨aV,gs,e,hm,j⟩,_,I,q⟩:=h1;unfold kW zK r3;cases hi:cB ag t 0 with
 |none=>
  rw[br,bt];simp only[bI,aj];exact⟨λ_=>⟨trivial,a.V _,h.ext a⟩,λh=>by simp at h⟩
 |some n=>
  obtain⟨P,Q⟩:=zJ I q hi;rw[br,bt];simp only[bI,aj];refine⟨λh=>absurd rfl h,λ_=>?_⟩;rw[aG cU.p 1 e rfl];refine jN.mono ?_;rintro _ U _ ⟨rfl,s⟩;have y:=(h.ext a).ext s;by_cases z:cp c k
  .simp only[z,decide_true,bC,Y6,aU,if_true];obtain⟨⟨aV,gs,e,hm,j⟩,⟨E,A⟩,I,q⟩:=y;have R:=j;obtain⟨S,⟨rfl,W⟩|⟨cap,full,rfl,G,H,K,L,B⟩⟩:=j
   .omega
   .rw[aG cU.p 2 e rfl,
     zp (i:=n) au.u al.i Ω Ω (λ_=>rfl)]
    refine bk al.i rfl rfl G Ω ?_;intro X x Y M;refine⟨trivial,((a.trans s).V _).trans x,⟨_,gs,e.V x Ω,bo hm x (λr N O=>A.1 (O▸N)),?_⟩,⟨E,A⟩,I,by simp[q]⟩;refine⟨Ξ,.inr ⟨cap,full.set (0+n.toNat*1) (Δ c),?_,M,by simpa using H,K,by simpa using L,?_⟩⟩
    .simp
    .simp only[Z6,X6,T0]at B ⊢;rw[List.take_set,B,ints,ints,U6]
  .simp only[z,decide_false,bC,W5,bL,if_false];exact⟨trivial,(a.trans s).V _,y⟩
def cq(b:Int):Bool:=decide (b=32\/b=9\/b=10\/b=13)
def bM(b:Int):Bool:=decide (33<=b/\b<=126)
def nG:Nat->Λ->List (Λ)×Bool
 |0,_=>([],true)
 |n+1,p=>
  match p.dropWhile cq with
  |[]=>([],true)
  |b::q=>
   if bM b then
    match(b::q).dropWhile bM with
    |[]=>([(b::q).takeWhile bM],true)
    |c::r=>if cq c then(((b::q).takeWhile bM)::(nG n (c::r)).1,(nG n (c::r)).2)else([],false)
   else([],false)
def lex(p:Λ):List (Λ)×Bool:=nG (p.length+1) p
theorem oP(f:Int->Bool):∀(l:Λ),(l.dropWhile f).length<=l.length
 |[]=>p8 _
 |x::l=>by
  rw[List.dropWhile_cons];split
  .exact Y5 (oP f l) (Nat.le_succ _)
  .exact p8 _
theorem r4{f:Int->Bool}{x:Int}(h:f x=true):((x::l).dropWhile f).length<=l.length:=by
 rw[List.dropWhile_cons,if_pos h];exact oP f l
theorem zL:∀{n m:Nat}{p:Λ},p.length<n->p.length<m->nG n p=nG m p
 |n+1,m+1,p,j,hm=>by
  unfold nG;have h1:=oP cq p;cases f:p.dropWhile cq with
  |nil=>rfl
  |cons b q=>
   rw[f]at h1;simp only;by_cases a:bM b=true
   .rw[if_pos a,if_pos a];have e:=r4 (l:=q) a;cases h:(b::q).dropWhile bM with
    |nil=>rfl
    |cons c r=>
     rw[h]at e;simp only[c9]at h1 e;simp only;rw[zL (n:=n) (m:=m) (p:=c::r) (by rw[c9];omega) (by rw[c9];omega)]
   .rw[if_neg a,if_neg a]
theorem km(p:Λ):lex p=match p.dropWhile cq with
  |[]=>([],true)
  |b::q=>
   if bM b then
    match(b::q).dropWhile bM with
    |[]=>([(b::q).takeWhile bM],true)
    |c::r=>if cq c then(((b::q).takeWhile bM)::(lex (c::r)).1,(lex (c::r)).2)else([],false)
   else([],false):=by
 unfold lex
 conv=>lhs;unfold nG
 have h1:=oP cq p;cases f:p.dropWhile cq with
 |nil=>rfl
 |cons b q=>
  rw[f]at h1;simp only;by_cases a:bM b=true
  .rw[if_pos a,if_pos a];have e:=r4 (l:=q) a;cases h:(b::q).dropWhile bM with
   |nil=>rfl
   |cons c r=>
    rw[h]at e;simp only[c9]at h1 e;simp only;rw[zL (n:=p.length) (m:=(c::r).length+1) (p:=c::r) (by rw[c9];omega) Ω]
  .rw[if_neg a,if_neg a]
theorem pX:∀(n:Nat)(p:Λ),p.length<=n->(lex p).1.length<=p.length
 |n,p,s=>by
  rw[km];have h1:=oP cq p;cases h:p.dropWhile cq with
  |nil=>simp
  |cons b q=>
   rw[h]at h1;simp only;by_cases a:bM b=true
   .rw[if_pos a];have e:=r4 (l:=q) a;cases j:(b::q).dropWhile bM with
    |nil=>simp only[c9,List.length_nil]at h1 ⊢;omega
    |cons c r=>
     rw[j]at e;simp only[c9]at h1 e;simp only;by_cases f:cq c=true
     .rw[if_pos f]
      match n with
      |0=>omega
      |n+1=>
       have:=pX n (c::r) (by rw[c9];omega);simp only[c9]at this ⊢;omega
     .rw[if_neg f];simp
   .rw[if_neg a];simp
theorem r5:∀(n:Nat)(p:Λ),p.length<=n->∀w∈(lex p).1,w≠[]/\(∀b∈w,bM b=true)/\w.length<=p.length
 |n,p,B,w,hw=>by
  rw[km]at hw;have h1:=oP cq p;cases e:p.dropWhile cq with
  |nil=>rw[e]at hw;simp at hw
  |cons b q=>
   rw[e]at h1 hw;simp only at hw;have z:(b::q).length<=p.length:=h1;by_cases a:bM b=true
   .rw[if_pos a]at hw;have f:=r4 (l:=q) a;have j:(b::q).takeWhile bM≠[]/\(∀x∈(b::q).takeWhile bM,bM x=true)/\((b::q).takeWhile bM).length<=p.length:=
     ⟨by rw[List.takeWhile_cons,if_pos a];simp,λx A=>List.all_takeWhile (l:=b::q) (p:=bM) |> List.all_eq_true.1 |> λh=>h x A,Y5 (List.takeWhile_sublist _).length_le z⟩
    cases s:(b::q).dropWhile bM with
    |nil=>
     rw[s]at hw;simp only[l7]at hw;subst hw;exact j
    |cons c r=>
     rw[s]at f hw;simp only[c9]at h1 f;simp only at hw;by_cases y:cq c=true
     .rw[if_pos y]at hw;rcases V3.1 hw with rfl|hw
      .exact j
      .match n with
       |0=>omega
       |n+1=>
        have:=r5 n (c::r) (by rw[c9];omega) w hw;exact⟨this.1,this.2.1,Y5 this.2.2 (by rw[c9];omega)⟩
     .rw[if_neg y]at hw;simp at hw
   .rw[if_neg a]at hw;simp at hw
def av:Int:=4611686018427387904
def gm(b:Int):Bool:=decide (48<=b/\b<=57)
def e4(n b:Int):Int:=min av (10*n+(b-48))
def ko:Λ->Option Int
 |[]=>ν
 |l=>if l.all gm then σ (l.foldl e4 0)else ν
def gn:Λ->Option Int
 |45::l=>(ko l).map λn=>-n
 |l=>ko l
theorem I8{n b:Int}(e:0<=n)(a:gm b=true):0<=e4 n b/\e4 n b<=av:=by
 have a:=of_decide_eq_true a;unfold e4 av;omega
theorem r6:∀{l:Λ}{n:Int},l.all gm=true->0<=n/\n<=av->0<=l.foldl e4 n/\l.foldl e4 n<=av
 |[],n,_,a=>a
 |b::l,n,h,a=>by
  rw[List.all_cons,U4]at h;exact r6 (l:=l) h.2 (I8 a.1 h.1)
structure aD where
 toks:List (Λ)
 told:Int
 big:Bool
 shared:List (Λ×List (Λ×Int))
deriving DecidableEq
def dQ(s:aD):Option (Λ×aD):=match s.toks with
 |[]=>ν
 |w::l=>σ (w,{s with toks:=l})
def bc(lo hi:Int)(s:aD):Option (Int×aD):=match dQ s with
 |none=>ν
 |some (w,s)=>match gn w with
  |none=>ν
  |some n=>if lo<=n/\n<=hi then σ (n,s)else ν
def a8(b:Bool)(s:aD):aD:={s with big:=s.big||b}
def cK{α:Type}(f:List α->aD->Option (α×aD)):Nat->List α->aD->Option (List α×aD)
 |0,acc,s=>σ (acc,s)
 |n+1,acc,s=>match f acc s with
  |none=>ν
  |some (a,s)=>cK f n (acc++[a]) s
def e5(n:Int)(a:Nat)(s:aD):Option (Λ×aD):=cK (λacc s=>match bc 0 (n-1) s with
 |none=>ν
 |some (v,s)=>if v∈acc then ν else σ (v,s)) a [] s
def iJ:Λ->Λ->aD->Option (Λ×aD)
 |[],acc,s=>σ (acc,s)
 |k::l,acc,s=>match bc 0 (k-1) s with
  |none=>ν
  |some (v,s)=>iJ l (acc++[v]) s
def dR(sizes:Λ)(acc:List (Λ×Int))(s:aD):Option ((Λ×Int)×aD):=match iJ sizes [] s with
 |none=>ν
 |some (t,s)=>match bc 0 av s with
  |none=>ν
  |some (c,s)=>if t∈acc.map (·.1)then ν else σ ((t,c),s)
def dS(sizes:Λ)(s:aD):Option (List (Λ×Int)×aD):=match bc (-av) av s with
 |none=>ν
 |some (n,s)=>
  if n<0 then match s.shared[(-n-1).toNat]? with
   |none=>ν
   |some (z,l)=>if z=sizes then σ (l,s)else ν
  else cK (dR sizes) n.toNat [] (a8 (decide (16384<min (s.told+n) av)) {s with told:=min (s.told+n) av})
def ds(sizes:Λ):Bool:=decide (4096<aK (sizes.map λk=>min k 4097))
structure cm where
 scope:Λ
 sizes:Λ
 other:Int
 lines:List (Λ×Int)
deriving DecidableEq
def c6(all:Λ)(s:aD):Option (cm×aD):=match bc (-av) av s with
 |none=>ν
 |some (a,s)=>match e5 all.length a.natAbs s with
  |none=>ν
  |some (scope,s)=>
   let sizes:=scope.map λv=>all.getD v.toNat 0
   match bc 0 av (a8 (decide (6<a.natAbs)||ds sizes) s)with
   |none=>ν
   |some (other,s)=>match dS sizes s with
    |none=>ν
    |some (lines,s)=>σ (⟨scope,sizes,other,lines⟩,if a<0 then{s with shared:=s.shared++[(sizes,lines)]}else s)
def fQ(most:Int)(_:Λ)(s:aD):Option (Int×aD):=match bc 1 most s with
 |none=>ν
 |some (z,s)=>σ (z,a8 (decide (32<z)) s)
structure b2 where
 name:Λ
 k:Int
 sizes:Λ
 funs:List cm
deriving DecidableEq
def hW(s:aD):Option (b2×aD):=match dQ s with
 |none=>ν
 |some (name,s)=>match bc 1 av (a8 (decide (64<name.length)) s)with
  |none=>ν
  |some (n,s)=>match bc 1 av (a8 (decide (64<n)) s)with
   |none=>ν
   |some (most,s)=>match bc 0 av s with
    |none=>ν
    |some (a,s)=>match bc 1 av (a8 (decide (256<a)) s)with
     |none=>ν
     |some (k,s)=>match cK (fQ most) n.toNat [] (a8 (decide (2147483648<k)) s)with
      |none=>ν
      |some (sizes,s)=>match cK (λ_ s=>c6 sizes s) a.toNat [] s with
       |none=>ν
       |some (funs,s)=>σ (⟨name,k,sizes,funs⟩,s)
def gp(p:Λ):Option b2:=if 65536<p.length then ν else match hW ⟨(lex p).1,0,false,[]⟩with
 |none=>ν
 |some (f,s)=>if s.toks=[]/\(lex p).2=true/\s.big=false then σ f else ν
def mw(n:Int)(a:Bool)(v:Int):Prop:=0<=n/\n<=4611686018427387909/\(a=true->v=av)/\(a=false->v=min av n)
theorem I9{n b v:Int}{a:Bool}(h:mw n a v)(q:48<=b/\b<=57):
  mw (if a=true\/461168601842738790<n then n else 10*n+(b-48)) (a||decide (461168601842738790<n)) (e4 v b):=by
 obtain⟨h1,f,j,p⟩:=h;unfold e4 mw av at*;cases a with
 |true=>
  have:=j rfl;rw[if_pos (.inl rfl)];exact⟨h1,f,λ_=>Ω,λh=>by cases h⟩
 |false=>
  have:=p rfl;by_cases e:461168601842738790<n
  .rw[if_pos (.inr e),decide_eq_true e];exact⟨h1,f,λ_=>Ω,λh=>by cases h⟩
  .rw[if_neg (by simp[e]),decide_eq_false e];exact⟨Ω,Ω,(λh=>by cases h),λ_=>Ω⟩
theorem Ja:mw 0 false 0:=by unfold mw av;exact⟨Ω,Ω,(λh=>by cases h),λ_=>Ω⟩
theorem Jb{n v:Int}{a:Bool}(h:mw n a v):v=if a=true\/4611686018427387904<n then 4611686018427387904 else n:=by
 obtain⟨h1,p,f,j⟩:=h;unfold av at*;cases a with
 |true=>rw[if_pos (.inl rfl)];exact f rfl
 |false=>
  have:=j rfl;by_cases e:4611686018427387904<n
  .rw[if_pos (.inr e)];omega
  .rw[if_neg (by simp[e])];omega
end Go.Proofs.YtikkpokkcdocoaaGreatDoor
