/- own texts, made small by a tool (wip/ holds them as they were written): no statement of the seat. -/
import Derived.RangeFuncNested
import Derived.RangeFuncLeaves
import Derived.OrdersIn
import Derived.KernelRfl
import Derived.Deep.Upon
import Derived.RangeFuncBound
import Derived.Deep.MidRow
import Derived.Laws.Cover3
import Derived.Laws.Pointers
import Derived.Laws.StructEq
import Derived.Laws.Tables
import Derived.Below
import Derived.Laws.MakeOwn
import Derived.Lib.Overlaps
import Derived.Lib.AppendZerosOnto
import Derived.Lib.SliceRun
import Derived.OpenShut
import Derived.Lib.ConvBytes
import Derived.Laws.BytesArg
import Derived.Laws.Concat
import Derived.MapKept
import Derived.Carry
import Derived.WideKeyArr
import Derived.WideKeyMaps
import Derived.Laws.IdiomRangeMap
import Derived.Shelf.SlSortCmp.NoneTotal
import Derived.Shelf.SlSortCmp.WholeK
import Derived.Ground.SlsfProg
import Derived.WideKeyEntry
import Derived.WalkKit
import Derived.Test.YtikkpokkcdocoaaGreatDoorProg
import Derived.Test.YtikkpokkcdocoaaGreatDoorChecked
set_option linter.unusedVariables false
set_option linter.unusedSimpArgs false
set_option linter.unnecessarySimpa false
open Array renaming getElem?_eq_some_iff→j5,getElem?_toList→R3
open BitVec renaming ofInt→T4
open Bool renaming not_true→X3,not_false→W3,eq_iff_iff→V7,and_eq_true→U3,or_eq_false_iff→U7
open Decidable renaming not_not→X4
open Go renaming Value→x3,World→x4,TypeId→r9,IntKind→n9,Builtin→Z5,Program→V1,Oper→T5,Operand→S8,FuncId→Q2
open Go.Addr renaming add_mid→T7
open Go.Builtin renaming append_→Z3,len_→W9
open Go.Instr renaming loadAt→u5,fieldAt→u6,storeAt→o9,indexAt→j9,extract→Y1,buildSlice→Y8,sliceAt→U1
open Go.IntKind renaming i64→X9,u64→T3
open Go.Proofs.Tryz renaming prog→x8
open Go.Result renaming andThen→V0
open Go.Sem renaming run_bind→W8,run_pure→V6
open Go.Sort renaming Holds→S9
open Go.Value renaming int→V8
open Go.World renaming putObj_heap_other→Q3
open Int renaming toNat_natCast→r8,eq_ofNat_of_zero_le→U9
open List renaming getElem?_eq_some_iff→x5,mem_of_getElem?→x6,getElem?_eq_getElem→x7,getElem?_map→v8,getD_eq_getElem?_getD→u4,length_map→u7,take_add_one→u9,length_append→o4,replicate→o5,length_take→o7,take_length→o8,mem_map→l9,mem_append→j0,take_of_length_le→j4,mem_singleton→j6,eq_nil_of_length_eq_zero→c9,getElem?_set_self→b8,length_cons→Z2,map_append→Z4,length_set→Z9,getElem?_take_of_lt→Y0,getElem?_eq_none→Y2,getElem?_append_left→Y3,getElem?_set_ne→Y4,getElem?_append_right→Y5,append_assoc→Y6,ext_getElem?→Y9,getElem?_set→X1,drop_eq_getElem_cons→W0,range→W5,mem_or_eq_of_mem_set→W7,length_eq_one_iff→V2,append_nil→V3,mem_cons→V4,mem_of_mem_take→U6,map_set→U8,map_cons→T0,foldl_cons→S0,set_append_right→S1,getElem_mem→S4,getElem?_drop→S5,map_map→R6
open Nat renaming le_refl→o6,le_trans→Y7,mul_le_mul_right→X0,zero_add→X6,zero_le→X8,mul_one→U4,add_mul→U5,sub_self→T2,lt_of_lt_of_le→T8,beq→S2,add_assoc→R7,eq_zero_or_pos→Q5
open Ne renaming symm→R2
open Option renaming toList_some→l7,some→b9,isNone_some→Z6,map_some→Z7,getD_some→V5,map→U2
open Option.some renaming inj→Z0,injEq→X7
open Prod.mk renaming injEq→S3
set_option maxHeartbeats 16000000
open Option renaming some→σ,none→ν
abbrev Λ:=List Int
namespace Go
theorem Ω{p:Prop}(h:p:=by omega):p:=h
theorem Ψ{p:Prop}(h:p:=by kernel_rfl):p:=h
theorem Φ{p:Prop}(h:p:=by decide):p:=h
theorem Ξ{p:Prop}(h:p:=by simp):p:=h
theorem Θ{p:Prop}(h:p:=by simp;omega):p:=h
abbrev Γ(n:Nat):Value:=.pointer (some ⟨n,0,none⟩)
abbrev Δ:Int→Value:=Value.int .i64
end Go
variable{a y:Int}{N c h j n off:Nat}{w w':x4}{S:Nat->Prop}{aO s1 sv v z:x3}{args cs vs xs:List x3}{K:x3->Prop}{ag l:Λ}{D:List Nat}{f k:n9}{e t:r9}{cx cy:Bool}
namespace Go.Vc
open Go Go.RowKit
def fz:Obj->Bool
 | .loop _=>false
 | .deferred _=>false
 | .mapIter ..=>false
 |_=>true
def book:Obj->Bool
 | .loop _=>true
 | .deferred _=>true
 |_=>false
theorem xM{o:Obj}(h:book o=true):fz o=false:=by cases o<;>first|rfl|cases h
def rq:Obj->Bool
 | .mapIter ..=>true
 |_=>false
theorem E4{o:Obj}(h:rq o=true):fz o=false:=by cases o<;>first|rfl|cases h
structure Ext(w w':x4):Prop where
 size:w.heap.size<=w'.heap.size
 aV:∀(r:Nat)(o:Obj),w.heap[r]?=σ o->fz o=true->w'.heap[r]?=σ o
theorem Ext.refl(w:x4):Ext w w:=⟨o6 _,λ_ _ h _=>h⟩
theorem Ext.trans{a b c:x4}(h:Ext a b)(k:Ext b c):Ext a c:=
 ⟨Y7 h.size k.size,λr o e I=>k.aV r o (h.aV r o e I) I⟩
structure ae(S:Nat->Prop)(w w':x4):Prop where
 size:w.heap.size<=w'.heap.size
 aV:∀(r:Nat)(o:Obj),w.heap[r]?=σ o->fz o=true->¬S r->w'.heap[r]?=σ o
theorem Ext.aa(S:Nat->Prop)(h:Ext w w'):ae S w w':=⟨h.size,λr o a I _=>h.aV r o a I⟩
theorem ae.ext(h:ae S w w')(e:∀r,r<w.heap.size->¬S r):Ext w w':=
 ⟨h.size,λr o a I=>h.aV r o a I (e r (j5.1 a).1)⟩
theorem ae.refl(S:Nat->Prop)(w:x4):ae S w w:=⟨o6 _,λ_ _ h _ _=>h⟩
theorem ae.trans{a b c:x4}(h:ae S a b)(k:ae S b c):ae S a c:=
 ⟨Y7 h.size k.size,λr o f I e=>k.aV r o (h.aV r o f I e) I e⟩
theorem ae.mono{T:Nat->Prop}{a b:x4}(h:ae S a b)(f:∀r,r<a.heap.size->S r->T r):ae T a b:=
 ⟨h.size,λr o e I j=>h.aV r o e I λp=>j (f r (j5.1 e).1 p)⟩
theorem Ext.then{a b c:x4}(h:Ext a b)(k:ae S b c)(f:∀r,r<a.heap.size->¬S r):Ext a c:=
 ⟨Y7 h.size k.size,λr o e I=>k.aV r o (h.aV r o e I) I (f r (j5.1 e).1)⟩
def jB(w w':x4):Prop:=w'.tape=w.tape/\w.drawn<=w'.drawn
theorem jB.ke(h:w'.tape=w.tape:=by rfl)(k:w'.drawn=w.drawn:=by rfl):jB w w':=⟨h,Nat.le_of_eq k.symm⟩
theorem jB.trans{a b c:x4}(k:jB b c)(h:jB a b):jB a c:=⟨k.1.trans h.1,Y7 h.2 k.2⟩
structure cL(w w':x4):Prop where
 os:w'.os=w.os
 tape:jB w w'
 output:w'.output=w.output
 size:w.heap.size<=w'.heap.size
 aV:∀(r:Nat)(o:Obj),w.heap[r]?=σ o->fz o=false->w'.heap[r]?=σ o
structure cC(n:Nat)(w w':x4):Prop where
 os:w'.os=w.os
 tape:jB w w'
 output:w'.output=w.output
 size:w.heap.size<=w'.heap.size
 aV:∀(r:Nat)(o:Obj),w.heap[r]?=σ o->book o=true->w'.heap[r]?=σ o
 old:∀(r:Nat)(o:Obj),r<n->w.heap[r]?=σ o->fz o=false->w'.heap[r]?=σ o
theorem cL.b(h:cL w w'):cC n w w':=⟨h.os,h.tape,h.output,h.size,λr o a I=>h.aV r o a (xM I),λr o _ a I=>h.aV r o a I⟩
theorem cC.refl(n:Nat)(w:x4):cC n w w:=⟨rfl,.ke,rfl,o6 _,λ_ _ h _=>h,λ_ _ _ h _=>h⟩
theorem cC.trans{a b c:x4}(h:cC n a b)(k:cC n b c):cC n a c:=
 ⟨k.os.trans h.os,k.tape.trans h.tape,k.output.trans h.output,Y7 h.size k.size,λr o e I=>k.aV r o (h.aV r o e I) I,λr o f e I=>k.old r o f (h.old r o f e I) I⟩
theorem cC.cr(h:cC n w w')(e:w.heap.size<=n):cL w w':=
 ⟨h.os,h.tape,h.output,h.size,λr o a I=>h.old r o (T8 (j5.1 a).1 e) a I⟩
structure fA(n:Nat)(w w':x4):Prop where
 os:w'.os=w.os
 tape:jB w w'
 output:w'.output=w.output
 size:w.heap.size<=w'.heap.size
 old:∀(r:Nat)(o:Obj),r<n->w.heap[r]?=σ o->fz o=false->w'.heap[r]?=σ o
theorem cC.o(h:cC n w w'):fA n w w':=⟨h.os,h.tape,h.output,h.size,h.old⟩
theorem cL.o(h:cL w w'):fA n w w':=⟨h.os,h.tape,h.output,h.size,λr o _ a I=>h.aV r o a I⟩
theorem fA.mono{m:Nat}(h:fA n w w')(hm:m<=n):fA m w w':=⟨h.os,h.tape,h.output,h.size,λr o a=>h.old r o (T8 a hm)⟩
theorem cC.xN{m:Nat}{a b c:x4}(h:cC n a b)(k:fA m b c)(hm:a.heap.size<=m):cC n a c:=
 ⟨k.os.trans h.os,k.tape.trans h.tape,k.output.trans h.output,Y7 h.size k.size,
  λr o e I=>k.old r o (T8 (j5.1 e).1 hm) (h.aV r o e I) (xM I),
  λr o f e I=>k.old r o (T8 (j5.1 e).1 hm) (h.old r o f e I) I⟩
def e0(w w':x4):Prop:=∀(r:Nat)(o:Obj),w.heap[r]?=σ o->rq o=true->w'.heap[r]?=σ o
theorem e0.refl(w:x4):e0 w w:=λ_ _ h _=>h
theorem e0.trans{a b c:x4}(h:e0 a b)(k:e0 b c):e0 a c:=λr o e I=>k r o (h r o e I) I
theorem cL.kf(h:cL w w'):e0 w w':=λr o a I=>h.aV r o a (E4 I)
abbrev fB:=Bool×Nat
theorem cL.refl(w:x4):cL w w:=⟨rfl,.ke,rfl,o6 _,λ_ _ h _=>h⟩
theorem cL.trans{a b c:x4}(h:cL a b)(k:cL b c):cL a c:=
 ⟨k.os.trans h.os,k.tape.trans h.tape,k.output.trans h.output,Y7 h.size k.size,λr o e I=>k.aV r o (h.aV r o e I) I⟩
theorem rr(w:x4)(n:Nat):Ext w {w with drawn:=n}:=⟨o6 _,λ_ _ h _=>h⟩
theorem pK(w:x4)(n:Nat)(h:w.drawn<=n):cL w {w with drawn:=n}:=⟨rfl,⟨rfl,h⟩,rfl,o6 _,λ_ _ h _=>h⟩
theorem pL(w:x4)(o:Obj):Ext w {w with heap:=w.heap.push o}:=
 ⟨Ξ,λr o' h _=>by
  have a:=(j5.1 h).1;simp only[Array.getElem?_push];rw[if_neg Ω];exact h⟩
theorem pM(w:x4)(o:Obj):cL w {w with heap:=w.heap.push o}:=
 ⟨rfl,.ke,rfl,Ξ,λr o' h _=>by
  have a:=(j5.1 h).1;simp only[Array.getElem?_push];rw[if_neg Ω];exact h⟩
inductive eC where
 |v (x:x3)
 |b (c:Bool)
 |u
def eC.val:eC->x3
 | .v x=>x
 | .b c=>.bool c
 | .u=>undef
def eC.ofConst:x3->eC
 | .bool c=>.b c
 |x=>.v x
theorem eC.E5(x:x3):(eC.ofConst x).val=x:=by cases x<;>rfl
abbrev Env:=List (Nat×eC)
def look:Env->Nat->Option eC
 |[],_=>ν
 |(s,x)::r,t=>bif S2 s t then σ x else look r t
def eI(e:Env):S8->Option eC
 | .tmp t=>look e t
 | .const x=>σ (eC.ofConst x)
 | .global g=>σ (.v (Γ g))
 | .func f=>σ (.v (.func (.func f) #[] #[]))
def cV(e:Env)(x:S8):x3:=
 match eI e x with
 |some y=>y.val
 |none=>undef
def known(e:Env):List S8->Bool
 |[]=>true
 |x::r=>(eI e x).isSome&&known e r
def S9(N:Nat)(e:Env)(a:Act):Prop:=
 a.tmps.size=N/\∀t x,look e t=σ x->a.tmps.getD t undef=x.val
theorem S9.eI{e:Env}{a:Act}(h:S9 N e a){x:S8}{y:eC}(j:Vc.eI e x=σ y):a.eval x=y.val:=by
 cases x with
 |tmp t=>exact h.2 t y j
 |const v=>simp[Vc.eI]at j;subst j;simp[Act.eval,eC.E5]
 |global g=>simp[Vc.eI]at j;subst j;rfl
 |func f=>simp[Vc.eI]at j;subst j;rfl
theorem S9.eval{e:Env}{a:Act}(h:S9 N e a){x:S8}(j:(Vc.eI e x).isSome=true):a.eval x=cV e x:=by
 obtain⟨y,f⟩:=Option.isSome_iff_exists.1 j;rw[h.eI f];simp[cV,f]
theorem uc{e:Env}:∀{l:List S8},known e l=true->∀x∈l,(eI e x).isSome=true
 |[],_,_,a=>by cases a
 |y::r,h,x,a=>by
  simp only[known,U3]at h;cases a with
  |head=>exact h.1
  |tail _ a=>exact uc h.2 x a
def eb(e:Env)(d:Option Tmp)(x:eC):Env:=
 match d with
 |some t=>(t,x)::e
 |none=>e
def jC(N:Nat)(d:Option Tmp):Bool:=
 match d with
 |some t=>Nat.blt t N
 |none=>true
theorem S9.put{e:Env}{a:Act}(h:S9 N e a){d:Option Tmp}(p:jC N d=true){x:eC}(q:x.val=v):
  S9 N (eb e d x) (a.put d v):=by
 cases d with
 |none=>exact h
 |some t=>
  have r:t<N:=by simpa[jC,Nat.blt_eq]using p
  refine⟨by simp[Act.put,h.1],λs y I=>?_⟩;simp only[eb,look]at I;cases f:S2 t s with
  |true=>
   have j:t=s:=Nat.eq_of_beq_eq_true f;subst j;simp only[f,cond_true,X7]at I;subst I;simp[Act.put,h.1,r,q]
  |false=>
   have j:t≠s:=Nat.ne_of_beq_eq_false f;simp only[f,cond_false]at I;have:=h.2 s y I;simp only[Act.put,Array.getD_eq_getD_getElem?]at this ⊢;rw[Array.getElem?_setIfInBounds_ne j];exact this
def ey(r:Option Nat):Fence:={Fence.wide with round:=r}
theorem ud(r:Option Nat)(n:Nat):(ey r).depth.isSome=true->1<=n:=λh=>by simp[ey,Fence.wide]at h
theorem xO{r:Option Nat}{P:V1}{f:Q2}{args:Array x3}{R:Ending->x4->Prop}(h:Calls P f args w R):CallsIn (ey r) n P f args w R:=by
 have:=(callsIn_wide (n:=n)).2 h;exact this
section
variable(P:V1)
def aB{α:Type}(s:Sem α)(w:x4)(K:α->x4->Prop):Prop:=∃v w',s.run P w= .ok v w'/\cL w w'/\K v w'
def rt{α:Type}(free:fB)(s:Sem α)(w:x4)(K:α->x4->Prop):Prop:=∃v w',s.run P w= .ok v w'/\(free.1=false->cC free.2 w w')/\K v w'
def Split(x:x3)(A B:Prop):Prop:=∃c,x= .bool c/\(c=true->A)/\(c=false->B)
def aZ:Bool->S8
 |true=>.const (.bool true)
 |false=>.tmp 0
def oA:S8->Bool
 | .const _=>true
 |_=>false
theorem E6(op:BinOp)(t:r9)(x y:S8)(a b:x3):eqGuard op t x y a b=eqGuard op t (aZ (oA x)) (aZ (oA y)) a b:=by
 cases x<;>cases y<;>rfl
def aJ(op:BinOp)(t:r9)(cx cy:Bool)(a b:x3):Sem x3:=do eqGuard op t (aZ cx) (aZ cy) a b;binOp op t a b
def ru(s:Sem Next):Sem x3:=do
 match <-s with
 | .value v=>pure v
 |_=>stuck "no value"
def bP(x:x3):Sem x3:=ru (execOp (λ_=>x) {dst:=ν,op:=.nilCheck (.tmp 0),type:=0,pos:= "",after:=#[],guard:=ν})
def bV(a:S8->x3):List S8->List x3
 |[]=>[]
 |x::r=>a x::bV a r
theorem rv(a:S8->x3):∀l,bV a l=l.map a
 |[]=>rfl
 |x::r=>by simp[bV,rv a r]
theorem ue(a:S8->x3)(l:Array S8):(bV a l.toList).toArray=l.map a:=by
 apply Array.toList_inj.1;simp[rv]
def partsOf(a:S8->x3):List (Nat×S8)->List (Nat×x3)
 |[]=>[]
 |x::r=>(x.1,a x.2)::partsOf a r
theorem xP(a:S8->x3):∀l,partsOf a l=l.map λ(i,x)=>(i,a x)
 |[]=>rfl
 |x::r=>by simp[partsOf,xP a r]
theorem E7(a:S8->x3)(l:Array (Nat×S8)):(partsOf a l.toList).toArray=l.map λ(i,x)=>(i,a x):=by
 apply Array.toList_inj.1;simp[xP]
def opsOf:Op->List S8
 | .alloc _| .ready _| .waits _=>[]
 | .move x| .assign x| .box _ x| .load _ x| .nilCheck x| .unOp _ _ x| .convert _ _ x| .sliceToArrayPointer _ x| .makeInterface _ x
 | .makeChan _ x| .fieldAddr _ x _| .field _ x _| .range _ x| .next x _| .entry x| .typeAssert x _ _ _| .extract x _| .panic x| .recv _ x _=>[x]
 | .pick c a b=>[c,a,b]
 | .build _ e| .buildSlice _ _ e=>e.toList.map (·.2)
 | .store _ a v| .binOp _ _ a v _| .makeSlice _ a v| .indexAddr _ a v| .index _ a v| .lookup _ a v _| .mapEntry _ a v| .send a v=>[a,v]
 | .makeFunc _ first j=>first.toList++j.toList
 | .makeMap _ r=>match r with
  |some x=>[x]
  |none=>[]
 | .slice _ x l h m=>x::((match l with
  |some y=>[y]
  |none=>[])++((match h with
  |some y=>[y]
  |none=>[])++(match m with
  |some y=>[y]
  |none=>[])))
 | .mapUpdate _ m k v| .entryStore _ m k v| .insert _ m k v=>[m,k,v]
 | .call c=>match c.callee with
  | .value f=>f::c.args.toList
  | .invoke r _=>r::c.args.toList
  | .builtin _=>c.args.toList
 | .go _| .defer _| .select ..=>[]
theorem E8{op:Op}(h1:∀c,op≠ .go c)(e:∀c,op≠ .defer c)(f:∀cs b,op≠ .select cs b):∀x∈op.operands,x∈opsOf op:=by
 intro x a;cases op<;>simp only[Op.operands,opsOf]at a ⊢<;>try (first|(simp at a;done)|(simp at a ⊢;exact a))
 case go c=>exact absurd rfl (h1 c)
 case defer c=>exact absurd rfl (e c)
 case select cs b=>exact absurd rfl (f cs b)
 case makeMap t r=>cases r<;>simp at a ⊢<;>exact a
 case slice t y l h m=>cases l<;>cases h<;>cases m<;>simpa[or_assoc]using a
 case call c=>cases j:c.callee<;>simpa[Call.operands,j]using a
def pN(e:S8->x3):Op->Option (Sem x3)
 | .pick c a b=>σ (do pure (if <-asBool (e c)then e a else e b))
 | .alloc j=>σ (Instr.alloc j true (.tuple #[]))
 | .box j x=>σ (Instr.box j (e x))
 | .build t parts=>σ (Instr.build t (partsOf e parts.toList).toArray)
 | .buildSlice t len parts=>σ (Y8 t len (partsOf e parts.toList).toArray)
 | .load t a=>σ (u5 t (e a))
 | .nilCheck x=>σ (bP (e x))
 | .binOp op ie x y _=>σ (aJ op ie (oA x) (oA y) (e x) (e y))
 | .unOp op _ x=>σ (Op.unary op (e x))
 | .convert src dst x=>σ (convert src dst (e x))
 | .makeInterface ie x=>σ (Instr.makeInterface ie (e x))
 | .makeFunc fn first p=>σ (Instr.makeFunc fn (bV e first.toList).toArray (bV e p.toList).toArray)
 | .makeMap t r=>σ (Instr.makeMap t (r.map e))
 | .makeSlice t l c=>σ (Instr.makeSlice t (e l) (e c))
 | .slice t x lo hi mx=>σ (U1 t (e x) (lo.map e) (hi.map e) (mx.map e))
 | .fieldAddr s x f=>σ (u6 s (e x) f)
 | .field ie x f=>σ (Instr.field ie (e x) f)
 | .indexAddr t x h=>σ (j9 t (e x) (e h))
 | .index ie x h=>σ (Instr.index ie (e x) (e h))
 | .lookup ie x h ok=>σ (Instr.lookup ie (e x) (e h) ok)
 | .mapEntry t m k=>σ (Instr.mapEntry t (e m) (e k))
 | .range ie x=>σ (Instr.range ie (e x))
 | .entry q=>σ (Instr.entry (e q))
 | .typeAssert x ie w ok=>σ (Instr.typeAssert (e x) ie w ok)
 | .extract t h=>σ (Y1 (e t) h)
 |_=>ν
def uf(e:S8->x3):Op->Option (Sem Unit)
 | .store t a x=>σ (o9 t (e a) (e x))
 | .mapUpdate t m k x=>σ (Instr.mapUpdate t (e m) (e k) (e x))
 | .insert t m k x=>σ (Instr.mapUpdate t (e m) (e k) (e x))
 | .entryStore t m s x=>σ (Instr.entryStore t (e m) (e s) (e x))
 |_=>ν
def oB(b:Z5)(ats:Array r9)(a:r9)(args:Array x3):Option (Sem x3):=
 match b with
 | .append=>σ (Z3 ats a args)
 | .cap=>σ (Z5.cap_ ats a args)
 | .clear=>σ (Z5.clear_ ats a args)
 | .copy=>σ (Z5.copy_ ats a args)
 | .delete=>σ (Z5.delete_ ats a args)
 | .len=>σ (W9 ats a args)
 | .max=>σ (Z5.max_ ats a args)
 | .min=>σ (Z5.min_ ats a args)
 |_=>ν
theorem E9{s:Sem Next}(h:(ru s).run P w= .ok v w'):s.run P w= .ok (.value v) w':=by
 unfold ru at h;rw[W8]at h;cases I:s.run P w with
 |halt x J=>rw[I]at h;simp[V0]at h
 |ok x J=>
  rw[I]at h;cases x<;>simp_all [V0,stuck,V6]
theorem Fa(x:x3)(b:Bool)(t:r9):Instr.next x b 0=Instr.next x b t:=rfl
theorem ug{f:S8->x3}{o:T5}{s:Sem x3}(h:pN f o.op=σ s)(a:s.run P w= .ok v w'):
  (execOp f o).run P w= .ok (.value v) w':=by
 cases e:o.op with
 |nilCheck x=>
  rw[e]at h;cases h;have:=E9 P a;unfold execOp at this ⊢;simpa[e]using this
 |pick c x y=>
  rw[e]at h;cases h;unfold execOp;simp only[e,W8,V6]at a ⊢;cases j:(asBool (f c)).run P w with
  |halt x J=>rw[j]at a;simp[V0]at a
  |ok x J=>rw[j]at a;simp only[V0,Result.ok.injEq]at a ⊢;simp[a]
 |binOp op ie x y p=>
  rw[e]at h;cases h;unfold execOp;simp only[e];unfold aJ at a;rw[<-E6]at a;simp only[W8,V6]at a ⊢;rw[a];rfl
 |_=>
  rw[e]at h
  first
   |(cases h;done)
   |(cases h;simp only[ue,E7]at a;unfold execOp;simp only[e,W8,a,V0,V6])
   |(cases h;unfold execOp;simp only[e,W8,a,V0,V6])
theorem Fb{a:S8->x3}{o:T5}{s:Sem Unit}(h:uf a o.op=σ s){v:Unit}(f:s.run P w= .ok v w'):
  (execOp a o).run P w= .ok .skip w':=by
 cases e:o.op with
 |_=>
  rw[e]at h
  first
   |(cases h;done)
   |(cases h;unfold execOp;simp only[e,W8,f,V0,V6])
def Enters(f:Q2):Prop:=∀args w,(callFunc f args).run P w= .ok (.enter f args) w
inductive ai(f:Q2)(args:List x3)(w:x4)(K:x3->x4->Prop):Prop
 |code (h1:Enters P f) (h2:Calls P f args.toArray w λe w'=>∃v,e= .returned v/\cL w w'/\K v w')
 |ext (v:x3) (w':x4) (h1:(callFunc f args.toArray).run P w= .ok (.value v) w') (h2:cL w w') (h3:K v w')
inductive gH(f:Q2)(args:List x3)(w:x4)(K:x3->x4->Prop):Prop
 |code (h1:Enters P f) (h2:Calls P f args.toArray w λe w'=>∃v,e= .returned v/\K v w')
 |ext (v:x3) (w':x4) (h1:(callFunc f args.toArray).run P w= .ok (.value v) w') (h3:K v w')
theorem gH.calls{f:Q2}{K:x3->x4->Prop}(h:gH P f args w K)(a:Enters P f):Calls P f args.toArray w λe w'=>∃v,e= .returned v/\K v w':=by
 cases h with
 |code _ h=>exact h
 |ext v w' h1=>rw[a]at h1;cases h1
def hR(l:Nat)(args:List x3)(w:x4)(K:x3->x4->Prop):Prop:=
 YieldAt Fence.wide 0 P l args.toArray w λe w'=>∃v,e= .returned v/\K v w'
theorem hR.mono{P:V1}{l:Nat}{K a:x3->x4->Prop}(h:hR P l args w K)(e:∀v w',K v w'->a v w'):hR P l args w a:=by
 obtain⟨fn,tmps,f,body,j,p⟩:=h;exact⟨fn,tmps,f,body,j,RoundIn.mono p λ_ w' ⟨v,h1,q⟩=>⟨v,h1,e v w' q⟩⟩
def rx(free:Bool)(f:x3)(args:List x3)(w:x4)(K:x3->x4->Prop):Prop:=
 match f with
 | .func (.func g) first cap=>bif free then gH P g (first.toList++args++cap.toList) w K else ai P g (first.toList++args++cap.toList) w K
 | .func (.yield l) first _=>bif free then free=true/\hR P l (first.toList++args) w K else hR P l (first.toList++args) w λv w'=>cL w w'/\K v w'
 |_=>False
def V(s:Sem x3)(w:x4)(K:x3->Prop):Prop:=∃v,(∀w',Ext w w'->s.run P w'= .ok v w')/\K v
def Fc:List (Nat×Nat):=[(9,22),(22,22)]
def Fe(s d:Nat):Bool:=Fc.any λp=>S2 p.1 s&&S2 p.2 d
def jf(o:T5):Bool:=
 match o.op with
 | .convert s d _=>!Fe s d
 | .move _| .assign _| .pick .. | .load .. | .nilCheck _| .binOp .. | .unOp .. | .makeInterface .. | .makeFunc .. | .slice .. | .fieldAddr .. | .field ..
 | .indexAddr .. | .index .. | .lookup .. | .extract .. | .build .. | .typeAssert ..=>true
 | .call c=>
  match c.callee with
  | .builtin .len| .builtin .cap| .builtin .min| .builtin .max=>true
  |_=>false
 |_=>false
def bZ(s:Sem x3)(v:x3)(w':x4):Prop:=∀a,Ext w' a->s.run P a= .ok v a
def lF(o:T5)(e:Env)(w:x4)(K:Env->(x4->Prop)->Prop):Prop:=
 bif known e (opsOf o.op)then
  match o.op with
  | .move x| .assign x=>
   match eI e x with
   |some y=>K (eb e o.dst y) (λ_=>True)
   |none=>False
  | .pick c a b=>
   match eI e c with
   |some (.b true)=>(match eI e a with|some y=>K (eb e o.dst y) (λ_=>True)|none=>False)
   |some (.b false)=>(match eI e b with|some y=>K (eb e o.dst y) (λ_=>True)|none=>False)
   |some (.v x)=>Split x (K (eb e o.dst (.v (cV e a))) (λ_=>True)) (K (eb e o.dst (.v (cV e b))) (λ_=>True))
   |some .u=>False
   |none=>False
  | .call c=>
   match c.callee with
   | .builtin b=>
    match oB b c.argTypes o.type (bV (cV e) c.args.toList).toArray with
    |some s=>V P s w λv=>K (eb e o.dst (.v v)) (bZ P s v)
    |none=>False
   |_=>False
  |op=>
   match pN (cV e) op with
   |some s=>V P s w λv=>K (eb e o.dst (.v v)) (bZ P s v)
   |none=>False
 else False
def uh(free:fB)(o:T5)(e:Env)(w:x4)(K:Env->x4->Prop):Prop:=
 bif known e (opsOf o.op)then
  match o.op with
  | .call c=>
   match c.callee with
   | .builtin b=>
    match oB b c.argTypes o.type (bV (cV e) c.args.toList).toArray with
    |some s=>aB P s w λv w'=>K (eb e o.dst (.v v)) w'
    |none=>False
   | .value (.func f)=>
    bif free.1 then gH P f (bV (cV e) c.args.toList) w λv w'=>K (eb e o.dst (.v v)) w'
    else ai P f (bV (cV e) c.args.toList) w λv w'=>K (eb e o.dst (.v v)) w'
   | .value x=>rx P free.1 (cV e x) (bV (cV e) c.args.toList) w λv w'=>K (eb e o.dst (.v v)) w'
   | .invoke _ _=>False
  | .next x str=>rt P free (Instr.next (cV e x) str 0) w λv w'=>K (eb e o.dst (.v v)) w'
  |op=>
   match pN (cV e) op with
   |some s=>aB P s w λv w'=>K (eb e o.dst (.v v)) w'
   |none=>
    match uf (cV e) op with
    |some s=>aB P s w λ_ w'=>K (eb e o.dst (.v undef)) w'
    |none=>False
 else False
def oC(free:fB)(o:T5)(e:Env)(w:x4)(K:Env->x4->Prop):Prop:=
 bif jf o then lF P o e w (λa _=>K a w)else uh P free o e w K
theorem Enters.of{f:Q2}{fn:Func}{c:Code}(a:P.funcs[f]?=σ fn)(e:fn.body=σ c)(h:(fn.name == "runtime.NumGoroutine")=false):Enters P f:=by
 intro args w;have j:fn.name≠ "runtime.NumGoroutine":=by simpa using h
 unfold callFunc;simp[W8,program,Sem.run,V0,a,j,e,V6]
variable{P}
variable{N:Nat}{r:Option Nat}{o:T5}{e:Env}{a:Act}{w:x4}
theorem kg(f:S9 N e a)(hk:known e (opsOf o.op)=true)(I:∀cs b,o.op≠ .select cs b)(h:∀c,o.op≠ .go c:=by simp_all)(j:∀c,o.op≠ .defer c:=by simp_all):
  execOp a.eval o=execOp (cV e) o:=
 execOp_congr o I λx p=>f.eval (uc hk x (E8 h j I x p))
theorem pO{next:Act->x4->Prop}{Q:Exit->Act->x4->Prop}(j:S9 N e a)(hk:known e (opsOf o.op)=true)(I:∀cs b,o.op≠ .select cs b)(f:∀c,o.op≠ .defer c){v:x3}{w':x4}(p:(execOp (cV e) o).run P w= .ok (.value v) w')(h:next (a.put o.dst v) w')(q:∀c,o.op≠ .go c:=by simp_all):o.wpIn (ey r) 0 P a w next Q:=by
 refine⟨λ_ _=>trivial,?_⟩;rw[T5.semAt_eq _ _ _ f,kg j hk I q f,p,T5.uponIn_value];exact h
theorem Ff{next:Act->x4->Prop}{Q:Exit->Act->x4->Prop}(j:S9 N e a)(hk:known e (opsOf o.op)=true)(I:∀cs b,o.op≠ .select cs b)(f:∀c,o.op≠ .defer c){w':x4}(p:(execOp (cV e) o).run P w= .ok .skip w')(h:next (a.put o.dst undef) w')(q:∀c,o.op≠ .go c:=by simp_all):o.wpIn (ey r) 0 P a w next Q:=by
 refine⟨λ_ _=>trivial,?_⟩;rw[T5.semAt_eq _ _ _ f,kg j hk I q f,p,T5.uponIn_skip];exact h
def fl(N:Nat)(free:fB)(K:Env->x4->Prop)(o:T5)(a:Act)(w:x4)(a':Act)(w':x4):Prop:=
 ∃e v,K e w'/\S9 N e a'/\a'=a.put o.dst v/\(free.1=false->cC free.2 w w')
theorem fl.of{free:fB}{K:Env->x4->Prop}{x:eC}(f:K (eb e o.dst x) w')(h:S9 N e a)(j:jC N o.dst=true)(p:x.val=v)(q:free.1=false->cC free.2 w w'):fl N free K o a w (a.put o.dst v) w':=⟨_,v,f,h.put j p,rfl,q⟩
theorem xQ{free:fB}{K:Env->x4->Prop}{Q:Exit->Act->x4->Prop}{f:Q2}{args:Array x3}(p:S9 N e a)(q:jC N o.dst=true)(h:Calls P f args w λj w'=>∃v,j= .returned v/\(free.1=false->cC free.2 w w')/\K (eb e o.dst (.v v)) w'):
  o.uponIn (ey r) 0 P a (fl N free K o a w) Q (.ok (.enter f args) w):=by
 rw[T5.uponIn_enter];refine⟨ud _ _,CallsIn.mono (xO h) ?_⟩;rintro j w' ⟨v,rfl,s,x⟩;exact fl.of x p q rfl s
theorem lG{x:S8}{y:eC}(h:eI e x=σ y):cV e x=y.val:=by simp[cV,h]
theorem xR{l:List S8}{x:S8}(hk:known e l=true)(a:x∈l):∃y,eI e x=σ y:=Option.isSome_iff_exists.1 (uc hk x a)
theorem xS{K:Env->(x4->Prop)->Prop}(h:lF P o e w K)(A:S9 N e a)(L:jC N o.dst=true):
  ∃v,∃st:x4->Prop,(∀w',Ext w w'->(execOp a.eval o).run P w'= .ok (.value v) w')/\(∃B,K B st/\S9 N B (a.put o.dst v))/\(∀c,o.op≠ .defer c)/\
   (∀w',st w'->∀j,Ext w' j->(execOp a.eval o).run P j= .ok (.value v) j):=by
 unfold lF at h;cases hk:known e (opsOf o.op)with
 |false=>rw[hk]at h;exact h.elim
 |true=>
  rw[hk]at h;simp only[cond_true]at h;have put:∀{x:eC}{v:x3}{st:x4->Prop},K (eb e o.dst x) st->x.val=v->∃B,K B st/\S9 N B (a.put o.dst v):=λh1 C=>⟨_,h1,A.put L C⟩;cases f:o.op with
  |move x=>
   rw[f]at h;simp only at h;cases q:eI e x with
   |none=>rw[q]at h;exact h.elim
   |some y=>
    rw[q]at h;have all:∀w':x4,(execOp a.eval o).run P w'= .ok (.value y.val) w':=λw'=>by
     rw[kg A hk (by simp[f])];unfold execOp;simp only[f,V6,lG q]
    exact⟨y.val,_,λw' _=>all w',put h rfl,Ξ,λ_ _ j _=>all j⟩
  |assign x=>
   rw[f]at h;simp only at h;cases q:eI e x with
   |none=>rw[q]at h;exact h.elim
   |some y=>
    rw[q]at h;have all:∀w':x4,(execOp a.eval o).run P w'= .ok (.value y.val) w':=λw'=>by
     rw[kg A hk (by simp[f])];unfold execOp;simp only[f,V6,lG q]
    exact⟨y.val,_,λw' _=>all w',put h rfl,Ξ,λ_ _ j _=>all j⟩
  |pick c x y=>
   rw[f]at h;simp only at h;have F:=hk;rw[f]at F;obtain⟨R,q⟩:=xR F (x:=x) (by simp[opsOf]);obtain⟨S,J⟩:=xR F (x:=y) (by simp[opsOf]);have E:∀(t:Bool)(w':x4),cV e c= .bool t->(execOp a.eval o).run P w'= .ok (.value (if t=true then cV e x else cV e y)) w':=by
    intro t w' G;rw[kg A hk (by simp[f])];unfold execOp;simp[f,G,asBool,V6]
   cases p:eI e c with
   |none=>rw[p]at h;exact h.elim
   |some M=>
    rw[p]at h;cases M with
    |b t=>
     cases t with
     |true=>
      simp only[q]at h;exact⟨_,_,λw' _=>E true w' (lG p),put h (by simp[lG q]),Ξ,λ_ _ w' _=>E true w' (lG p)⟩
     |false=>
      simp only[J]at h;exact⟨_,_,λw' _=>E false w' (lG p),put h (by simp[lG J]),Ξ,λ_ _ w' _=>E false w' (lG p)⟩
    |v z=>
     obtain⟨t,O,G,Q⟩:=h;have r:=λw'=>E t w' (by rw[lG p];exact O);cases t with
     |true=>exact⟨_,_,λw' _=>r w',put (G rfl) rfl,Ξ,λ_ _ w' _=>r w'⟩
     |false=>exact⟨_,_,λw' _=>r w',put (Q rfl) rfl,Ξ,λ_ _ w' _=>r w'⟩
    |u=>exact h.elim
  |call c=>
   rw[f]at h;simp only at h;cases p:c.callee with
   |builtin b=>
    rw[p]at h;simp only at h;rw[ue]at h;cases I:oB b c.argTypes o.type (c.args.map (cV e))with
    |none=>rw[I]at h;exact h.elim
    |some s=>
     rw[I]at h;obtain⟨v,r,H⟩:=h;have all:∀w':x4,s.run P w'= .ok v w'->(execOp a.eval o).run P w'= .ok (.value v) w':=λw' r=>by
      rw[kg A hk (by simp[f])];unfold execOp;cases b<;>simp only[oB]at I<;>first|(cases I;done)|(cases I;simp[f,p,resolve,invoke,builtin,r,V0])
     exact⟨v,_,λw' hw=>all w' (r w' hw),put H rfl,Ξ,λw' h1 j C=>all j (h1 j C)⟩
   |value x=>rw[p]at h;exact h.elim
   |invoke x m=>rw[p]at h;exact h.elim
  |_=>
   rw[f]at h
   first
    |(simp only[pN]at h;done)
    |(obtain⟨v,r,H⟩:=h
      refine⟨v,_,λw' hw=>?_,put H rfl,Ξ,λw' h1 j C=>?_⟩
      .rw[kg A hk (by simp[f])];exact ug P (by rw[f];rfl) (r w' hw)
      .rw[kg A hk (by simp[f])];exact ug P (by rw[f];rfl) (h1 j C))
theorem Fg{free:fB}{K:Env->x4->Prop}{Q:Exit->Act->x4->Prop}(h:uh P free o e w K)(p:S9 N e a)(C:jC N o.dst=true):
  o.wpIn (ey r) 0 P a w (fl N free K o a w) Q:=by
 unfold uh at h;cases hk:known e (opsOf o.op)with
 |false=>rw[hk]at h;exact h.elim
 |true=>
  rw[hk]at h;simp only[cond_true]at h;cases j:o.op with
  |call c=>
   rw[j]at h;simp only at h;cases E:c.callee with
   |builtin b=>
    rw[E]at h;simp only at h;rw[ue]at h;cases I:oB b c.argTypes o.type (c.args.map (cV e))with
    |none=>rw[I]at h;exact h.elim
    |some s=>
     rw[I]at h;obtain⟨v,w',q,A,B⟩:=h;refine pO p hk (by simp[j]) (by simp[j]) (v:=v) (w':=w') ?_ (fl.of B p C rfl λ_=>A.b);unfold execOp;cases b<;>simp only[oB]at I<;>first|(cases I;done)|(cases I;simp[j,E,resolve,invoke,builtin,q,V0])
   |value x=>
    rw[E]at h;have step:∀(d:Deferred)(y:x3),cV e x=y->Deferred.ofValue y (c.args.map (cV e))=pure d->
      (invoke d.target d.args).run P w=(execOp (cV e) o).run P w:=by
     intro d y z S;unfold execOp;simp only[j,E,resolve,z,S,W8,V6,V0]
    have H:∀(g:Q2)(first cap:Array x3),cV e x= .func (.func g) first cap->
      (execOp (cV e) o).run P w=(callFunc g (first.toList++bV (cV e) c.args.toList++cap.toList).toArray).run P w:=by
     intro g first cap z
     rw[<-step {target:=.fn (.func g) cap,args:=first++c.args.map (cV e)} _ z rfl];simp only[invoke];have J:first++c.args.map (cV e)++cap=(first.toList++bV (cV e) c.args.toList++cap.toList).toArray:=by apply Array.toList_inj.1;simp[rv]
     rw[J]
    have enter:∀(g:Q2)(first cap:Array x3),cV e x= .func (.func g) first cap->Enters P g->
      (execOp (cV e) o).run P w= .ok (.enter g (first.toList++bV (cV e) c.args.toList++cap.toList).toArray) w:=by
     intro g first cap z F
     rw[H g first cap z,F]
    have go:∀(g:Q2)(first cap:Array x3),cV e x= .func (.func g) first cap->
      (bif free.1 then gH P g (first.toList++bV (cV e) c.args.toList++cap.toList) w λv w'=>K (eb e o.dst (.v v)) w'
       else ai P g (first.toList++bV (cV e) c.args.toList++cap.toList) w λv w'=>K (eb e o.dst (.v v)) w')->
      o.wpIn (ey r) 0 P a w (fl N free K o a w) Q:=by
     intro g first cap z h
     obtain⟨fr,T⟩:=free;cases fr with
     |true=>
      rcases h with⟨F,L⟩|⟨v,w',q,B⟩
      .refine⟨λ_ _=>trivial,?_⟩;rw[T5.semAt_eq _ _ _ (by simp[j]),kg p hk (by simp[j])];rw[enter g first cap z F];exact xQ p C (L.mono λG w' ⟨v,h1,M⟩=>⟨v,h1,(λh=>by cases h),M⟩)
      .rw[<-H g first cap z]at q;exact pO p hk (by simp[j]) (by simp[j]) q (fl.of B p C rfl λh=>by cases h)
     |false=>
      rcases h with⟨F,L⟩|⟨v,w',q,A,B⟩
      .refine⟨λ_ _=>trivial,?_⟩;rw[T5.semAt_eq _ _ _ (by simp[j]),kg p hk (by simp[j])];rw[enter g first cap z F];exact xQ p C (L.mono λG w' ⟨v,h1,A,M⟩=>⟨v,h1,λ_=>A.b,M⟩)
      .rw[<-H g first cap z]at q;exact pO p hk (by simp[j]) (by simp[j]) q (fl.of B p C rfl λ_=>A.b)
    have O:rx P free.1 (cV e x) (bV (cV e) c.args.toList) w (λv w'=>K (eb e o.dst (.v v)) w')->
      o.wpIn (ey r) 0 P a w (fl N free K o a w) Q:=by
     intro h;unfold rx at h;split at h
     .rename_i g first cap z
      exact go g first cap z h
     .rename_i l first cap z
      obtain⟨fn,tmps,R,body,U,V⟩:hR P l (first.toList++bV (cV e) c.args.toList) w λv w'=>(free.1=false->cC free.2 w w')/\K (eb e o.dst (.v v)) w':=by
       obtain⟨fr,T⟩:=free;cases fr with
       |true=>exact hR.mono h.2 λv w' hk=>⟨(λh=>by cases h),hk⟩
       |false=>exact hR.mono h λv w' hk=>⟨λ_=>hk.1.b,hk.2⟩
      refine⟨λ_ _=>trivial,?_⟩;rw[T5.semAt_eq _ _ _ (by simp[j]),kg p hk (by simp[j])];have:(execOp (cV e) o).run P w= .ok (.round l fn tmps R body) w:=by
       rw[<-step {target:=.fn (.yield l) cap,args:=first++c.args.map (cV e)} _ z rfl,<-U];have J:(first.toList++bV (cV e) c.args.toList).toArray=first++c.args.map (cV e):=by apply Array.toList_inj.1;simp[rv]
       rw[J];rfl
      rw[this,T5.uponIn_round];refine⟨ud _ _,?_⟩;have W:RoundIn (ey r) (0-1) P l fn tmps R body w λG w'=>∃v,G= .returned v/\(free.1=false->cC free.2 w w')/\K (eb e o.dst (.v v)) w':=V;refine RoundIn.mono W ?_;rintro G w' ⟨v,rfl,A,B⟩;exact fl.of B p C rfl A
     .exact h.elim
    cases x with
    |func f=>exact go f #[] #[] rfl (by simpa using h)
    |tmp t=>exact O h
    |const v=>exact O h
    |global g=>exact O h
   |invoke x m=>rw[E]at h;exact h.elim
  |next x str=>
   rw[j]at h;obtain⟨v,w',q,A,B⟩:=h;refine pO p hk (by simp[j]) (by simp[j]) (v:=v) (w':=w') ?_ (fl.of B p C rfl A);rw[Fa _ _ o.type]at q;unfold execOp;simp only[j,W8,q,V0,V6]
  |_=>
   rw[j]at h
   first
    |(simp only[pN,uf]at h;done)
    |(obtain⟨v,w',q,A,B⟩:=h
      exact pO p hk (by simp[j]) (by simp[j]) (ug P (by rw[j];rfl) q) (fl.of B p C rfl λ_=>A.b))
    |(obtain⟨v,w',q,A,B⟩:=h
      exact Ff p hk (by simp[j]) (by simp[j]) (Fb P (by rw[j];rfl) q) (fl.of B p C rfl λ_=>A.b))
theorem ry{free:fB}{K:Env->x4->Prop}{Q:Exit->Act->x4->Prop}(h:oC P free o e w K)(j:S9 N e a)(p:jC N o.dst=true):
  o.wpIn (ey r) 0 P a w (fl N free K o a w) Q:=by
 unfold oC at h;cases q:jf o with
 |false=>rw[q]at h;exact Fg h j p
 |true=>
  rw[q]at h;have h:lF P o e w (λf _=>K f w):=h;obtain⟨v,st,s,⟨f,x,y⟩,z,_⟩:=xS h j p;refine⟨λ_ _=>trivial,?_⟩;rw[T5.semAt_eq _ _ _ z,s w (Ext.refl _),T5.uponIn_value];exact⟨f,v,x,y,rfl,λ_=>cC.refl _ _⟩
end
section
variable{P:V1}
def Still{α:Type}(P:V1)(s:Sem α):Prop:=∀w v J,s.run P w= .ok v J->J=w/\∀w',s.run P w'= .ok v w'
theorem Still.pure{α:Type}(a:α):Still P (Pure.pure a:Sem α):=λw v J h=>by
 rw[V6]at h;cases h;exact⟨rfl,λw'=>by rw[V6]⟩
theorem Still.bind{α β:Type}{s:Sem α}{f:α->Sem β}(I:Still P s)(j:∀a,Still P (f a)):Still P (s >>= f):=λw v J h=>by
 rw[W8]at h;cases e:s.run P w with
 |halt x U=>rw[e]at h;simp[V0]at h
 |ok a U=>
  rw[e]at h;obtain⟨rfl,p⟩:=I w a U e;obtain⟨rfl,q⟩:=j a _ v J h;exact⟨rfl,λw'=>by rw[W8,p w'];exact q w'⟩
theorem Still.never{α:Type}{s:Sem α}(h:∀w v J,s.run P w≠ .ok v J):Still P s:=λw v J h'=>absurd h' (h w v J)
theorem Still.stuck{α:Type}(m:String):Still P (stuck m:Sem α):=.never λw v J h=>by simp[Go.stuck]at h
theorem Still.unsupported{α:Type}(m):Still P (unsupported m:Sem α):=.never λw v J h=>by simp[Go.unsupported]at h
theorem Still.program:Still P program:=λw v J h=>by cases h;exact⟨rfl,λ_=>rfl⟩
theorem Still.underlying(t:r9):Still P (underlying t):=Still.bind .program λp=>by
 cases p.underlying t with
 |some d=>exact Still.pure d
 |none=>exact Still.stuck _
theorem Still.typeInfo(t:r9):Still P (typeInfo t):=Still.bind .program λp=>by
 cases p.info? t with
 |some d=>exact Still.pure d
 |none=>exact Still.stuck _
theorem Still.sizeOf(t:r9):Still P (sizeOf t):=Still.bind (.typeInfo t) λ_=>Still.pure _
theorem Still.boundsPanic{α:Type}(k:n9)(x y:Int)(c:BoundsCode):Still P (boundsPanic k x y c:Sem α):=.never λw v J h=>by
 have e:∀(s:Sem Bool)(w:x4)(v:α)(J:x4),(s >>= λb=>(runtimePanic (.bounds (X9.wrap x) y b c):Sem α)).run P w≠ .ok v J:=by
  intro s w v J h;rw[W8]at h;cases f:s.run P w with
  |halt x U=>rw[f]at h;simp[V0]at h
  |ok a U=>rw[f]at h;simp[V0,Go.runtimePanic,Go.goPanic]at h
 unfold Go.boundsPanic at h;dsimp only at h;split at h
 .exact e _ _ _ _ h
 .exact e _ _ _ _ h
theorem Still.asIntOf(v:x3):Still P (asIntOf v):=by
 unfold Go.asIntOf;split
 .exact Still.pure _
 .exact Still.unsupported _
 .exact Still.stuck _
theorem Still.sureAddr(v:x3):Still P (Instr.sureAddr v):=by
 unfold Instr.sureAddr;split
 .exact Still.pure _
 .exact Still.stuck _
theorem Still.extract(v:x3)(i:Nat):Still P (Y1 v i):=by
 unfold Y1;split
 .split
  .exact Still.pure _
  .exact Still.stuck _
 .exact Still.stuck _
theorem Still.indexAt(t:r9)(x i:x3):Still P (j9 t x i):=by
 have tail:∀(t:r9)(k:n9)(i:Int)(base:Option Addr)(len:Nat)(e:r9),Still P (do
   let f:=len<=1&&(match <-Go.underlying t with| .array ..=>true|_=>false)
   match base with
   |some a=>
    if 0<=i/\i<len then Pure.pure (x3.pointer (σ (a.add (i.toNat*(<-Go.sizeOf e)))))
    else if f then Go.unsupported (.noEntry "op/indexAddr.an index out of range at an array of length 0 or 1 (ledger 616)")
    else Go.boundsPanic k i len .index
   |none=>Go.boundsPanic k i 0 .index):=by
  intro t k i base len e;refine .bind (.underlying t) λd=>?_;cases base with
  |none=>exact Still.boundsPanic _ _ _ _
  |some a=>
   dsimp only;split
   .exact .bind (.sizeOf e) λ_=>.pure _
   .split<;>split<;>first|exact Still.unsupported _|exact Still.boundsPanic _ _ _ _
 unfold j9;refine .bind (.asIntOf i) λh=>?_;refine .bind (.underlying t) λd=>?_;split
 .refine .bind (.sureAddr _) λb=>?_;refine .bind (.pure _) λy=>?_;exact tail _ _ _ _ _ _
 .refine .bind (.pure _) λy=>?_;exact tail _ _ _ _ _ _
 .refine .bind (.stuck _) λy=>?_;exact tail _ _ _ _ _ _
end
section
variable(P:V1)
def rz(free:fB)(ops:Array T5)(o:T5)(e:Env)(w:x4)(K:Env->x4->Prop):Prop:=
 match o.guard with
 |none=>oC P free o e w K
 |some (j,b)=>
  match(ops[j]?).bind (·.dst)with
  |none=>False
  |some s=>
   match look e s with
   |some (.b c)=>bif xor c b then K (eb e o.dst .u) w else oC P free o e w K
   |some (.v x)=>
    Split x (bif b then oC P free o ((s,.b true)::e) w K else K (eb ((s,.b true)::e) o.dst .u) w)
     (bif b then K (eb ((s,.b false)::e) o.dst .u) w else oC P free o ((s,.b false)::e) w K)
   |some .u=>K (eb e o.dst .u) w
   |none=>False
def oD(free:fB)(ops:Array T5):List T5->Env->x4->(Env->x4->Prop)->Prop
 |[],e,w,K=>K e w
 |o::l,e,w,K=>rz P free ops o e w λa w'=>oD free ops l a w' K
def ui(ops:Array T5)(o:T5)(e:Env)(w:x4)(K:Env->(x4->Prop)->Prop):Prop:=
 match o.guard with
 |none=>lF P o e w K
 |some (j,b)=>
  match(ops[j]?).bind (·.dst)with
  |none=>False
  |some s=>
   match look e s with
   |some (.b c)=>bif xor c b then K (eb e o.dst .u) (λ_=>True)else lF P o e w K
   |some (.v x)=>
    Split x (bif b then lF P o ((s,.b true)::e) w K else K (eb ((s,.b true)::e) o.dst .u) (λ_=>True))
     (bif b then K (eb ((s,.b false)::e) o.dst .u) (λ_=>True)else lF P o ((s,.b false)::e) w K)
   |some .u=>K (eb e o.dst .u) (λ_=>True)
   |none=>False
def lH(o:T5):Bool:=
 match o.op with
 | .move _| .assign _| .extract .. | .indexAddr ..=>true
 |_=>false
def mo(ops:Array T5):List Nat->Option Nat
 |[]=>ν
 |i::r=>match ops[i]? with
  |some o=>bif jf o then σ i else mo ops r
  |none=>mo ops r
def uj(p:Nat->Prop):List Nat->Prop
 |[]=>True
 |[i]=>p i
 |i::r=>p i/\uj p r
def kP(bs:Array Nat)(j k:Nat):Bool:=!(S2 k j)&&(!((bs.getD j 0).testBit k)&& !((bs.getD k 0).testBit j))
def pP(same:Bool)(q:Nat)(w:x4)(st:x4->Prop)(a:List (x4×List (Nat×(x4->Prop)))):List (x4×List (Nat×(x4->Prop))):=
 match same,a with
 |true,g::r=>(g.1,(q,st)::g.2)::r
 |_,a=>(w,[(q,st)])::a
def pQ(bs:Array Nat)(j:Nat):List (Nat×(x4->Prop))->Bool
 |[]=>false
 |x::r=>kP bs j x.1||pQ bs j r
def oE(bs:Array Nat)(j:Nat)(w':x4):List (Nat×(x4->Prop))->Prop
 |[]=>True
 |x::r=>bif kP bs j x.1 then x.2 w'/\oE bs j w' r else oE bs j w' r
def nk(bs:Array Nat)(j:Nat)(w':x4)(C:Prop):List (x4×List (Nat×(x4->Prop)))->Prop
 |[]=>C
 |g::r=>bif pQ bs j g.2 then(Ext g.1 w'\/oE bs j w' g.2)/\nk bs j w' C r else nk bs j w' C r
def mp(free:fB)(ops:Array T5)(bs:Array Nat):Nat->Array Bool->Bool->List (x4×List (Nat×(x4->Prop)))->Env->x4->(Env->x4->Prop)->Prop
 |0,a,_,_,e,w,K=>match Region.ready .any ops a with|[]=>K e w|_=>False
 |fuel+1,a,same,f,e,w,K=>
  match Region.ready .any ops a with
  |[]=>K e w
  |i::r=>
   match mo ops (i::r)with
   |some q=>
    bif Region.free .any ops a q then
     match ops[q]? with
     |some o=>ui P ops o e w λh st=>
       bif lH o then mp free ops bs fuel (a.setIfInBounds q true) same f h w K
       else mp free ops bs fuel (a.setIfInBounds q true) true (pP same q w st f) h w K
     |none=>False
    else False
   |none=>
    uj (λj=>match ops[j]? with
     |some o=>rz P free ops o e w λh w'=>nk bs j w' (mp free ops bs fuel (a.setIfInBounds j true) false f h w' K) f
     |none=>False) (i::r)
def uk(free:fB)(ops:Array T5)(e:Env)(w:x4)(K:Env->x4->Prop):Prop:=
 bif Region.noSelect ops then mp P free ops (Region.before ops) ops.size (Array.replicate ops.size false) false [] e w K else False
end
section
variable{P:V1}{N:Nat}{r:Option Nat}{free:fB}{ops:Array T5}
theorem Fh{e:Env}{a:Act}(p:S9 N e a){s:Nat}{c:Bool}(q:(ops[j]?).bind (·.dst)=σ s){x:eC}(I:look e s=σ x)(r:x.val= .bool c):
  yielded ops a.tmps j=σ c:=by
 have h:=p.2 s x I;rw[r]at h;have w:a.tmps[s]?=σ (.bool c):=by
  rw[Array.getD_eq_getD_getElem?]at h;cases f:a.tmps[s]? with
  |none=>rw[f]at h;simp[undef]at h
  |some y=>rw[f]at h;simpa using h
 simp[yielded,q,w]
theorem rA{e:Env}{a:Act}(f:S9 N e a){o:T5}{s:Nat}{b c:Bool}(h:o.guard=σ (j,b))(p:(ops[j]?).bind (·.dst)=σ s){x:eC}(I:look e s=σ x)(q:x.val= .bool c):Region.wanted o (yielded ops a.tmps)= !(xor c b):=by
 simp only[Region.wanted,h,Fh f p I q];cases c<;>cases b<;>rfl
theorem xT{e:Env}{a:Act}(p:S9 N e a){o:T5}{s:Nat}{b:Bool}(q:o.guard=σ (j,b))(r:(ops[j]?).bind (·.dst)=σ s)(I:look e s=σ .u):Region.wanted o (yielded ops a.tmps)=false:=by
 have h:=p.2 s .u I;have w:yielded ops a.tmps j=ν:=by
  rw[Array.getD_eq_getD_getElem?]at h;unfold yielded;rw[r];cases f:a.tmps[s]? with
  |none=>simp[f]
  |some y=>
   rw[f]at h;simp only[V5,eC.val]at h;subst h;simp[f,undef]
 simp[Region.wanted,q,w]
theorem S9.lit{e:Env}{a:Act}(h:S9 N e a){s:Nat}{x:eC}{c:Bool}(I:look e s=σ x)(p:x.val= .bool c):S9 N ((s,.b c)::e) a:=by
 refine⟨h.1,λt y f=>?_⟩;simp only[look]at f;cases j:S2 s t with
 |true=>
  have:s=t:=Nat.eq_of_beq_eq_true j;subst this;simp only[j,cond_true,X7]at f;subst f;rw[h.2 s x I,p];rfl
 |false=>simp only[j,cond_false]at f;exact h.2 t y f
theorem xU{o:T5}{e:Env}{a:Act}{K:Env->x4->Prop}{Q:Exit->Act->x4->Prop}(h:rz P free ops o e w K)(f:S9 N e a)(p:jC N o.dst=true):
  (Region.wanted o (yielded ops a.tmps)=true/\o.wpIn (ey r) 0 P a w (fl N free K o a w) Q)\/
  (Region.wanted o (yielded ops a.tmps)=false/\fl N free K o a w (a.put o.dst undef) w):=by
 unfold rz at h;cases q:o.guard with
 |none=>rw[q]at h;exact .inl ⟨by simp[Region.wanted,q],ry h f p⟩
 |some F=>
  obtain⟨j,b⟩:=F;rw[q]at h;simp only at h;cases z:(ops[j]?).bind (·.dst)with
  |none=>rw[z]at h;exact h.elim
  |some s=>
   rw[z]at h;simp only at h;cases I:look e s with
   |none=>rw[I]at h;exact h.elim
   |some x=>
    rw[I]at h;cases x with
    |b c=>
     simp only at h;have hw:=rA f q z I (c:=c) rfl;cases E:xor c b with
     |true=>
      rw[E]at h hw;exact .inr ⟨hw,fl.of h f p rfl λ_=>cC.refl _ _⟩
     |false=>
      rw[E]at h hw;exact .inl ⟨hw,ry h f p⟩
    |v y=>
     simp only at h;obtain⟨c,rfl,A,B⟩:=h;have hw:=rA f q z I (c:=c) rfl;have C:=f.lit I (c:=c) rfl;cases c with
     |true=>
      have A:=A rfl;cases b with
      |true=>exact .inl ⟨hw,ry A C p⟩
      |false=>exact .inr ⟨hw,fl.of A C p rfl λ_=>cC.refl _ _⟩
     |false=>
      have B:=B rfl;cases b with
      |true=>exact .inr ⟨hw,fl.of B C p rfl λ_=>cC.refl _ _⟩
      |false=>exact .inl ⟨hw,ry B C p⟩
    |u=>exact .inr ⟨xT f q z I,fl.of h f p rfl λ_=>cC.refl _ _⟩
def gI(D:List Nat)(a a':Act):Prop:=a'.defers=a.defers/\∀t,t∉D->a'.tmps.getD t undef=a.tmps.getD t undef
theorem gI.refl(D:List Nat)(a:Act):gI D a a:=⟨rfl,λ_ _=>rfl⟩
theorem gI.trans{a b c:Act}(h:gI D a b)(k:gI D b c):gI D a c:=⟨k.1.trans h.1,λt e=>(k.2 t e).trans (h.2 t e)⟩
theorem gI.put(a:Act){d:Option Tmp}(v:x3)(e:∀t,d=σ t->t∈D):gI D a (a.put d v):=by
 cases d with
 |none=>exact gI.refl _ _
 |some s=>
  refine⟨rfl,λt f=>?_⟩;have j:s≠t:=λh=>f (h▸e s rfl);simp only[Act.put,Array.getD_eq_getD_getElem?];rw[Array.getElem?_setIfInBounds_ne j]
def mq(N:Nat)(free:fB)(K:Env->x4->Prop)(D:List Nat)(a:Act)(w:x4)(a':Act)(w':x4):Prop:=
 ∃e,K e w'/\S9 N e a'/\gI D a a'/\(free.1=false->cC free.2 w w')
theorem mq.step{K:Env->x4->Prop}{a e a':Act}{J:x4}(h:mq N free K D e J a' w')(hk:gI D a e)(j:free.1=false->cC free.2 w J):
  mq N free K D a w a' w':=by
 obtain⟨p,h1,q,r,s⟩:=h;exact⟨p,h1,q,hk.trans r,λf=>(j f).trans (s f)⟩
def nl(N:Nat)(l:List T5):Bool:=l.all λo=>jC N o.dst
theorem Fi{K:Env->x4->Prop}{Q:Exit->Act->x4->Prop}(B:∀o∈ops.toList,∀t,o.dst=σ t->t∈D)(y:nl N ops.toList=true):
  ∀(l:List T5)(k:Nat)(e:Env)(a:Act)(w:x4),(∀j,l[j]?=ops[k+j]?)->oD P free ops l e w K->S9 N e a->
   (∀a' w',mq N free K D a w a' w'->Q .normal a' w')->wpOpsIn (ey r) 0 P ops Q (List.range' k l.length) a w:=by
 intro l;induction l with
 |nil=>
  intro k e a w _ h f p;exact p a w ⟨e,h,f,gI.refl _ _,λ_=>cC.refl _ _⟩
 |cons o l C=>
  intro k e a w z h f p;have q:=z 0;simp only[List.getElem?_cons_zero,Nat.add_zero]at q;have A:o∈ops.toList:=by
   have:=q.symm;rw[<-R3]at this;exact x6 this
  have E:jC N o.dst=true:=by
   simp only[nl,List.all_eq_true]at y;exact y o A
  have F:∀j,l[j]?=ops[k+1+j]?:=λj=>by
   have:=z (j+1);rw[List.getElem?_cons_succ]at this;rw[this];congr 1;omega
  have next:∀s J,fl N free (λG w'=>oD P free ops l G w' K) o a w s J->wpOpsIn (ey r) 0 P ops Q (List.range' (k+1) l.length) s J:=by
   rintro s J ⟨H,v,I,L,rfl,M⟩;refine C (k+1) H _ J F I L λa' w' O=>p a' w' (O.step (gI.put a v λt R=>B o A t R) M)
  simp only[oD]at h;show wpOpsIn (ey r) 0 P ops Q (k::List.range' (k+1) l.length) a w;unfold wpOpsIn;rw[<-q];simp only;rcases xU (r:=r) (Q:=Q) h f E with⟨hw,x⟩|⟨hw,x⟩
  .rw[if_pos hw];exact T5.wpIn_mono next x
  .rw[hw];exact⟨λ_ _=>trivial,next _ _ x⟩
theorem Fj{K:Env->x4->Prop}{Q:Exit->Act->x4->Prop}{id:Nat}{e:Env}{a:Act}(f:∀o∈ops.toList,∀t,o.dst=σ t->t∈D)(p:nl N ops.toList=true)(h:oD P free ops ops.toList e w K)(q:S9 N e a)(s:∀a' w',mq N free K D a w a' w'->Q .normal a' w'):
  (Code.region id ops false).wpIn (ey r) 0 P Q a w:=by
 refine wpIn_region ?_;have:=Fi (r:=r) f p ops.toList 0 e a w (λj=>Ξ) h q s;rw[List.range_eq_range'];simpa using this
end
section
variable{P:V1}{N:Nat}{r:Option Nat}{free:fB}{ops:Array T5}{Q:Exit->Act->x4->Prop}
theorem Fk(e:Option Nat)(o:T5)(I:∀cs b,o.op≠ .select cs b)(a:Act)(d:Option Tmp)(v:x3)(h:∀t,d=σ t->t∉o.looksAt ops):
  o.semAt e (a.put d v).eval=o.semAt e a.eval:=by
 have he:=execOp_put o I a d v h;unfold T5.semAt;split
 .rename_i l c f;have:resolve (a.put d v).eval c o.type=resolve a.eval c o.type:=resolve_congr c o.type λx j=>Act.eval_put λt p q=>h t p (by
   subst q;refine List.mem_append_left _ (List.mem_filterMap.2 ⟨.tmp t,?_,rfl⟩);rw[f];simpa[Op.operands]using j)
  rw[this]
 .exact he
def mr(o:T5)(w0:x4)(st:x4->Prop)(w':x4):Prop:=lH o=true\/Ext w0 w'\/∃J,st J/\Ext J w'
theorem mr.ext{o:T5}{w0:x4}{st:x4->Prop}(h:mr o w0 st w)(k:Ext w w'):mr o w0 st w':=by
 rcases h with h|h|⟨J,h1,a⟩
 .exact .inl h
 .exact .inr (.inl (h.trans k))
 .exact .inr (.inr ⟨J,h1,a.trans k⟩)
theorem Fl{o:T5}(hm:lH o=true){e:S8->x3}(h:(execOp e o).run P w= .ok (.value v) w):(execOp e o).run P w'= .ok (.value v) w':=by
 unfold lH at hm;split at hm
 .rename_i x a;unfold execOp at h ⊢;simp only[a,V6,Result.ok.injEq,and_true]at h ⊢;exact h
 .rename_i x a;unfold execOp at h ⊢;simp only[a,V6,Result.ok.injEq,and_true]at h ⊢;exact h
 .rename_i x i a;unfold execOp at h ⊢;simp only[a]at h ⊢;exact((Still.bind (Still.extract _ _) λ_=>Still.pure _) _ _ _ h).2 _
 .rename_i t x i a;unfold execOp at h ⊢;simp only[a]at h ⊢;exact((Still.bind (Still.indexAt _ _ _) λ_=>Still.pure _) _ _ _ h).2 _
 .cases hm
def ig(P:V1)(ops:Array T5)(o:T5)(v:x3)(a:Act)(w0:x4->Prop):Prop:=
 (Region.wanted o (yielded ops a.tmps)=true/\(∀c,o.op≠ .defer c)/\∀w',w0 w'->(execOp a.eval o).run P w'= .ok (.value v) w')\/
 (Region.wanted o (yielded ops a.tmps)=false/\v=undef)
theorem ig.put{o e:T5}{a:Act}{w0:x4->Prop}(f:ig P ops o v a w0)(I:∀cs b,o.op≠ .select cs b)(h:∀t,e.dst=σ t->t∉o.looksAt ops)(u:x3):
  ig P ops o v (a.put e.dst u) w0:=by
 unfold ig at*;rw[execOp_put o I a e.dst u h,wanted_put o a e.dst u h];exact f
theorem ig.go{i:Nat}{e:T5}{a:Act}{w0:x4->Prop}(hi:ops[i]?=σ e)(f:ig P ops e v a w0)(hw:w0 w){K:Act->x4->Prop}(h:K (a.put e.dst v) w):
  wpOpIn (ey r) 0 P ops Q i K a w:=by
 unfold wpOpIn;simp only[hi];rcases f with⟨h1,j,p⟩|⟨h1,rfl⟩
 .rw[if_pos h1];refine⟨λ_ _=>trivial,?_⟩;rw[T5.semAt_eq _ _ _ j,p w hw,T5.uponIn_value];exact h
 .rw[h1];exact⟨λ_ _=>trivial,h⟩
theorem Fm{p s:T5}(B:ops[j]?=σ s)(C:p.apart ops s=true)(E:∀cs b,p.op≠ .select cs b)(F:∀cs b,s.op≠ .select cs b)(z:∀c a w,¬Q (.panic c) a w){K:Act->x4->Prop}{a:Act}{w:x4}{w0:x4->Prop}(q:ig P ops p v a w0)(h:wpOpIn (ey r) 0 P ops Q j K (a.put p.dst v) w):
  wpOpIn (ey r) 0 P ops Q j (λa' w'=>ig P ops p v a' w0/\K (a'.put p.dst v) w') a w:=by
 obtain⟨h1,y,G⟩:=T5.apart_spec C;have aV:∀(a:Act),ig P ops p v a w0->∀u,ig P ops p v (a.put s.dst u) w0:=λa q u=>q.put E G u;have H:∀d,ig P ops p v {a with defers:=d::a.defers} w0:=λd=>q;unfold wpOpIn at*;simp only[B]at*;rw[wanted_put s a p.dst v h1]at h;split
 .rename_i hw;simp only[hw,if_true]at h;obtain⟨_,h⟩:=h;refine⟨λ_ _=>trivial,?_⟩;rw[Fk _ s F a p.dst v h1]at h;generalize (s.semAt (ey r).round a.eval).run P w=res at*;cases res with
  |ok n w'=>
   cases n<;>simp only[T5.uponIn]at h ⊢
   case value u=>exact⟨aV a q u,by rw[<-Act.put_comm a v u y];exact h⟩
   case skip=>exact⟨aV a q _,by rw[<-Act.put_comm a v undef y];exact h⟩
   case defer d=>
    refine⟨aV _ (H d) _,?_⟩;rw[<-Act.put_comm _ v undef y,<-Act.put_defers];exact h
   case enter f args=>
    refine⟨h.1,CallsIn.mono h.2 λe A he=>?_⟩;cases e with
    |returned u=>exact⟨aV a q u,by rw[<-Act.put_comm a v u y];exact he⟩
    |panicked c=>exact absurd he (z _ _ _)
    |outgrown=>exact he
   case row row args=>exact⟨h.1,RowsIn.mono h.2 λu A he=>⟨aV a q u,by rw[<-Act.put_comm a v u y];exact he⟩⟩
   case round l f tmps I body=>
    refine⟨h.1,RoundIn.mono h.2 λe A he=>?_⟩;cases e with
    |returned u=>exact⟨aV a q u,by rw[<-Act.put_comm a v u y];exact he⟩
    |panicked c=>exact absurd he (z _ _ _)
    |outgrown=>exact he
  |halt x w'=>
   cases x<;>simp only[T5.uponIn]at h ⊢
   case panic u=>exact absurd h (z _ _ _)
 .rename_i hw;simp only[hw]at h;exact⟨λ_ _=>trivial,aV a q _,by rw[<-Act.put_comm a v undef y];exact h.2⟩
def lI(ops:Array T5)(bs:Array Nat):Bool:=
 (W5 ops.size).all λj=>(W5 ops.size).all λk=>!((bs.getD j 0).testBit k)||
  (match ops[j]? with
   |some o=>o.after.any λe=>Region.binds .any e&&Nat.blt e.on j&&(S2 e.on k||(bs.getD e.on 0).testBit k)
   |none=>false)
def Down(ops:Array T5)(a:Array Bool):Prop:=
 ∀(x:Nat)(o:T5),ops[x]?=σ o->a.getD x false=true->∀e∈o.after,Region.binds .any e=true->a.getD e.on false=true
theorem xV{bs:Array Nat}(f:lI ops bs=true){k:Nat}(q:j<ops.size)(hk:k<ops.size)(h:(bs.getD j 0).testBit k=true):
  ∃o,ops[j]?=σ o/\∃e∈o.after,Region.binds .any e=true/\e.on<j/\(e.on=k\/(bs.getD e.on 0).testBit k=true):=by
 simp only[lI,List.all_eq_true,List.mem_range]at f;have:=f j q k hk;rw[h]at this;simp only[X3,Bool.false_or]at this;cases p:ops[j]? with
 |none=>rw[p]at this;cases this
 |some o=>
  rw[p]at this;obtain⟨e,he,a⟩:=Array.any_eq_true'.1 this;simp only[U3,Nat.blt_eq,Bool.or_eq_true]at a;exact⟨o,rfl,e,he,a.1.1,a.1.2,a.2.imp (λh=>Nat.eq_of_beq_eq_true h) id⟩
theorem Fo{bs:Array Nat}{a:Array Bool}(p:lI ops bs=true)(q:Down ops a):∀(j k:Nat),j<ops.size->k<ops.size->a.getD j false=true->
  (bs.getD j 0).testBit k=true->a.getD k false=true:=by
 intro j;induction j using Nat.strongRecOn with
 |_ j r=>
  intro k s hk w h;obtain⟨o,x,e,he,y,z,h⟩:=xV p s hk h;have f:=q j o x w e he y;rcases h with rfl|h
  .exact f
  .exact r e.on z k Ω hk f h
theorem xW{bs:Array Nat}{a:Array Bool}(f:lI ops bs=true)(s:Down ops a){k:Nat}(hk:k<ops.size)(w:j∈Region.ready .any ops a)(h:(bs.getD j 0).testBit k=true):a.getD k false=true:=by
 obtain⟨_,o,p,x⟩:=mem_ready.1 w;have y:=(j5.1 p).1;obtain⟨o',q,e,he,z,A,h⟩:=xV f y hk h;rw[p]at q;cases q;have r:=x e he z;rcases h with rfl|h
 .exact r
 .exact Fo f s e.on k Ω hk r h
theorem Down.set{a:Array Bool}(r:Down ops a){i:Nat}(s:i∈Region.ready .any ops a):Down ops (a.setIfInBounds i true):=by
 intro x o f h e he j;by_cases p:x=i
 .subst p;obtain⟨_,o',q,w⟩:=mem_ready.1 s;rw[f]at q;cases q;exact getD_set_true (w e he j)
 .rw[getD_set_ne false (R2 p)]at h;exact getD_set_true (r x o f h e he j)
theorem ul{a:Array Bool}{k:Nat}(h:a.getD k true=false):a.getD k false=false:=by
 rcases Nat.lt_or_ge k a.size with h'|h'
 .simpa[h']using h
 .simp[Array.getElem?_eq_none h']at h
def mu(ops:Array T5)(i:Nat):Bool:=match ops[i]? with
 |some o=>jf o
 |none=>false
def mv(bs:Array Nat)(a:List (x4×List (Nat×(x4->Prop))))(j:Nat)(w':x4):Prop:=∀g∈a,∀x∈g.2,kP bs j x.1=true->Ext g.1 w'\/x.2 w'
theorem um{bs:Array Nat}{j:Nat}{w':x4}:∀{l:List (Nat×(x4->Prop))},oE bs j w' l->∀x∈l,kP bs j x.1=true->x.2 w'
 |[],_,_,h,_=>by cases h
 |y::l,h,x,a,hu=>by
  unfold oE at h;cases e:kP bs j y.1 with
  |true=>
   rw[e]at h;cases a with
   |head=>exact h.1
   |tail _ a=>exact um h.2 x a hu
  |false=>
   rw[e]at h;cases a with
   |head=>rw[e]at hu;cases hu
   |tail _ a=>exact um (show oE bs j w' l from h) x a hu
theorem xX{bs:Array Nat}{j:Nat}:∀{l:List (Nat×(x4->Prop))},pQ bs j l=false->∀x∈l,kP bs j x.1=false
 |[],_,_,h=>by cases h
 |y::l,h,x,a=>by
  simp only[pQ,U7]at h;cases a with
  |head=>exact h.1
  |tail _ a=>exact xX h.2 x a
theorem uo{bs:Array Nat}{j:Nat}{w':x4}{C:Prop}:∀{s:List (x4×List (Nat×(x4->Prop)))},nk bs j w' C s->C/\mv bs s j w'
 |[],h=>⟨h,λg w=>by cases w⟩
 |g::r,h=>by
  unfold nk at h;cases hu:pQ bs j g.2 with
  |true=>
   rw[hu]at h;obtain⟨h1,p⟩:=uo h.2;refine⟨h1,λq a x f e=>?_⟩;cases a with
   |head=>exact h.1.imp id λh=>um h x f e
   |tail _ a=>exact p q a x f e
  |false=>
   rw[hu]at h;obtain⟨h1,p⟩:=uo (show nk bs j w' C r from h);refine⟨h1,λq a x f e=>?_⟩;cases a with
   |head=>rw[xX hu x f]at e;cases e
   |tail _ a=>exact p q a x f e
def uq(ops:Array T5)(bs:Array Nat)(a:List (x4×List (Nat×(x4->Prop))))(j:Nat)(w w':x4):Prop:=(mu ops j=true->Ext w w')/\(mu ops j=false->mv bs a j w')
def iI(r:Option Nat)(P:V1)(ops:Array T5)(bs:Array Nat)(Q:Exit->Act->x4->Prop):Nat->Array Bool->List (x4×List (Nat×(x4->Prop)))->Act->x4->Prop
 |0,e,_,a,w=>Region.ready .any ops e=[]/\Q .normal a w
 |fuel+1,e,f,a,w=>(Region.ready .any ops e=[]->Q .normal a w)/\
  ∀i∈Region.ready .any ops e,wpOpIn (ey r) 0 P ops Q i (λa' w'=>uq ops bs f i w w'/\iI r P ops bs Q fuel (e.setIfInBounds i true) f a' w') a w
theorem iI.any{bs:Array Nat}:∀(fuel:Nat)(e:Array Bool)(f:List (x4×List (Nat×(x4->Prop))))(a:Act)(w:x4),iI r P ops bs Q fuel e f a w->wpAnyIn (ey r) 0 P .any ops Q fuel e a w
 |0,_,_,_,_,h=>h
 |fuel+1,_,_,_,_,h=>⟨h.1,λi hi=>wpOpIn_mono (λa' w' h'=>iI.any fuel _ _ a' w' h'.2) (h.2 i hi)⟩
theorem Fp{bs:Array Nat}{a:Array Bool}(e:lI ops bs=true)(f:Down ops a){i:Nat}{r:T5}(hi:ops[i]?=σ r)(p:i∈Region.ready .any ops a)(q:j∈Region.ready .any ops a)(s:j≠i):kP bs j i=true:=by
 have w:=(j5.1 hi).1;obtain⟨x,B,y,_⟩:=mem_ready.1 q;have z:=(j5.1 y).1;have A:=(mem_ready.1 p).1;simp only[kP,U3,Bool.not_eq_true'];refine⟨?_,?_,?_⟩
 .cases h:S2 i j with
  |true=>exact absurd (Nat.eq_of_beq_eq_true h).symm s
  |false=>rfl
 .cases h:(bs.getD j 0).testBit i with
  |true=>have:=xW e f w q h;rw[ul A]at this;cases this
  |false=>rfl
 .cases h:(bs.getD i 0).testBit j with
  |true=>have:=xW e f z p h;rw[ul x]at this;cases this
  |false=>rfl
theorem iI.take{bs:Array Nat}(S:lI ops bs=true)(T:Region.noSelect ops=true)(U:∀c a w,¬Q (.panic c) a w){i:Nat}{p:T5}(hi:ops[i]?=σ p)(V:jf p=true){w0:x4}{A ev':List (x4×List (Nat×(x4->Prop)))}(G:∀j w',mv bs ev' j w'->mv bs A j w'){st:x4->Prop}(W:lH p=false->∀j w',kP bs j i=true->mv bs ev' j w'->Ext w0 w'\/st w'):
  ∀(fuel:Nat)(f:Array Bool)(a:Act)(w:x4),Down ops f->
   (∀j y,ops[j]?=σ y->j≠i->f.getD j true=false->(∀e∈y.after,Region.binds .any e=true->e.on≠i)->p.apart ops y=true)->
   i∈Region.ready .any ops f->ig P ops p v a (mr p w0 st)->mr p w0 st w->
   iI r P ops bs Q fuel (f.setIfInBounds i true) ev' (a.put p.dst v) w->iI r P ops bs Q (fuel+1) f A a w:=by
 have I:=Region.noSelect_spec T;have X:mu ops i=true:=by simp[mu,hi,V]
 have hS:∀(fuel:Nat)(f:Array Bool)(a:Act)(w:x4),iI r P ops bs Q fuel f ev' a w->iI r P ops bs Q fuel f A a w:=by
  intro fuel;induction fuel with
  |zero=>intro f a w h;exact h
  |succ fuel C=>intro f a w h;exact⟨h.1,λj s=>wpOpIn_mono (λa' w' h'=>⟨⟨h'.1.1,λE=>G _ _ (h'.1.2 E)⟩,C _ a' w' h'.2⟩) (h.2 j s)⟩
 have J:∀w,uq ops bs A i w w:=λw=>⟨λ_=>Ext.refl _,λh=>by rw[X]at h;cases h⟩;intro fuel;induction fuel with
 |zero=>
  intro f a w _ _ x B hw H;refine⟨λh=>(by rw[h]at x;cases x),λj s=>?_⟩;by_cases q:j=i
  .subst q;exact B.go hi hw ⟨J w,hS _ _ _ _ H⟩
  .have:=ready_mono s q;rw[H.1]at this;cases this
 |succ fuel C=>
  intro f a w K L x B hw H;refine⟨λh=>(by rw[h]at x;cases x),λj s=>?_⟩;by_cases q:j=i
  .subst q;exact B.go hi hw ⟨J w,hS _ _ _ _ H⟩
  .have h1:=H.2 j (ready_mono s q);have hu:=Fp S K hi x s q;obtain⟨M,y,F,Y⟩:=mem_ready.1 s;have Z:∀e∈y.after,Region.binds .any e=true->e.on≠i:=λe he aa ab=>by
    have h1:=Y e he aa;rw[ab,ul (mem_ready.1 x).1]at h1;cases h1
   have ac:=Fm F (L j y F q M Z) (λcs b=>I i p cs b hi) (λcs b=>I j y cs b F) U B h1;have ad:∀k ok,ops[k]?=σ ok->k≠i->(f.setIfInBounds j true).getD k true=false->
     (∀e∈ok.after,Region.binds .any e=true->e.on≠i)->p.apart ops ok=true:=λk ok hk ae N af=>by
    refine L k ok hk ae ?_ af;by_cases O:j=k
    .subst O;exact M
    .rw[getD_set_ne true O]at N;exact N
   refine wpOpIn_mono (λa' w' z=>⟨⟨z.2.1.1,λE=>G _ _ (z.2.1.2 E)⟩,C (f.setIfInBounds j true) a' w' (K.set s) ad (ready_mono x (R2 q)) z.1 ?_ ?_⟩) ac
   .cases hm:lH p with
    |true=>exact .inl hm
    |false=>
     cases R:mu ops j with
     |true=>exact hw.ext (z.2.1.1 R)
     |false=>exact .inr ((W hm j w' hu (z.2.1.2 R)).imp id λh=>⟨w',h,Ext.refl _⟩)
   .rw[Array.setIfInBounds_comm _ _ q];exact z.2.2
theorem xY{p:Nat->Prop}:∀{l:List Nat},uj p l->∀i∈l,p i
 |[],_,_,h=>by cases h
 |[i],h,j,a=>by cases a with
  |head=>exact h
  |tail _ h=>cases h
 |i::k::l,h,j,a=>by
  obtain⟨h1,e⟩:=h;cases a with
  |head=>exact h1
  |tail _ a=>exact xY e j a
theorem ur:∀{l:List Nat}{q:Nat},mo ops l=σ q->q∈l/\∃o,ops[q]?=σ o/\jf o=true
 |[],q,h=>by cases h
 |i::l,q,h=>by
  simp only[mo]at h;cases a:ops[i]? with
  |none=>rw[a]at h;obtain⟨h1,e⟩:=ur h;exact⟨.tail _ h1,e⟩
  |some o=>
   rw[a]at h;simp only at h;cases f:jf o with
   |true=>rw[f]at h;simp only[cond_true,X7]at h;subst h;exact⟨.head _,o,a,f⟩
   |false=>rw[f]at h;obtain⟨h1,e⟩:=ur h;exact⟨.tail _ h1,e⟩
theorem Fq{o:T5}{e:Env}{a:Act}{K:Env->(x4->Prop)->Prop}(h:ui P ops o e w K)(f:S9 N e a)(F:jC N o.dst=true):
  ∃v st,ig P ops o v a (mr o w st)/\∃p,K p st/\S9 N p (a.put o.dst v):=by
 unfold ui at h;have z:∀{e:Env},S9 N e a->lF P o e w K->Region.wanted o (yielded ops a.tmps)=true->∃v st,ig P ops o v a (mr o w st)/\∃p,K p st/\S9 N p (a.put o.dst v):=λf h hw=>by
  obtain⟨v,st,h1,G,H,L⟩:=xS h f F;exact⟨v,st,.inl ⟨hw,H,λw' A=>A.elim (λhm=>Fl hm (h1 w (Ext.refl w))) λh=>h.elim (h1 w') λ⟨J,M,O⟩=>L J M w' O⟩,G⟩
 have skip:∀{e:Env},S9 N e a->K (eb e o.dst .u) (λ_=>True)->Region.wanted o (yielded ops a.tmps)=false->∃v st,ig P ops o v a (mr o w st)/\∃p,K p st/\S9 N p (a.put o.dst v):=λf h hw=>
  ⟨undef,_,.inr ⟨hw,rfl⟩,_,h,f.put F rfl⟩
 cases q:o.guard with
 |none=>rw[q]at h;exact z f h (by simp[Region.wanted,q])
 |some Q=>
  obtain⟨j,b⟩:=Q;rw[q]at h;simp only at h;cases r:(ops[j]?).bind (·.dst)with
  |none=>rw[r]at h;exact h.elim
  |some s=>
   rw[r]at h;simp only at h;cases I:look e s with
   |none=>rw[I]at h;exact h.elim
   |some x=>
    rw[I]at h;cases x with
    |b c=>
     simp only at h;have hw:=rA f q r I (c:=c) rfl;cases A:xor c b with
     |true=>rw[A]at h hw;exact skip f h hw
     |false=>rw[A]at h hw;exact z f h hw
    |v y=>
     simp only at h;obtain⟨c,rfl,B,C⟩:=h;have hw:=rA f q r I (c:=c) rfl;have E:=f.lit I (c:=c) rfl;cases c with
     |true=>
      have B:=B rfl;cases b with
      |true=>exact z E B hw
      |false=>exact skip E B hw
     |false=>
      have C:=C rfl;cases b with
      |true=>exact skip E C hw
      |false=>exact z E C hw
    |u=>exact skip f h (xT f q r I)
theorem ut:∀{l:List Nat},mo ops l=ν->∀j∈l,mu ops j=false
 |[],_,_,h=>by cases h
 |i::l,h,j,a=>by
  simp only[mo]at h;cases e:ops[i]? with
  |none=>
   rw[e]at h;cases a with
   |head=>simp[mu,e]
   |tail _ a=>exact ut h j a
  |some o=>
   rw[e]at h;simp only at h;cases f:jf o with
   |true=>rw[f]at h;cases h
   |false=>
    rw[f]at h;cases a with
    |head=>simp[mu,e,f]
    |tail _ a=>exact ut h j a
theorem Fr{bs:Array Nat}{same:Bool}{q:Nat}{st:x4->Prop}{a:List (x4×List (Nat×(x4->Prop)))}(I:same=true->∃ks r,a=(w,ks)::r):
  (∀j w',mv bs (pP same q w st a) j w'->mv bs a j w')/\(∀j w',kP bs j q=true->mv bs (pP same q w st a) j w'->Ext w w'\/st w')/\∃ks r,pP same q w st a=(w,ks)::r:=by
 cases same with
 |true=>
  obtain⟨ks,r,rfl⟩:=I rfl;refine⟨λj w' h g e x f hu=>?_,λj w' hu h=>h (w,(q,st)::ks) (.head _) (q,st) (.head _) hu,_,_,rfl⟩;cases e with
  |head=>exact h (w,(q,st)::ks) (.head _) x (.tail _ f) hu
  |tail _ e=>exact h g (.tail _ e) x f hu
 |false=>
  refine⟨λj w' h g e x f hu=>h g (.tail _ e) x f hu,λj w' hu h=>h (w,[(q,st)]) (.head _) (q,st) (.head _) hu,_,_,rfl⟩
theorem Fs{K:Env->x4->Prop}{bs:Array Nat}(V:lI ops bs=true)(W:Region.noSelect ops=true)(X:∀c a w,¬Q (.panic c) a w)(M:∀o∈ops.toList,∀t,o.dst=σ t->t∈D)(Y:nl N ops.toList=true):
  ∀(fuel:Nat)(p:Array Bool)(same:Bool)(s:List (x4×List (Nat×(x4->Prop))))(e:Env)(a:Act)(w:x4),Down ops p->(same=true->∃ks r,s=(w,ks)::r)->
   mp P free ops bs fuel p same s e w K->S9 N e a->
   (∀a' w',mq N free K D a w a' w'->Q .normal a' w')->iI r P ops bs Q fuel p s a w:=by
 have F:∀{j:Nat}{o:T5},ops[j]?=σ o->o∈ops.toList:=λh=>by
  rw[<-R3]at h;exact x6 h
 have ok:∀{j:Nat}{o:T5},ops[j]?=σ o->jC N o.dst=true:=λh=>by
  simp only[nl,List.all_eq_true]at Y;exact Y _ (F h)
 intro fuel;induction fuel with
 |zero=>
  intro p same s e a w A O h C B;unfold mp at h;cases y:Region.ready .any ops p with
  |nil=>rw[y]at h;exact⟨y,B a w ⟨e,h,C,gI.refl _ _,λ_=>cC.refl _ _⟩⟩
  |cons i l=>rw[y]at h;exact h.elim
 |succ fuel R=>
  intro p same s e a w A O h C B;unfold mp at h;cases y:Region.ready .any ops p with
  |nil=>
   rw[y]at h;refine⟨λ_=>B a w ⟨e,h,C,gI.refl _ _,λ_=>cC.refl _ _⟩,λi hi=>?_⟩;rw[y]at hi;cases hi
  |cons i l=>
   rw[y]at h;simp only at h;cases G:mo ops (i::l)with
   |some q=>
    rw[G]at h;simp only at h;obtain⟨ae,o,f,Z⟩:=ur G;cases H:Region.free .any ops p q with
    |false=>rw[H]at h;exact h.elim
    |true=>
     rw[H,f]at h;simp only[cond_true]at h;obtain⟨v,st,aa,I,z,ab⟩:=Fq h C (ok f);have L:q∈Region.ready .any ops p:=by rw[y];exact ae
     cases hm:lH o with
     |true=>
      rw[hm]at z;refine iI.take V W X f Z (w0:=w) (ev':=s) (λ_ _ h=>h) (λh=>by rw[hm]at h;cases h) fuel p a w A (Region.free_spec f H) L aa (.inr (.inl (Ext.refl _))) ?_;exact R _ same s I _ w (A.set L) O z ab λa' w' x=>B a' w' (x.step (gI.put a v λt E=>M o (F f) t E) λ_=>cC.refl _ _)
     |false=>
      rw[hm]at z;obtain⟨h1,af,ag⟩:=Fr (bs:=bs) (q:=q) (st:=st) O;refine iI.take V W X f Z (w0:=w) (ev':=pP same q w st s) h1 (λ_=>af) fuel p a w A (Region.free_spec f H) L aa (.inr (.inl (Ext.refl _))) ?_;exact R _ true _ I _ w (A.set L) (λ_=>ag) z ab λa' w' x=>B a' w' (x.step (gI.put a v λt E=>M o (F f) t E) λ_=>cC.refl _ _)
   |none=>
    rw[G]at h;simp only at h;refine⟨(λac=>by rw[y]at ac;cases ac),λj ad=>?_⟩;have S:=ad;rw[y]at S;have ah:=ut G j S;have x:=xY h j S;cases f:ops[j]? with
    |none=>rw[f]at x;exact x.elim
    |some o=>
     rw[f]at x;simp only at x;unfold wpOpIn;simp only[f];have next:∀T J,fl N free (λI w'=>nk bs j w' (mp P free ops bs fuel (p.setIfInBounds j true) false s I w' K) s) o a w T J->
       uq ops bs s j w J/\iI r P ops bs Q fuel (p.setIfInBounds j true) s T J:=by
      rintro T J ⟨ai,v,z,aj,rfl,ak⟩;obtain⟨z,al⟩:=uo z;exact⟨⟨λh=>(by rw[ah]at h;cases h),λ_=>al⟩,
       R _ false s ai _ J (A.set ad) (λh=>by cases h) z aj λa' w' x=>B a' w' (x.step (gI.put a v λt E=>M o (F f) t E) ak)⟩
     rcases xU (r:=r) (Q:=Q) x C (ok f)with⟨hw,U⟩|⟨hw,U⟩
     .rw[if_pos hw];exact T5.wpIn_mono next U
     .rw[hw];exact⟨λ_ _=>trivial,next _ _ U⟩
theorem Ft(hm:P.follows .mixedOrders=true){K:Env->x4->Prop}{id:Nat}{e:Env}{a:Act}(p:lI ops (Region.before ops)=true)(q:∀c a w,¬Q (.panic c) a w)(s:∀o∈ops.toList,∀t,o.dst=σ t->t∈D)(y:nl N ops.toList=true)(h:∀w',Ext w w'->Ext w' w->cL w w'->uk P free ops e w' K)(z:S9 N e a)(A:∀a' w',mq N free K D a w a' w'->Q .normal a' w'):
  (Code.region id ops true).wpIn (ey r) 0 P Q a w:=by
 refine wpIn_region_any hm ?_;have h:=h {w with drawn:=w.drawn+1} (rr w _) ⟨o6 _,λ_ _ h _=>h⟩ (pK w _ (Nat.le_succ _));unfold uk at h;cases f:Region.noSelect ops with
 |false=>rw[f]at h;exact h.elim
 |true=>
  rw[f]at h;refine iI.any _ _ _ _ _ (Fs p f q s y ops.size _ false [] e a _ ?_ (λh=>by cases h) h z λa' w' B=>A a' w' (B.step (gI.refl _ _) λ_=>(pK w _ (Nat.le_succ _)).b));intro x o _ j;rcases Nat.lt_or_ge x ops.size with h'|h'
  .simp[h']at j
  .simp[h']at j
end
def jg(t:Nat):List Nat->Bool
 |[]=>false
 |s::r=>bif S2 s t then true else jg t r
theorem uu{t:Nat}:∀{l:List Nat},jg t l=true↔t∈l
 |[]=>by simp[jg]
 |s::r=>by
  simp only[jg];cases h:S2 s t with
  |true=>simp[Nat.eq_of_beq_eq_true h]
  |false=>
   have:=Nat.ne_of_beq_eq_false h;simp[uu (l:=r),R2 this]
def nn:List T5->List Nat
 |[]=>[]
 |o::l=>match o.dst with
  |some d=>d::nn l
  |none=>nn l
def tmpsOf:List S8->List Nat
 |[]=>[]
 | .tmp t::l=>t::tmpsOf l
 |_::l=>tmpsOf l
def Fu(ops:Array T5)(o:T5):List Nat:=
 match o.guard with
 |some (j,_)=>match(ops[j]?).bind (·.dst)with
  |some s=>[s]
  |none=>[]
 |none=>[]
def rB(D:List Nat):List Nat->List Nat
 |[]=>[]
 |t::r=>bif jg t D then rB D r else t::rB D r
def uv(D:List Nat):List Nat->List Nat
 |[]=>[]
 |t::r=>bif jg t D then t::uv D r else uv D r
def xZ(ops:Array T5):List T5->List Nat->List Nat
 |[],_=>[]
 |o::l,D=>rB D (tmpsOf (opsOf o.op)++Fu ops o)++xZ ops l (match o.dst with
  |some d=>d::D
  |none=>D)
def dC:Code->List Nat
 | .region _ ops _=>nn ops.toList
 | .seq a b=>dC a++dC b
 | .cond _ a b=>dC a++dC b
 | .block _ c=>dC c
 | .loop c=>dC c
 | .scope c=>dC c
 |_=>[]
def jD(id:Nat):Code->Nat
 | .seq a b=>jD id a+jD id b
 | .cond _ a b=>jD id a+jD id b
 | .block _ c=>jD id c
 | .loop c=>jD id c
 | .scope c=>jD id c
 | .exit i=>bif S2 i id then 1 else 0
 | .rangeFunc _ _ _ b=>jD id b
 |_=>0
def Fv(ops:Array T5):Bool:=
 let bs:=Region.before ops;let a:=λ(i:Nat)=>match ops[i]? with|some o=>!(jf o)|none=>false
 (W5 ops.size).any λj=>a j&&((W5 j).any λi=>a i&&(!((bs.getD j 0).testBit i)&& !((bs.getD i 0).testBit j)))
def kQ:Code->Nat
 | .region _ ops e=>bif (e&&Fv ops)||ops.any (·.guard.isSome)then 2 else 1
 | .seq a b=>bif S2 (kQ a) 0 then 0 else kQ b
 | .cond _ a b=>kQ a+kQ b
 | .block id c=>kQ c+jD id c
 | .loop _=>0
 | .scope c=>kQ c
 | .exit _=>0
 | .goto _=>0
 | .ret=>0
 | .refuse _=>0
 |_=>1
def lJ:Code->List Nat
 | .region _ ops _=>nn ops.toList
 | .seq a b=>lJ a++lJ b
 | .cond _ a b=>bif S2 (kQ a) 0 then lJ b else bif S2 (kQ b) 0 then lJ a else uv (lJ a) (lJ b)
 | .block id c=>bif S2 (jD id c) 0 then lJ c else[]
 | .scope c=>lJ c
 |_=>[]
def reads:Code->List Nat
 | .region _ ops _=>xZ ops ops.toList []
 | .seq a b=>reads a++rB (lJ a) (reads b)
 | .cond c a b=>tmpsOf [c]++(reads a++reads b)
 | .block _ c=>reads c
 | .loop c=>reads c
 | .scope c=>reads c
 | .rangeFunc f _ a b=>tmpsOf [f]++(reads a++reads b)
 |_=>[]
def kh:Code->Bool
 | .seq a b=>kh a||kh b
 | .cond _ a b=>kh a||kh b
 | .block _ c=>kh c
 | .loop c=>kh c
 | .scope c=>kh c
 | .rangeFunc ..=>true
 |_=>false
def wf(N:Nat):Code->Bool
 | .region _ ops e=>nl N ops.toList&&(!e||lI ops (Region.before ops))
 | .seq a b=>wf N a&&wf N b
 | .cond _ a b=>wf N a&&wf N b
 | .block _ c=>wf N c
 | .loop c=>wf N c
 | .scope c=>wf N c
 | .rangeFunc _ f a b=>(f.toList.all λt=>Nat.blt t N)&&(wf N a&&wf N b)
 |_=>true
def np:Nat->Type->Type
 |0,β=>β
 |n+1,β=>x3->np n β
def app{β:Type}:(n:Nat)->np n β->List x3->β
 |0,f,_=>f
 |n+1,f,[]=>app n (f undef) []
 |n+1,f,v::r=>app n (f v) r
def lam{β:Type}:(n:Nat)->(List x3->β)->np n β
 |0,f=>f []
 |n+1,f=>λv=>lam n λr=>f (v::r)
def rC:(n:Nat)->np n Prop->Prop
 |0,p=>p
 |n+1,p=>∀v,rC n (p v)
theorem rD{β:Type}:∀(n:Nat)(f:List x3->β)(vs:List x3),vs.length=n->app n (lam n f) vs=f vs
 |0,f,[],_=>rfl
 |n+1,f,v::r,h=>by
  simp only[app,lam];exact rD n _ r (by simpa using h)
theorem rE:∀(n:Nat)(p:np n Prop)(vs:List x3),rC n p->app n p vs
 |0,_,_,h=>h
 |n+1,_,[],h=>rE n _ [] (h undef)
 |n+1,_,v::r,h=>rE n _ r (h v)
def Fw(n:Nat)(vs:List x3)(w:x4)(B:List x3->x4->(List x3->x4->Prop)->Prop):Prop:=
 ∃(a:np n (x4->Prop))(e:np n (x4->Nat)),app n a vs w/\
  rC n (lam n λus=>∀w',app n a us w'->B us w' λf h=>app n a f h/\app n e f h<app n e us w')
def Fx(w:x4)(B:x4->(x4->Prop)->Prop):Prop:=
 ∃(a:x4->Prop)(e:x4->Nat),a w/\∀w',a w'->B w' λf=>a f/\e f<e w'
def bU(a:x3)(w:x4)(B:x3->x4->(x3->x4->Prop)->Prop):Prop:=
 ∃(e:x3->x4->Prop)(f:x3->x4->Nat),e a w/\∀a w',e a w'->B a w' λa' h=>e a' h/\f a' h<f a w'
def b4(a b:x3)(w:x4)(B:x3->x3->x4->(x3->x3->x4->Prop)->Prop):Prop:=
 ∃(e:x3->x3->x4->Prop)(f:x3->x3->x4->Nat),e a b w/\∀a b w',e a b w'->B a b w' λa' h j=>e a' h j/\f a' h j<f a b w'
def mw(a b c:x3)(w:x4)(B:x3->x3->x3->x4->(x3->x3->x3->x4->Prop)->Prop):Prop:=
 ∃(e:x3->x3->x3->x4->Prop)(f:x3->x3->x3->x4->Nat),e a b c w/\
  ∀a b c w',e a b c w'->B a b c w' λa' h j p=>e a' h j p/\f a' h j p<f a b c w'
def pR(a b c d:x3)(w:x4)(B:x3->x3->x3->x3->x4->(x3->x3->x3->x3->x4->Prop)->Prop):Prop:=
 ∃(e:x3->x3->x3->x3->x4->Prop)(f:x3->x3->x3->x3->x4->Nat),e a b c d w/\
  ∀a b c d w',e a b c d w'->B a b c d w' λa' h j p q=>e a' h j p q/\f a' h j p q<f a b c d w'
def pS(a b c d e:x3)(w:x4)(B:x3->x3->x3->x3->x3->x4->(x3->x3->x3->x3->x3->x4->Prop)->Prop):Prop:=
 ∃(f:x3->x3->x3->x3->x3->x4->Prop)(h:x3->x3->x3->x3->x3->x4->Nat),f a b c d e w/\∀a b c d e w',f a b c d e w'->B a b c d e w' λa' j p q r s=>f a' j p q r s/\h a' j p q r s<h a b c d e w'
def Fy(a b c d e f:x3)(w:x4)(B:x3->x3->x3->x3->x3->x3->x4->(x3->x3->x3->x3->x3->x3->x4->Prop)->Prop):Prop:=
 ∃(h:x3->x3->x3->x3->x3->x3->x4->Prop)(j:x3->x3->x3->x3->x3->x3->x4->Nat),h a b c d e f w/\∀a b c d e f w',h a b c d e f w'->B a b c d e f w' λa' p q r s x y=>h a' p q r s x y/\j a' p q r s x y<j a b c d e f w'
def ct{α:Type}(ax:α)(B:α->Prop):Prop:=B ax
def uw(n:Nat)(w:x4)(K:x4->Prop):Prop:=∀w',Ext w w'->Ext w' w/\fA n w w'->K w'
def Over(n:Nat)(w:x4)(K:x4->Prop):Prop:=∀w',Ext w w'->Ext w' w/\fA n w w'->e0 w w'->K w'
def ef(w:x4)(K:x4->Prop):Prop:=∀w',Ext w w'->Ext w' w->cL w w'->K w'
def ki(e:Env):List Nat->Option (List x3)
 |[]=>σ []
 |t::r=>match look e t with
  |some x=>match ki e r with
   |some vs=>σ (x.val::vs)
   |none=>ν
  |none=>ν
def jh:List Nat->List x3->Env->Env
 |t::r,v::vs,e=>(t,.v v)::jh r vs e
 |_,_,e=>e
def lK(D:List Nat):Env->Env
 |[]=>[]
 |(t,x)::r=>bif jg t D then lK D r else(t,x)::lK D r
def pT(N:Nat)(D R:List Nat):List Nat:=(W5 N).filter λt=>jg t D&&jg t R
def pU(N:Nat)(D R:List Nat)(e:Env):List Nat:=(W5 N).filter λt=>jg t D&&((look e t).isSome&&jg t R)
def ji:Code->Bool
 | .seq a b=>ji a||ji b
 | .cond _ a b=>ji a||ji b
 | .block _ c=>ji c
 | .loop c=>ji c
 | .scope c=>ji c
 | .rangeFunc _ _ a b=>ji a||ji b
 | .ret=>true
 |_=>false
def Fz(i:Nat)(l:List Nat):List Nat:=bif jg i l then l else i::l
def rF:List Nat->List Nat->List Nat
 |[],l=>l
 |i::r,l=>Fz i (rF r l)
def ux(i:Nat):List Nat->List Nat
 |[]=>[]
 |j::r=>bif S2 i j then ux i r else j::ux i r
def jE:Code->List Nat
 | .seq a b=>rF (jE a) (jE b)
 | .cond _ a b=>rF (jE a) (jE b)
 | .block id c=>ux id (jE c)
 | .loop c=>jE c
 | .scope c=>jE c
 | .rangeFunc _ _ a b=>rF (jE a) (jE b)
 | .exit i=>[i]
 |_=>[]
def nq:List (Nat×(x4->Prop))->Nat->x4->Prop
 |[],_,_=>False
 |(j,k)::r,i,w=>(i=j/\k w)\/nq r i w
def uy(K:Nat->x4->Prop):List Nat->List (Nat×(x4->Prop))
 |[]=>[]
 |i::r=>(i,λw=>K i w)::uy K r
theorem x0{K:Nat->x4->Prop}:∀{l:List Nat}{i:Nat}{w:x4},nq (uy K l) i w->K i w
 |[],_,_,h=>h.elim
 |j::r,i,w,h=>by
  rcases h with⟨rfl,h⟩|h
  .exact h
  .exact x0 h
section
variable(P:V1)
def oF{a:Type}(G:Bool)(g:Q2)(cap:List x3)(p:a)(q:a->Prop)(r:a->List x3->a->x4->Prop)(h:x4->Prop):Prop:=
 Enters P g/\∀(l:Nat)(ax e:a->x4->Prop)(w:x4),
  (∀k J U,Ext J U->cC w.heap.size J U->ax k J->ax k U)->(∀k J U,Ext J U->cC w.heap.size J U->e k J->e k U)->
  (∀k j vs w',h w'->r k vs j w'->ax k w'->hR P l vs w' λv f=>(v= .bool true/\h f/\ax j f/\(G=true->cL w' f))\/(v= .bool false/\e k f))->
  h w->ax p w->gH P g (.func (.yield l) #[] #[]::cap) w λ_ w'=>(∃k,q k/\ax k w')\/∃k,e k w'
def uz(G:Bool)(g:Q2)(cap:List x3)(n:Nat)(h:Nat->List x3->x4->Prop)(f:x4->Prop):Prop:=
 Enters P g/\∀(l:Nat)(ax a:Nat->x4->Prop)(w:x4),
  (∀k J U,Ext J U->cC w.heap.size J U->ax k J->ax k U)->(∀k J U,Ext J U->cC w.heap.size J U->a k J->a k U)->
  (∀k vs w',k<n->f w'->h k vs w'->ax k w'->hR P l vs w' λv e=>(v= .bool true/\f e/\ax (k+1) e/\(G=true->cL w' e))\/(v= .bool false/\a k e))->
  f w->ax 0 w->gH P g (.func (.yield l) #[] #[]::cap) w λ_ w'=>ax n w'\/∃k,k<n/\a k w'
def pV{e:Type}(o G:Bool)(g:Q2)(cap:List x3)(p:e)(q:e->Prop)(s:e->List x3->e->x4->Prop)(h:(Nat->Prop)->x4->Prop):Prop:=
 Enters P g/\∀(l:Nat)(ax f:(Nat->Prop)->e->x4->Prop)(w:x4),
  (∀D k J U,ae (λr=>o=true/\w.heap.size<=r/\¬D r) J U->fA w.heap.size J U->ax D k J->ax D k U)->
  (∀D k J U,ae (λr=>o=true/\w.heap.size<=r/\¬D r) J U->fA w.heap.size J U->f D k J->f D k U)->
  (∀D k j vs w',(∀r,D r->w.heap.size<=r/\r<w'.heap.size)->w.heap.size<=w'.heap.size->h D w'->s k vs j w'->ax D k w'->hR P l vs w' λv a=>
   (v= .bool true/\(∃D',(∀r,D' r->D r\/w'.heap.size<=r/\r<a.heap.size)/\(∀r,D r->D' r)/\h D' a/\ax D' j a)/\(G=true\/o=true->cL w' a)/\w'.heap.size<=a.heap.size/\(o=true->ae (λr=>r<w.heap.size\/D r) w' a))\/(o=false/\v= .bool false/\f D k a))->
  (h (λ_=>False) w)->ax (λ_=>False) p w->gH P g (.func (.yield l) #[] #[]::cap) w λ_ w'=>(∃D k,q k/\ax D k w')\/∃D k,f D k w'
abbrev oG(g:Q2)(cap:List x3)(n:Nat)(a:Nat->List x3->x4->Prop)(e:x4->Prop):Prop:=uz P false g cap n a e
def FA(z:x3)(q:Nat)(w:x4)(B:List x3->x4->(Exit->x4->Prop)->Prop)(A C:x4->Prop)(E:List (Nat×(x4->Prop))):Prop:=
 ∃(h:Type)(o G:Bool)(g:Q2)(cap:Array x3)(x:h)(y:h->Prop)(s:h->List x3->h->x4->Prop)(e:(Nat->Prop)->x4->Prop)(f:(Nat->Prop)->h->x4->Prop)(j:(Nat->Prop)->h->Exit->x4->Prop),
  z= .func (.func g) #[] cap/\pV P o G g cap.toList x y s e/\(∀k vs p w,s k vs p w->vs.length=q)/\
  (∀m w w',Ext w w'->e m w->e m w')/\(∀m k J U,ae (λr=>o=true/\w.heap.size<=r/\¬m r) J U->fA w.heap.size J U->f m k J->f m k U)/\(∀m k ex J U,ae (λr=>o=true/\w.heap.size<=r/\¬m r) J U->fA w.heap.size J U->j m k ex J->j m k ex U)/\
  e (λ_=>False) w/\f (λ_=>False) x w/\
  rC q (lam q λvs=>∀m k p w',(∀r,m r->w.heap.size<=r/\r<w'.heap.size)->w.heap.size<=w'.heap.size->e m w'->s k vs p w'->f m k w'->B vs w' λex a=>match ex with
   | .normal=>bif o then(∃bW,(∀r,bW r->m r\/w'.heap.size<=r/\r<a.heap.size)/\(∀r,m r->bW r)/\e bW a/\f bW p a)/\e0 w' a/\ae (λr=>r<w.heap.size\/m r) w' a else e m a/\f m p a/\(G=true->e0 w' a)
   |ex=>bif o then False else j m k ex a)/\
  (∀m k w',y k->f m k w'->A w')/\(∀m k w',j m k .ret w'->C w')/\(∀m k i w',j m k (.exit i) w'->nq E i w')
def kj(z:x3)(w:x4)(B:x3->x4->(Exit->x4->Prop)->Prop)(A C:x4->Prop)(E:List (Nat×(x4->Prop))):Prop:=
 ∃(j:Type)(o G:Bool)(g:Q2)(cap:Array x3)(x:j)(y:j->Prop)(s:j->List x3->j->x4->Prop)(f:(Nat->Prop)->x4->Prop)(h:(Nat->Prop)->j->x4->Prop)(p:(Nat->Prop)->j->Exit->x4->Prop),
  z= .func (.func g) #[] cap/\pV P o G g cap.toList x y s f/\(∀k vs q w,s k vs q w->vs.length=1)/\
  (∀m w w',Ext w w'->f m w->f m w')/\(∀m k J U,ae (λr=>o=true/\w.heap.size<=r/\¬m r) J U->fA w.heap.size J U->h m k J->h m k U)/\(∀m k ex J U,ae (λr=>o=true/\w.heap.size<=r/\¬m r) J U->fA w.heap.size J U->p m k ex J->p m k ex U)/\
  f (λ_=>False) w/\h (λ_=>False) x w/\
  (∀a,∀m k q w',(∀r,m r->w.heap.size<=r/\r<w'.heap.size)->w.heap.size<=w'.heap.size->f m w'->s k [a] q w'->h m k w'->B a w' λex e=>match ex with
   | .normal=>bif o then(∃bW,(∀r,bW r->m r\/w'.heap.size<=r/\r<e.heap.size)/\(∀r,m r->bW r)/\f bW e/\h bW q e)/\e0 w' e/\ae (λr=>r<w.heap.size\/m r) w' e else f m e/\h m q e/\(G=true->e0 w' e)
   |ex=>bif o then False else p m k ex e)/\
  (∀m k w',y k->h m k w'->A w')/\(∀m k w',p m k .ret w'->C w')/\(∀m k i w',p m k (.exit i) w'->nq E i w')
def nr(z:x3)(w:x4)(B:x3->x3->x4->(Exit->x4->Prop)->Prop)(A C:x4->Prop)(E:List (Nat×(x4->Prop))):Prop:=
 ∃(j:Type)(o G:Bool)(g:Q2)(cap:Array x3)(x:j)(y:j->Prop)(s:j->List x3->j->x4->Prop)(f:(Nat->Prop)->x4->Prop)(h:(Nat->Prop)->j->x4->Prop)(p:(Nat->Prop)->j->Exit->x4->Prop),
  z= .func (.func g) #[] cap/\pV P o G g cap.toList x y s f/\(∀k vs q w,s k vs q w->vs.length=2)/\
  (∀m w w',Ext w w'->f m w->f m w')/\(∀m k J U,ae (λr=>o=true/\w.heap.size<=r/\¬m r) J U->fA w.heap.size J U->h m k J->h m k U)/\(∀m k ex J U,ae (λr=>o=true/\w.heap.size<=r/\¬m r) J U->fA w.heap.size J U->p m k ex J->p m k ex U)/\
  f (λ_=>False) w/\h (λ_=>False) x w/\
  (∀a b,∀m k q w',(∀r,m r->w.heap.size<=r/\r<w'.heap.size)->w.heap.size<=w'.heap.size->f m w'->s k [a,b] q w'->h m k w'->B a b w' λex e=>match ex with
   | .normal=>bif o then(∃bW,(∀r,bW r->m r\/w'.heap.size<=r/\r<e.heap.size)/\(∀r,m r->bW r)/\f bW e/\h bW q e)/\e0 w' e/\ae (λr=>r<w.heap.size\/m r) w' e else f m e/\h m q e/\(G=true->e0 w' e)
   |ex=>bif o then False else p m k ex e)/\
  (∀m k w',y k->h m k w'->A w')/\(∀m k w',p m k .ret w'->C w')/\(∀m k i w',p m k (.exit i) w'->nq E i w')
theorem uz.s{P:V1}{G:Bool}{g:Q2}{cap:List x3}{f:Nat->List x3->x4->Prop}{a:x4->Prop}(h:uz P G g cap n f a):
  oF P G g cap 0 (λk=>k=n) (λk vs j w=>k<n/\j=k+1/\f k vs w) a:=by
 refine⟨h.1,λl ax p w q r x ha y=>?_⟩;have:=h.2 l ax (λk w=>p k w) w q r (λk vs w' hk hz A B=>x k (k+1) vs w' hz ⟨hk,rfl,A⟩ B) ha y;cases this with
 |code h1 C=>exact .code h1 (C.mono λ_ _ ⟨v,E,e⟩=>⟨v,E,e.elim (λh=>.inl ⟨n,rfl,h⟩) (λ⟨k,_,h⟩=>.inr ⟨k,h⟩)⟩)
 |ext v w' h1 e=>exact .ext v w' h1 (e.elim (λh=>.inl ⟨n,rfl,h⟩) (λ⟨k,_,h⟩=>.inr ⟨k,h⟩))
theorem oF.x{P:V1}{s:Type}{G:Bool}{g:Q2}{cap:List x3}{E:s}{F:s->Prop}{H:s->List x3->s->x4->Prop}{y:x4->Prop}(h:oF P G g cap E F H y):pV P false G g cap E F H λ_=>y:=by
 refine⟨h.1,λl ax K w L M N hy O=>?_⟩;have:=h.2 l (λk w'=>w.heap.size<=w'.heap.size/\∃D,(∀r,D r->w.heap.size<=r/\r<w'.heap.size)/\ax D k w') (λk w'=>∃D,K D k w') w
  (λk J U f A ⟨I,D,a,j⟩=>⟨Y7 I f.size,D,λr z=>⟨(a r z).1,T8 (a r z).2 f.size⟩,L D k J U (f.aa _) A.o j⟩) (λk J U f A ⟨D,j⟩=>⟨D,M D k J U (f.aa _) A.o j⟩)
  (λk Q vs w' hz S ⟨I,D,a,j⟩=>hR.mono (N D k Q vs w' a I hz S j) λv W T=>T.imp (λ⟨h1,⟨D',d1,_,p,B⟩,q,e,_⟩=>⟨h1,p,⟨Y7 I e,D',λr z=>(d1 r z).elim (λh=>⟨(a r h).1,T8 (a r h).2 e⟩) λh=>⟨Y7 I h.1,h.2⟩,B⟩,λV=>q (.inl V)⟩) λ⟨_,h1,p⟩=>⟨h1,D,p⟩) hy ⟨o6 _,_,λ_ h=>h.elim,O⟩
 cases this with
 |code h1 p=>exact .code h1 (p.mono λ_ _ ⟨v,B,q⟩=>⟨v,B,q.imp (λ⟨k,e,_,D,_,C⟩=>⟨D,k,e,C⟩) (λ⟨k,D,h⟩=>⟨D,k,h⟩)⟩)
 |ext v w' h1 q=>exact .ext v w' h1 (q.imp (λ⟨k,e,_,D,_,C⟩=>⟨D,k,e,C⟩) (λ⟨k,D,h⟩=>⟨D,k,h⟩))
theorem kj.old{P:V1}{C:x3}{B:x3->x4->(Exit->x4->Prop)->Prop}{E F:x4->Prop}{H:List (Nat×(x4->Prop))}(h:∃(f:Type)(G:Bool)(g:Q2)(cap:Array x3)(s:f)(y:f->Prop)(r:f->List x3->f->x4->Prop)(e:x4->Prop)(j:f->x4->Prop)(p:f->Exit->x4->Prop),
  C= .func (.func g) #[] cap/\oF P G g cap.toList s y r e/\(∀k vs q w,r k vs q w->vs.length=1)/\
  (∀w w',Ext w w'->e w->e w')/\(∀k w w',Ext w w'->j k w->j k w')/\(∀k ex w w',Ext w w'->p k ex w->p k ex w')/\
  e w/\j s w/\
  (∀a,∀k q w',e w'->r k [a] q w'->j k w'->B a w' λex z=>match ex with
   | .normal=>e z/\j q z/\(G=true->e0 w' z)
   |ex=>p k ex z)/\
  (∀k w',y k->j k w'->E w')/\(∀k w',p k .ret w'->F w')/\(∀k i w',p k (.exit i) w'->nq H i w')):kj P C w B E F H:=by
 obtain⟨f,G,g,cap,s,y,r,e,j,p,h1,I,K,L,M,N,O,Q,R,S,T,V⟩:=h;exact⟨f,false,G,g,cap,s,y,r,λ_=>e,λ_=>j,λ_=>p,h1,I.x,K,λ_=>L,λ_ k J U A _=>M k J U (A.ext λ_ _ h=>nomatch h.1),λ_ k ex J U A _=>N k ex J U (A.ext λ_ _ h=>nomatch h.1),O,Q,
  λa _ k q w' _ _ he W X=>R a k q w' he W X,λ_=>S,λ_=>T,λ_=>V⟩
theorem nr.old{P:V1}{C:x3}{B:x3->x3->x4->(Exit->x4->Prop)->Prop}{E F:x4->Prop}{H:List (Nat×(x4->Prop))}(h:∃(f:Type)(G:Bool)(g:Q2)(cap:Array x3)(s:f)(y:f->Prop)(r:f->List x3->f->x4->Prop)(e:x4->Prop)(j:f->x4->Prop)(p:f->Exit->x4->Prop),
  C= .func (.func g) #[] cap/\oF P G g cap.toList s y r e/\(∀k vs q w,r k vs q w->vs.length=2)/\
  (∀w w',Ext w w'->e w->e w')/\(∀k w w',Ext w w'->j k w->j k w')/\(∀k ex w w',Ext w w'->p k ex w->p k ex w')/\
  e w/\j s w/\
  (∀a b,∀k q w',e w'->r k [a,b] q w'->j k w'->B a b w' λex z=>match ex with
   | .normal=>e z/\j q z/\(G=true->e0 w' z)
   |ex=>p k ex z)/\
  (∀k w',y k->j k w'->E w')/\(∀k w',p k .ret w'->F w')/\(∀k i w',p k (.exit i) w'->nq H i w')):nr P C w B E F H:=by
 obtain⟨f,G,g,cap,s,y,r,e,j,p,h1,I,K,L,M,N,O,Q,R,S,T,V⟩:=h;exact⟨f,false,G,g,cap,s,y,r,λ_=>e,λ_=>j,λ_=>p,h1,I.x,K,λ_=>L,λ_ k J U A _=>M k J U (A.ext λ_ _ h=>nomatch h.1),λ_ k ex J U A _=>N k ex J U (A.ext λ_ _ h=>nomatch h.1),O,Q,
  λa b _ k q w' _ _ he W X=>R a b k q w' he W X,λ_=>S,λ_=>T,λ_=>V⟩
def eD(N:Nat)(free:fB):Code->List Nat->Env->x4->(Exit->Env->x4->Prop)->Prop
 | .skip,_,e,w,K=>K .normal e w
 | .label _,_,e,w,K=>K .normal e w
 | .ret,_,e,w,K=>K .ret e w
 | .exit i,_,e,w,K=>K (.exit i) e w
 | .region _ ops p,_,e,w,K=>
  bif p then ef w λw'=>uk P free ops e w' (K .normal)
  else oD P free ops ops.toList e w (K .normal)
 | .seq x y,rd,e,w,K=>
  bif Nat.ble 2 (kQ x)then
   ct (lam (pT N (dC x) (reads y++rd)).length λvs=>λw'=>eD N free y rd (jh (pT N (dC x) (reads y++rd)) vs (lK (dC x) e)) w' K)
    λax=>eD N free x (reads y++rd) e w λex a w'=>match ex with
     | .normal=>match ki a (pT N (dC x) (reads y++rd))with
      |some vs=>app (pT N (dC x) (reads y++rd)).length ax vs w'
      |none=>False
     |ex=>K ex a w'
  else eD N free x (reads y++rd) e w λex a w'=>match ex with
   | .normal=>eD N free y rd a w' K
   |ex=>K ex a w'
 | .cond c x y,rd,e,w,K=>
  match eI e c with
  |some (.b true)=>eD N free x rd e w K
  |some (.b false)=>eD N free y rd e w K
  |some (.v v)=>Split v (eD N free x rd e w K) (eD N free y rd e w K)
  |some .u=>False
  |none=>False
 | .block id c,rd,e,w,K=>eD N free c rd e w λex a w'=>match ex with
  | .exit i=>bif S2 i id then K .normal a w' else K (.exit i) a w'
  |ex=>K ex a w'
 | .loop c,rd,e,w,K=>
  match ki e (pU N (dC c) (reads c++rd) e)with
  |some vs=>
   Fw (pU N (dC c) (reads c++rd) e).length vs w λus w' k=>
    eD N free c (reads c++rd) (jh (pU N (dC c) (reads c++rd) e) us (lK (dC c) e)) w' λex a h=>match ex with
     | .normal=>match ki a (pU N (dC c) (reads c++rd) e)with
      |some q=>k q h
      |none=>False
     |ex=>K ex a h
  |none=>False
 | .scope c,rd,e,w,K=>eD N free c rd e w K
 | .rangeFunc f j r body,_,e,w,K=>
  bif free.1 then False else
  match eI e f with
  |some s=>
   FA P s.val j.size w
    (λvs w' k=>eD N free r (reads body) (jh j.toList.reverse vs.reverse e) w' λex a h=>match ex with
     | .normal=>Over w.heap.size h λz=>eD N free body [] a z λex _ A=>k ex A
     |_=>False)
    (λw'=>K .normal e w') (bif ji body then λw'=>K .ret e w' else λ_=>False) (uy (λi w'=>K (.exit i) e w') (jE body))
  |none=>False
 | .goto _,_,_,_,_=>False
 | .refuse _,_,_,_,_=>False
end
theorem rG{w0:x4}(h:cC n w0 w){l:Nat}(j:w0.heap.size<=l)(o:Obj):cC n w0 (w.putObj l o):=
 ⟨h.os,h.tape,h.output,by simpa using h.size,λr x a I=>by
  have e:=(j5.1 a).1;rw[Q3 Ω];exact h.aV r x a I,λr x f a I=>by
  have e:=(j5.1 a).1;rw[Q3 Ω];exact h.old r x f a I⟩
theorem FB{w0:x4}(h:e0 w0 w){l:Nat}{a:Obj}(f:w.heap[l]?=σ a)(j:rq a=false)(o:Obj):e0 w0 (w.putObj l o):=λr x p I=>by
 have h1:=h r x p I;by_cases e:r=l
 .subst e;rw[f]at h1;cases h1;rw[j]at I;cases I
 .rw[Q3 e];exact h1
theorem pW{l:Nat}{e:Obj}(h:w.heap[l]?=σ e)(j:fz e=false)(o:Obj):Ext w (w.putObj l o):=
 ⟨Ξ,λr x a I=>by
  by_cases f:r=l
  .subst f;rw[h]at a;cases a;rw[j]at I;cases I
  .rw[Q3 f];exact a⟩
theorem x1{l:Nat}{o:Obj}(f:fz o=false):Ext (w.putObj l o) w:=
 ⟨Ξ,λr x a I=>by
  by_cases e:r=l
  .subst e;rcases Nat.lt_or_ge r w.heap.size with h|h
   .rw[x4.putObj_heap_same h]at a;cases a;rw[f]at I;cases I
   .rw[Array.getElem?_eq_none (by simpa using h)]at a;cases a
  .rw[Q3 e]at a;exact a⟩
theorem oH(w:x4)(o:Obj):Ext w (w.alloc o):=pL w o
theorem oI(w:x4)(o:Obj):cL w (w.alloc o):=pM w o
def kk(D:Nat):Deferred:={target:=.collected D,args:=#[]}
def lL(w:x4)(e:List Deferred):Prop:=∃a:List Nat,e=a.map kk/\a.Nodup/\∀D∈a,w.heap[D]?=σ (.deferred (σ []))
theorem lL.cr{a:List Deferred}(h:lL w a)(e:cC n w w'):lL w' a:=by
 obtain⟨f,h1,j,p⟩:=h;exact⟨f,h1,j,λD q=>e.aV D _ (p D q) rfl⟩
section
variable{P:V1}{N:Nat}
def FC(w:x4)(e f:List Deferred):Prop:=∃a:List Nat,f=a.map kk++e/\∀D∈a,w.heap.size<=D
def gJ(n:Nat)(w:x4)(e:List Deferred)(w':x4)(a:List Deferred):Prop:=cC n w w'/\lL w' a/\FC w e a
theorem gJ.refl{a:List Deferred}(h:lL w a):gJ n w a w a:=⟨cC.refl _ _,h,[],rfl,λ_ h=>by cases h⟩
theorem gJ.trans{J:x4}{a e f:List Deferred}(h:gJ n w a J e)(k:gJ n J e w' f):gJ n w a w' f:=by
 obtain⟨j,A,p,a3,a4⟩:=h;obtain⟨q,r,s,x,y⟩:=k;refine⟨j.trans q,r,s++p,by simp[x,a3],λD z=>?_⟩;rcases j0.1 z with h|h
 .exact Y7 j.size (y D h)
 .exact a4 D h
theorem gJ.same{a:List Deferred}(h:lL w a)(e:cC n w w'):gJ n w a w' a:=⟨e,h.cr e,[],rfl,λ_ h=>by cases h⟩
def kR:Exit->Bool
 | .panic _=>false
 | .outgrown=>false
 | .goto _=>false
 |_=>true
def my(N:Nat)(free:fB)(f:Bool)(K:Exit->Env->x4->Prop)(D:List Nat)(a:Act)(w:x4)(ex:Exit)(a':Act)(w':x4):Prop:=
 kR ex=true/\∃e,K ex e w'/\S9 N e a'/\(∀t,t∉D->a'.tmps.getD t undef=a.tmps.getD t undef)/\(f=true->a'.defers=a.defers)/\
  (free.1=false->gJ free.2 w a.defers w' a'.defers)
theorem my.step{free:fB}{f j:Bool}{K:Exit->Env->x4->Prop}{D':List Nat}{a e a':Act}{J:x4}{ex:Exit}(h:my N free j K D' e J ex a' w')(q:∀t,t∈D'->t∈D)(hk:∀t,t∉D->e.tmps.getD t undef=a.tmps.getD t undef)(r:f=true->j=true)(s:f=true->e.defers=a.defers)(x:free.1=false->gJ free.2 w a.defers J e.defers):my N free f K D a w ex a' w':=by
 obtain⟨y,z,h1,A,B,C,E⟩:=h;exact⟨y,z,h1,A,λt p=>(B t λh=>p (q t h)).trans (hk t p),λh=>(C (r h)).trans (s h),λh=>(x h).trans (E h)⟩
theorem rH{D:List Nat}{t:Nat}{x:eC}:∀{e:Env},look (lK D e) t=σ x->look e t=σ x/\t∉D
 |[],h=>by cases h
 |(s,y)::r,h=>by
  simp only[lK]at h;cases hm:jg s D with
  |true=>
   rw[hm]at h;simp only[cond_true]at h;obtain⟨h1,f⟩:=rH h;refine⟨?_,f⟩;simp only[look];cases a:S2 s t with
   |true=>exact absurd (uu.1 hm) (by rw[Nat.eq_of_beq_eq_true a];exact f)
   |false=>exact h1
  |false=>
   rw[hm]at h;simp only[cond_false,look]at h ⊢;cases a:S2 s t with
   |true=>
    rw[a]at h;refine⟨h,λj=>?_⟩;rw[<-Nat.eq_of_beq_eq_true a]at j;rw[uu.2 j]at hm;cases hm
   |false=>
    rw[a]at h;exact rH h
theorem uA{a:Act}{e:Env}:∀{S:List Nat}{vs:List x3},S9 N e a->(∀p∈S.zip vs,a.tmps.getD p.1 undef=p.2)->S9 N (jh S vs e) a
 |[],_,h,_=>by simpa[jh]using h
 |t::r,[],h,_=>by simpa[jh]using h
 |t::r,v::vs,h,j=>by
  have q:=uA (S:=r) (vs:=vs) h λp w=>j p (by simp[w]);refine⟨q.1,λs x I=>?_⟩;simp only[jh,look]at I;cases f:S2 t s with
  |true=>
   rw[f]at I;simp only[cond_true,X7]at I;subst I;rw[<-Nat.eq_of_beq_eq_true f];exact j (t,v) Ξ
  |false=>rw[f]at I;exact q.2 s x I
theorem rI{e:Env}{a:Act}(s:S9 N e a):∀{S:List Nat}{vs:List x3},ki e S=σ vs->vs.length=S.length/\∀p∈S.zip vs,a.tmps.getD p.1 undef=p.2
 |[],vs,h=>by simp[ki]at h;subst h;simp
 |t::r,vs,h=>by
  simp only[ki]at h;cases j:look e t with
  |none=>rw[j]at h;cases h
  |some x=>
   rw[j]at h;simp only at h;cases q:ki e r with
   |none=>rw[q]at h;cases h
   |some us=>
    rw[q]at h;simp only[X7]at h;subst h;obtain⟨h1,w⟩:=rI s q;refine⟨by simp[h1],λp f=>?_⟩;simp only[List.zip_cons_cons,V4]at f;rcases f with rfl|f
    .exact s.2 t x j
    .exact w p f
theorem FD{a a':Act}{e f:Env}(j:S9 N e a)(p:S9 N f a')(hk:∀t,t∉D->a'.tmps.getD t undef=a.tmps.getD t undef):S9 N (lK D e) a':=
 ⟨p.1,λt x h=>by
  obtain⟨h1,q⟩:=rH h;rw[hk t q];exact j.2 t x h1⟩
theorem FE{o:T5}{t:Nat}(a:o.dst=σ t)(l:List T5)(hm:o∈l):t∈nn l:=by
 induction l with
 |nil=>cases hm
 |cons o' l e=>
  simp only[nn];rcases V4.1 hm with h|h
  .rw[<-h,a];simp
  .have:=e h;cases o'.dst with
   |none=>exact this
   |some d=>exact .tail _ this
theorem x2{free:fB}{j:Bool}{K:Exit->Env->x4->Prop}{a a':Act}(p:free.1=false->lL w a.defers)(h:mq N free (K .normal) D a w a' w'):
  my N free j K D a w .normal a' w':=by
 obtain⟨q,h1,r,e,s⟩:=h;exact⟨rfl,q,h1,r,e.2,λ_=>e.1,λf=>by rw[e.1];exact gJ.same (p f) (s f)⟩
theorem x9:∀(a:List Nat)(vs:List x3)(p:Nat)(v:x3)(e:Env),a.length=vs.length->jh (a++[p]) (vs++[v]) e=jh a vs ((p,.v v)::e)
 |[],[],_,_,_,_=>rfl
 |[],_::_,_,_,_,h=>by simp at h
 |_::_,[],_,_,_,h=>by simp at h
 |q::a,u::vs,p,v,e,h=>by
  simp only[List.cons_append,jh];rw[x9 a vs p v e (by simpa using h)]
theorem ya:∀(a:List Nat)(vs:List x3)(iJ:Array x3)(e:Env),a.length=vs.length->(a.all λt=>Nat.blt t N)=true->S9 N e {tmps:=iJ,defers:=[]}->
  S9 N (jh a.reverse vs.reverse e) {tmps:=(a.zip vs).foldl (λiJ (p:Nat×x3)=>iJ.setIfInBounds p.1 p.2) iJ,defers:=[]}
 |[],[],_,_,_,_,h=>h
 |[],_::_,_,_,h,_,_=>by simp at h
 |_::_,[],_,_,h,_,_=>by simp at h
 |p::a,v::vs,iJ,e,q,f,h=>by
  have j:a.length=vs.length:=by simpa using q
  simp only[List.all_cons,U3]at f;simp only[List.zip_cons_cons,S0,List.reverse_cons];rw[x9 _ _ _ _ _ (by simpa using j)];exact ya a vs _ _ j f.2 (h.put (d:=σ p) (x:=.v v) (v:=v) f.1 rfl)
def jj(free:fB)(c:Code):Bool:=free.1|| !kh c
theorem yb:∀f a b:Bool,(f|| !(a||b))=true->(f|| !a)=true:=Φ
theorem yc:∀f a b:Bool,(f|| !(a||b))=true->(f|| !b)=true:=Φ
def exitCode:Exit->Option Code
 | .ret=>σ .ret
 | .exit id=>σ (.exit id)
 |_=>ν
end
section
variable{P:V1}{N:Nat}
def Sound(P:V1)(N:Nat)(c:Code):Prop:=
 ∀(free:fB)(r:Option Nat)(rd:List Nat)(e:Env)(a:Act)(w:x4)(K:Exit->Env->x4->Prop)(Q:Exit->Act->x4->Prop),
  wf N c=true->(∀l,r=σ l->free.1=false/\∃f,w.heap[l]?=σ (.loop f))->(free.1=false->lL w a.defers)->
  eD P N free c rd e w K->S9 N e a->(∀ex a' w',my N free (jj free c) K (dC c) a w ex a' w'->Q ex a' w')->(∀h a w,¬Q (.panic h) a w)->
  c.wpIn (ey r) 0 P Q a w
theorem FF{x y:Code}(aa:Sound P N x)(ab:Sound P N y):Sound P N (.seq x y):=by
 intro free r rd e a w K Q F O ac h R S T;simp only[wf,U3]at F;have U:∀t,t∈dC x->t∈dC (.seq x y):=λt q=>by simp[dC,q]
 have ad:∀t,t∈dC y->t∈dC (.seq x y):=λt q=>by simp[dC,q]
 have V:jj free (.seq x y)=true->jj free x=true:=λh=>yb _ _ _ h;have ae:jj free (.seq x y)=true->jj free y=true:=λh=>yc _ _ _ h;refine wpIn_seq ?_;have W:∀(f:Env)(j:Act)(J:x4),eD P N free y rd f J K->S9 N f j->(∀t,t∉dC x->j.tmps.getD t undef=a.tmps.getD t undef)->
   (jj free (.seq x y)=true->j.defers=a.defers)->(free.1=false->gJ free.2 w a.defers J j.defers)->y.wpIn (ey r) 0 P Q j J:=by
  intro f j J h1 s hk A p;refine ab free r rd f j J K Q F.2 ?_ (λh=>(p h).2.1) h1 s ?_ T
  .intro l af;obtain⟨X,ag,E⟩:=O l af;exact⟨X,ag,(p X).1.aV _ _ E rfl⟩
  .intro ex a' w' B;exact S ex a' w' (B.step ad (λt q=>hk t λh=>q (U t h)) ae A p)
 have Y:∀(z:Exit->Env->x4->Prop),eD P N free x (reads y++rd) e w z->
   (∀f j J,my N free (jj free x) z (dC x) a w .normal j J->S9 N f j->z .normal f J->(∀t,t∉dC x->j.tmps.getD t undef=a.tmps.getD t undef)->
    (jj free (.seq x y)=true->j.defers=a.defers)->(free.1=false->gJ free.2 w a.defers J j.defers)->y.wpIn (ey r) 0 P Q j J)->
   (∀ex f J,ex≠ .normal->z ex f J->K ex f J)->x.wpIn (ey r) 0 P (Exit.then (y.wpIn (ey r) 0 P Q) Q) a w:=by
  intro z C p ah;refine aa free r _ e a w z _ F.1 O ac C R ?_ ?_
  .intro ex j J B;cases ex with
   |normal=>
    have ai:=B;obtain⟨E,f,h1,G,H,I,L⟩:=B;exact p f j J ai G h1 H (λh=>I (V h)) L
   |_=>
    obtain⟨E,f,h1,G,H,I,L⟩:=B;refine S _ j J ⟨E,f,ah _ f J Ξ h1,G,λt q=>H t λh=>q (U t h),λh=>I (V h),L⟩
  .intro aj a w ak;exact T aj a w ak
 simp only[eD]at h;cases Z:Nat.ble 2 (kQ x)with
 |false=>
  rw[Z]at h;refine Y _ h (λf j J _ s h1 hk A p=>W f j J h1 s hk A p) ?_;intro ex f J M h1;cases ex<;>first|exact absurd rfl M|exact h1
 |true=>
  rw[Z]at h;refine Y _ h (λf j J _ s h1 hk A p=>?_) ?_
  .simp only at h1;cases C:ki f (pT N (dC x) (reads y++rd))with
   |none=>rw[C]at h1;exact h1.elim
   |some vs=>
    rw[C]at h1;obtain⟨al,am⟩:=rI s C;simp only at h1;rw[rD _ _ _ al]at h1;exact W _ j J h1 (uA (FD R s hk) am) hk A p
  .intro ex f J M h1;cases ex<;>first|exact absurd rfl M|exact h1
theorem FG{c:Code}(ac:Sound P N c):Sound P N (.loop c):=by
 intro free r rd e a w K Q V ad ae h F af ag;simp only[wf]at V;simp only[eD]at h;generalize ax:pU N (dC c) (reads c++rd) e=S at h;cases G:ki e S with
 |none=>rw[G]at h;exact h.elim
 |some vs=>
  rw[G]at h;simp only at h;obtain⟨ah,ai,q,aj⟩:=h;obtain⟨ak,al⟩:=rI F G;let Inv:Act->x4->Prop:=λf J=>∃us,us.length=S.length/\app S.length ah us J/\(∀p∈S.zip us,f.tmps.getD p.1 undef=p.2)/\f.tmps.size=N/\
   (∀t,t∉dC c->f.tmps.getD t undef=a.tmps.getD t undef)/\(jj free c=true->f.defers=a.defers)/\(free.1=false->gJ free.2 w a.defers J f.defers)
  let s:Act->List x3:=λf=>S.map λt=>f.tmps.getD t undef;have W:∀(f:Act)(us:List x3),us.length=S.length->(∀p∈S.zip us,f.tmps.getD p.1 undef=p.2)->s f=us:=by
   intro f us y z;apply List.ext_getElem
   .simp[s,y]
   .intro i h1 j;have hi:i<S.length:=by simpa[s]using h1
    have am:(S[i],us[i])∈S.zip us:=by
     have:=S4 (l:=S.zip us) (n:=i) (by simp[List.length_zip,y,hi]);simpa using this
    simpa[s]using z _ am
  refine wpIn_loop Inv (λf J=>app S.length ai (s f) J) ⟨vs,ak,q,al,F.1,λ_ _=>rfl,λ_=>rfl,λA=>gJ.refl (ae A)⟩ ?_;rintro f J ⟨us,y,an,z,ao,hk,A,B⟩;have C:=rE S.length _ us aj;rw[rD _ _ _ y]at C;have C:=C J an;have ap:S9 N (jh S us (lK (dC c) e)) f:=by
   refine uA (a:=f) (e:=lK (dC c) e) ⟨ao,λt x E=>?_⟩ z;obtain⟨h1,j⟩:=rH E;rw[hk t j];exact F.2 t x h1
  refine ac free r _ _ f J _ _ V ?_ (λh=>(B h).2.1) C ap ?_ ?_
  .intro l aq;obtain⟨X,au,q⟩:=ad l aq;exact⟨X,au,(B X).1.aV _ _ q rfl⟩
  .intro ex H U I;have Y:∀t,t∉dC c->H.tmps.getD t undef=a.tmps.getD t undef:=by
    obtain⟨_,_,_,_,L,_,_⟩:=I;exact λt E=>(L t E).trans (hk t E)
   cases ex with
   |normal=>
    obtain⟨q,M,h1,j,L,O,R⟩:=I;simp only at h1;cases T:ki M S with
    |none=>rw[T]at h1;exact h1.elim
    |some Z=>
     rw[T]at h1;obtain⟨aa,ab⟩:=rI j T;refine⟨⟨Z,aa,h1.1,ab,j.1,Y,λh=>(O h).trans (A h),λh=>(B h).trans (R h)⟩,?_⟩;rw[W f us y z,W H Z aa ab];exact h1.2
   |_=>
    obtain⟨q,M,h1,j,L,O,R⟩:=I;exact af _ H U ⟨q,M,h1,j,Y,λh=>(O h).trans (A h),λh=>(B h).trans (R h)⟩
  .intro av a w aw;exact ag av a w aw
theorem FH{o:Obj}(h:fz o=false):book o=true\/rq o=true:=by cases o<;>first|exact .inl rfl|exact .inr rfl|cases h
theorem FI{l:Nat}{f s h:x4}{w y:Obj}(z:f.heap[l]?=σ w)(a:cC n f s)(e:cC n (s.putObj l y) h)(A:l<h.heap.size)(hi:e0 f h):cL f (h.putObj l w):=
 ⟨e.os.trans a.os,jB.trans e.tape a.tape,e.output.trans a.output,by have h1:=a.size;have B:=e.size;simp at B ⊢;omega,λr x j I=>by
  by_cases q:r=l
  .subst q;rw[z]at j;cases j;exact x4.putObj_heap_same A
  .rw[Q3 q];rcases FH I with p|p
   .exact e.aV r x (by rw[Q3 q];exact a.aV r x j p) p
   .exact hi r x j p⟩
theorem FJ{f:S8}{S:Array Tmp}{W body:Code}(bd:Sound P N W)(ah:Sound P N body):Sound P N (.rangeFunc f S W body):=by
 intro free r rd e a w K Q aL R av h ab be b1;simp only[wf,U3]at aL;obtain⟨bf,bg,bh⟩:=aL;simp only[eD]at h;obtain⟨fr,b⟩:=free;cases fr with
 |true=>exact h.elim
 |false=>
  simp only[cond_false]at h;cases aw:eI e f with
  |none=>rw[aw]at h;exact h.elim
  |some b2=>
   rw[aw]at h;obtain⟨aM,o,G,g,cap,b3,b4,b5,ai,aN,ay,bi,⟨aO,bj⟩,bk,haP,aj,az,hbl,bm,bn,bo,bp,bq⟩:=h;have br:∀m k ex w',kR ex=true->ex≠ .normal->ay m k ex w'->K ex e w':=by
    intro m k ex w' ac aA ak;cases ex with
    |normal=>exact absurd rfl aA
    |ret=>
     have:=bp m k w' ak;cases R:ji body with
     |true=>rw[R]at this;exact this
     |false=>rw[R]at this;exact this.elim
    |exit i=>exact x0 (bq m k i w' ak)
    |_=>cases ac
   have bt:a.eval f= .func (.func g) #[] cap:=by rw[ab.eI aw];exact bi
   refine wpIn_rangeFunc ?_;intro fn _;obtain⟨D,mark,l,z,s,bu,C,aQ,al,L,aR,am⟩:∃(D:Nat)(mark:List Deferred)(l:Nat)(z:x4)(s:LoopState->Option Code->Loop),
     (Instr.enterLoop fn a.tmps S W body (ey r).round).run P w= .ok (l,mark) z/\
     s=(λst bw=>{state:=st,pending:=bw,fn,tmps:=a.tmps,params:=S,assign:=W,body,defers:=D})/\
     z.heap[l]?=σ (.loop (s .ready ν))/\(mark=[]\/(mark=[kk D]/\z.heap[D]?=σ (.deferred (σ []))/\w.heap.size<=D/\D≠l))/\Ext w z/\cL w z/\w.heap.size<=l:=by
    cases r with
    |none=>
     refine⟨w.heap.size,[kk w.heap.size],w.heap.size+1,_,_,run_enterLoop_outer _ _ _ _ _,rfl,?_,.inr ⟨rfl,?_,o6 _,Ω⟩,?_,?_,Ω⟩
     .have:=x4.alloc_heap_new (w.alloc (.deferred (σ []))) (.loop {state:=.ready,pending:=ν,fn,tmps:=a.tmps,params:=S,assign:=W,body,defers:=w.heap.size});rwa [x4.size_alloc]at this
     .exact (Below.heap_alloc _ _ _ Ξ).trans (x4.alloc_heap_new w _)
     .exact (oH w _).trans (oH _ _)
     .exact (oI w _).trans (oI _ _)
    |some bx=>
     obtain⟨_,bz,M⟩:=R bx rfl;exact⟨bz.defers,[],w.heap.size,_,_,run_enterLoop_inner M _ _ _ _ _,rfl,x4.alloc_heap_new w _,.inl rfl,oH _ _,oI _ _,o6 _⟩
   let O:x4->Prop:=λj=>mark=[]\/(mark=[kk D]/\j.heap[D]?=σ (.deferred (σ []))/\w.heap.size<=D/\D≠l);have aB:∀{m:Nat}{A B:x4},cC m A B->O A->O B:=λE h=>h.imp id λ⟨h1,q,y⟩=>⟨h1,E.aV _ _ q rfl,y⟩;have an:∀{A:x4}(o:Obj),O A->O (A.putObj l o):=λo h=>h.imp id λ⟨h1,q,y,H⟩=>⟨h1,(Q3 H).trans q,y,H⟩;have bA:cC b w z:=aR.b;have aS:=(j5.1 aQ).1;have aT:∀{A B:x4},fA z.heap.size A B->O A->O B:=λE h=>h.imp id λ⟨h1,q,y⟩=>⟨h1,E.old _ _ (by
    rcases al with hm|⟨_,av,_⟩
    .rw[hm]at h1;cases h1
    .exact (j5.1 av).1) q rfl,y⟩
   have ad:∀{A:x4}(o:Obj),fA w.heap.size A (A.putObj l o):=λ{A}o=>⟨rfl,.ke,rfl,Ξ,λr x R ak _=>by rw[Q3 Ω];exact ak⟩;let ax:(Nat->Prop)->aM->x4->Prop:=λm k j=>aN m k j/\j.heap[l]?=σ (.loop (s .ready ν))/\cC b w j/\O j;let aU:(Nat->Prop)->aM->x4->Prop:=λm k j=>∃ex c,kR ex=true/\exitCode ex=σ c/\ay m k ex j/\j.heap[l]?=σ (.loop (s .done (σ c)))/\cC b w j/\O j;have own:∀{m:Nat->Prop}{A B:x4},ae (λr=>o=true/\z.heap.size<=r/\¬m r) A B->ae (λr=>o=true/\w.heap.size<=r/\¬m r) A B:=λh=>h.mono λr _ h=>⟨h.1,Y7 L.size h.2.1,h.2.2⟩;have aC:=bj l ax aU z (λm k A B he E ⟨h1,q,y,H⟩=>⟨aj m k A B (own he) (E.mono L.size) h1,E.old _ _ aS q rfl,y.xN E L.size,aT E H⟩)
    (λm k A B he E ⟨ex,c,M,h1,q,y,H,af⟩=>⟨ex,c,M,h1,az m k ex A B (own he) (E.mono L.size) q,E.old _ _ aS y rfl,H.xN E L.size,aT E af⟩) ?round (haP _ _ _ L hbl) ⟨aj _ _ _ _ (L.aa _) aR.o bm,aQ,bA,al⟩
   case round=>
    intro m k ao vs j aW bB hai aX ⟨hi,ap,bC,bD⟩;have aD:=bk k vs ao j aX;have aY:=run_yield (P:=P) (args:=vs.toArray) ap (by rw[C];simp[aD]);rw[C]at aY;refine⟨fn,_,W,body,aY,roundIn_of_wpIn trivial ?_⟩;have bE:(S.zip vs.toArray).foldl (λtmps x=>match x with|(t,a)=>tmps.setIfInBounds t a) a.tmps=(S.toList.zip vs).foldl (λiJ (p:Nat×x3)=>iJ.setIfInBounds p.1 p.2) a.tmps:=by
     rw[<-Array.foldl_toList,Array.toList_zip]
    have aZ:=ya (N:=N) S.toList vs a.tmps e (by simp[aD]) bf (show S9 N e {tmps:=a.tmps,defers:=[]}from⟨ab.1,ab.2⟩);rw[<-bE]at aZ;have bF:j.heap[l]?=σ (.loop (s .ready ν)):=ap;refine bd (false,b) (σ l) _ _ _ j _ _ bg (λl' aE=>⟨rfl,by cases aE;exact⟨_,ap⟩⟩) (λ_=>⟨[],rfl,List.nodup_nil,λD al=>by cases al⟩) (by have ah:=rE _ _ vs bn;rw[rD _ _ _ aD]at ah;exact ah m k ao j (λr R=>⟨Y7 L.size (aW r R).1,(aW r R).2⟩) (Y7 L.size bB) hai aX hi) aZ ?_ (λ_ _ _ h=>h);intro ex a1 F aF;obtain⟨M,b6,h1,q,y,H,af⟩:=aF;obtain⟨T,bG,_⟩:=af rfl;cases ex with
    |normal=>
     have X:F.heap[l]?=σ (.loop (s .ready ν)):=T.aV _ _ ap rfl;have bH:=(j5.1 X).1;refine⟨_,run_beginRound X (by rw[C]),?_⟩;have bI:Ext F (F.putObj l (.loop {s .ready ν with state:=.busy})):=pW X rfl _;have a2:(F.putObj l (.loop {s .ready ν with state:=.busy})).heap[l]?=σ (.loop {s .ready ν with state:=.busy}):=x4.putObj_heap_same bH;have bJ:lL (F.putObj l (.loop {s .ready ν with state:=.busy})) a1.defers:=by
      obtain⟨aq,Y,Z,ag⟩:=bG;refine⟨aq,Y,Z,λD' U=>?_⟩;have:=ag D' U;have aA:D'≠l:=λhe=>by rw[he,X]at this;cases this
      rw[Q3 aA];exact this
     have a6:cC b w (F.putObj l (.loop {s .ready ν with state:=.busy})):=rG (bC.trans T) am _;have a7:=an (.loop {s .ready ν with state:=.busy}) (aB T bD);have bK:=h1 _ bI ⟨x1 rfl,ad _⟩ (FB (e0.refl _) X rfl _);refine ah (false,b) (σ l) _ _ a1 _ _ _ bh (λl' aE=>⟨rfl,by cases aE;exact⟨_,a2⟩⟩) (λ_=>bJ) bK q ?_ (λ_ _ _ h=>h);intro bL b7 I aF;obtain⟨aG,b8,g1,b9,ca,cb,bM⟩:=aF;obtain⟨J,_,_⟩:=bM rfl;have aH:I.heap[l]?=σ (.loop {s .ready ν with state:=.busy}):=J.aV _ _ a2 rfl;have aI:=(j5.1 aH).1;have a8:=λbN=>run_endRound (P:=P) bN aH;have au:∀(o:Obj),Ext I (I.putObj l o):=λo=>pW aH rfl o;have ba:∀(ex:Exit)(c:Code),kR ex=true->exitCode ex=σ c->(bif o then False else ay m k ex I)->
       ∃v w',(Instr.endRound l (σ c)).run P I= .ok v w'/\∃aJ,Ending.returned v= .returned aJ/\((aJ= .bool true/\(∃bW,(∀r,bW r->m r\/j.heap.size<=r/\r<w'.heap.size)/\(∀r,m r->bW r)/\ai bW w'/\ax bW ao w')/\(G=true\/o=true->cL j w')/\j.heap.size<=w'.heap.size/\(o=true->ae (λr=>r<z.heap.size\/m r) j w'))\/(o=false/\aJ= .bool false/\aU m k w')):=by
      intro ex c ac bO bb;cases o with
      |true=>exact bb.elim
      |false=>
       refine⟨_,_,a8 (σ c),_,rfl,.inr ⟨rfl,rfl,ex,c,ac,bO,az m k ex _ _ ((au _).aa _) (ad _) bb,?_,rG (a6.trans J) am _,an _ (aB J a7)⟩⟩;rw[x4.putObj_heap_same aI,C];rfl
     cases bL with
     |normal=>
      have bP:j.heap.size<=I.heap.size:=by
       have h1:=T.size;have q:=J.size;simp at q;omega
      obtain⟨⟨bW,d1,d2,Y,Z⟩,bQ,bR⟩:(∃bW,(∀r,bW r->m r\/j.heap.size<=r/\r<I.heap.size)/\(∀r,m r->bW r)/\ai bW I/\aN bW ao I)/\(G=true\/o=true->e0 j I)/\(o=true->ae (λr=>r<z.heap.size\/m r) j I):=by
       cases o with
       |true=>exact⟨g1.1,λ_=>g1.2.1,λ_=>g1.2.2.mono λr _ h=>h.imp (λh=>T8 h L.size) id⟩
       |false=>exact⟨⟨m,λr h=>.inl h,λ_ h=>h,g1.1,g1.2.1⟩,λh=>g1.2.2 (h.elim id λh=>nomatch h),λh=>nomatch h⟩
      refine⟨_,_,a8 ν,_,rfl,.inl ⟨rfl,⟨bW,by simpa using d1,d2,haP _ _ _ (au _) Y,aj _ _ _ _ ((au _).aa _) (ad _) Z,?_,rG (a6.trans J) am _,an _ (aB J a7)⟩,λbS=>?_,?_,λbT=>(bR bT).trans ((au _).aa _)⟩⟩
      .rw[x4.putObj_heap_same aI,C];rfl
      .have:=FI bF T J aI (bQ bS);subst C;exact this
      .simpa using bP
     |ret=>exact ba .ret _ rfl rfl g1
     |exit id=>exact ba (.exit id) _ rfl rfl g1
     |goto t=>cases aG
     |panic bU=>cases aG
     |outgrown=>cases aG
    |_=>exact h1.elim
   have aC:=gH.calls P aC aO;refine⟨l,mark,z,{target:=.fn (.func g) cap,args:=#[.func (.yield l) #[] #[]]},z,g,#[.func (.yield l) #[] #[]]++cap,z,bu,?_,λ_ _=>trivial,?_,ud _ _,?_⟩
   .simp only[resolve,bt];simp[go_sem]
   .simp only[invoke];exact aO _ _
   .have bV:(#[.func (.yield l) #[] #[]]++cap:Array x3)=(x3.func (.yield l) #[] #[]::cap.toList).toArray:=by apply Array.toList_inj.1;simp
    rw[bV];refine CallsIn.mono (xO aC) ?_;rintro cc F ⟨v,rfl,bX⟩;have left:∀(V:Loop)(ex:Exit),kR ex=true->F.heap[l]?=σ (.loop V)->V.state≠ .busy->cC b w F->O F->K ex e (F.putObj l (.loop {V with state:=.exhausted}))->
      Q ex {a with defers:=mark++a.defers} (F.putObj l (.loop {V with state:=.exhausted})):=by
     intro V ex ac X cd T bc bY;have J:cC b w (F.putObj l (.loop {V with state:=.exhausted})):=rG T am _;refine be ex _ _ ⟨ac,e,bY,⟨ab.1,ab.2⟩,λ_ _=>rfl,(λh=>by simp[jj,kh]at h),λ_=>⟨J,?_,?_⟩⟩
     case refine_2=>
      rcases bc with hm|⟨hm,_,bZ,_⟩
      .exact⟨[],by simp[hm],λ_ h=>by cases h⟩
      .exact⟨[D],by simp[hm],λD' U=>by simp at U;omega⟩
     obtain⟨aq,Y,Z,ag⟩:=av rfl;have aK:=an (.loop {V with state:=.exhausted}) bc;rcases aK with hm|⟨hm,aK,bZ,_⟩
     .exact⟨aq,by simp[hm,Y],Z,λD' U=>J.aV _ _ (ag D' U) rfl⟩
     .refine⟨D::aq,by simp[hm,Y],List.nodup_cons.2 ⟨λb0=>?_,Z⟩,λD' U=>?_⟩
      .have:=(j5.1 (ag D b0)).1;omega
      .rcases V4.1 U with h|h
       .rw[h];exact aK
       .exact J.aV _ _ (ag D' h) rfl
    rcases bX with⟨m,k,hk,h1,q,y,H⟩|⟨m,k,ex,c,M,h1,q,y,H,af⟩
    .refine⟨ν,_,by have:=run_endLoop (P:=P) q (by rw[C];simp);rw[C]at this;exact this,?_⟩;have:=left (s .ready ν) .normal rfl q (by rw[C];simp) y H (bo m _ _ hk (aj m _ _ _ ((pW q rfl _).aa _) (ad _) h1));rw[C]at this;exact this
    .refine⟨σ c,_,by have:=run_endLoop (P:=P) y (by rw[C];simp);rw[C]at this;exact this,?_⟩;have:=left (s .done (σ c)) ex M y (by rw[C];simp) H af (br m k ex _ M (by intro he;rw[he]at h1;cases h1) (az m _ _ _ _ ((pW y rfl _).aa _) (ad _) q));rw[C]at this;cases ex with
     |normal=>cases h1
     |ret=>cases h1;exact wpIn_ret this
     |exit id=>cases h1;exact wpIn_exit this
     |goto t=>cases M
     |panic bU=>cases M
     |outgrown=>cases M
theorem rJ{b:Frame}{a:Act}{k:List Item}{cs:List Frame}{c:Code}:
  step P (lone (b.atR a (.code (.scope c)::k)) cs w)= .next (lone (b.atR a (.code c:: .inScope c::k)) cs w):=
 step_lone_go (by simp[stepG,stepG.exec,Frame.atR])
theorem FK{b:Frame}{a:Act}{k:List Item}{cs:List Frame}{c:Code}:
  step P (lone (b.atR a (.inScope c::k)) cs w)= .next (lone (b.atR a k) cs w):=
 step_lone_go (by simp[stepG,stepG.exec,Frame.atR])
theorem FL{F:Fence}{c:Code}{Q:Exit->Act->x4->Prop}{a:Act}(h:c.wpIn F n P (λex a' w'=>kR ex=true/\Q ex a' w') a w):
  (Code.scope c).wpIn F n P Q a w:=by
 intro b k cs A p q;have f:(lone (b.atR a (.code (.scope c)::k)) cs w).fenced P F:=fenced_calm p q rfl;obtain⟨e,r,s,⟨x,y⟩,j⟩:=h b (.inScope c::k) cs A p q;have z:∀id,exitTo id (.inScope c::k)=exitTo id k:=λid=>by simp[exitTo]
 cases e with
 |normal=>exact⟨.normal,r,s,y,.head f rJ (StepsIn.trans j (.one (fenced_calm p q rfl) FK))⟩
 |exit id=>
  exact⟨.exit id,r,s,y,λB hk=>.head f rJ (j.1 B (by rw[z];exact hk)),
   λC hk=>let⟨E,h1,G⟩:=j.2 C (by rw[z];exact hk);⟨E,h1,.head f rJ G⟩⟩
 |ret=>exact⟨_,r,s,y,.of_steps (.one f rJ) j⟩
 |goto l=>cases x
 |panic H=>cases x
 |outgrown=>cases x
theorem sound(hm:P.follows .mixedOrders=true)(c:Code):Sound P N c:=by
 induction c with
 |skip=>exact λfree r rd e a w K Q _ _ p h j q _=>wpIn_skip (q _ _ _ ⟨rfl,e,h,j,λ_ _=>rfl,λ_=>rfl,λE=>gJ.refl (p E)⟩)
 |label l=>exact λfree r rd e a w K Q _ _ p h j q _=>wpIn_label (q _ _ _ ⟨rfl,e,h,j,λ_ _=>rfl,λ_=>rfl,λE=>gJ.refl (p E)⟩)
 |ret=>exact λfree r rd e a w K Q _ _ p h j q _=>wpIn_ret (q _ _ _ ⟨rfl,e,h,j,λ_ _=>rfl,λ_=>rfl,λE=>gJ.refl (p E)⟩)
 |exit i=>exact λfree r rd e a w K Q _ _ p h j q _=>wpIn_exit (q _ _ _ ⟨rfl,e,h,j,λ_ _=>rfl,λ_=>rfl,λE=>gJ.refl (p E)⟩)
 |goto l=>exact λfree r rd e a w K Q _ _ p h j q _=>h.elim
 |refuse s=>exact λfree r rd e a w K Q _ _ p h j q _=>h.elim
 |region id ops aa=>
  intro free r rd e a w K Q A F p h j q G;simp only[wf,U3]at A;have W:∀o∈ops.toList,∀t,o.dst=σ t->t∈nn ops.toList:=λo ab t J=>FE J _ ab;simp only[eD]at h;cases aa with
  |false=>exact Fj W A.1 h j λa' w' B=>q _ _ _ (x2 p B)
  |true=>
   simp only[X3,Bool.false_or]at A;exact Ft hm A.2 G W A.1 (λw' h1 H I=>h w' h1 H I) j λa' w' B=>q _ _ _ (x2 p B)
 |seq x y R S=>exact FF R S
 |cond c x y R S=>
  intro free r rd e a w K Q A F p h j q G;simp only[wf,U3]at A;have X:∀ex a' w',my N free (jj free x) K (dC x) a w ex a' w'->Q ex a' w':=λex a' w' B=>q ex a' w' (by
   obtain⟨O,L,h1,H,I,M,T⟩:=B;exact⟨O,L,h1,H,λt J=>I t λh=>J (by simp[dC,h]),(λh=>M (yb _ _ _ h)),T⟩)
  have Y:∀ex a' w',my N free (jj free y) K (dC y) a w ex a' w'->Q ex a' w':=λex a' w' B=>q ex a' w' (by
   obtain⟨O,L,h1,H,I,M,T⟩:=B;exact⟨O,L,h1,H,λt J=>I t λh=>J (by simp[dC,h]),(λh=>M (yc _ _ _ h)),T⟩)
  simp only[eD]at h;cases C:eI e c with
  |none=>rw[C]at h;exact h.elim
  |some v=>
   rw[C]at h;cases v with
   |b t=>
    cases t with
    |true=>exact wpIn_cond (t:=true) (j.eI C) (R free r rd e a w K Q A.1 F p h j X G)
    |false=>exact wpIn_cond (t:=false) (j.eI C) (S free r rd e a w K Q A.2 F p h j Y G)
   |v z=>
    obtain⟨t,ac,J,E⟩:=h;refine wpIn_cond (t:=t) ((j.eI C).trans ac) ?_;cases t with
    |true=>exact R free r rd e a w K Q A.1 F p (J rfl) j X G
    |false=>exact S free r rd e a w K Q A.2 F p (E rfl) j Y G
   |u=>exact h.elim
 |block id c C=>
  intro free r rd e a w K Q A F p h j q G;simp only[wf]at A;simp only[eD]at h;refine wpIn_block (C free r rd e a w _ _ A F p h j ?_ λZ a w U=>G Z a w U);intro ex a' w' B;obtain⟨O,L,h1,H,I,M⟩:=B;cases ex with
  |exit i=>
   simp only[Exit.inBlock];simp only at h1;by_cases hi:i=id
   .rw[if_pos hi];rw[hi,Nat.beq_refl]at h1;exact q _ _ _ ⟨rfl,L,h1,H,I,M⟩
   .rw[if_neg hi];have:S2 i id=false:=by
     cases V:S2 i id with
     |true=>exact absurd (Nat.eq_of_beq_eq_true V) hi
     |false=>rfl
    rw[this]at h1;exact q _ _ _ ⟨rfl,L,h1,H,I,M⟩
  |_=>exact q _ _ _ ⟨O,L,h1,H,I,M⟩
 |loop c C=>exact FG C
 |scope c C=>
  intro free r rd e a w K Q A F p h j q G;exact FL (C free r rd e a w K (λex a' w'=>kR ex=true/\Q ex a' w') A F p h j (λex a' w' B=>⟨B.1,q ex a' w' B⟩) λZ a w U=>by cases U.1)
 |rangeFunc f ae af body ad V=>exact FJ ad V
def kS:Nat->List x3->Env
 |_,[]=>[]
 |i,v::r=>(i,.v v)::kS (i+1) r
def ns(P:V1)(e:Env)(w:x4):List ResultVar->(List x3->Prop)->Prop
 |[],K=>K []
 | .tmp t::r,K=>match look e t with
  |some x=>ns P e w r λvs=>K (x.val::vs)
  |none=>False
 | .cell a t::r,K=>match look e a with
  |some x=>V P (do loadVar t (<-asAddr x.val)) w λv=>ns P e w r λvs=>K (v::vs)
  |none=>False
def rK:List x3->x3
 |[v]=>v
 |vs=>.tuple vs.toArray
def lM(P:V1)(a:List ResultVar)(marks:Bool)(n:Nat)(Q:x3->x4->Prop):Exit->Env->x4->Prop
 | .normal,e,w| .ret,e,w=>ns P e w a λvs=>bif marks then uw n w λw'=>Q (rK vs) w' else Q (rK vs) w
 |_,_,_=>False
def mz:List ResultVar->List Nat
 |[]=>[]
 | .tmp t::r=>t::mz r
 | .cell a _::r=>a::mz r
theorem yd:∀(vs:List x3)(i t:Nat)(x:eC),look (kS i vs) t=σ x->∃j v,t=i+j/\vs[j]?=σ v/\x= .v v
 |[],_,_,_,h=>by cases h
 |v::r,i,t,x,h=>by
  simp only[kS,look]at h;cases a:S2 i t with
  |true=>
   rw[a]at h;simp only[cond_true,X7]at h;exact⟨0,v,by rw[Nat.eq_of_beq_eq_true a];rfl,rfl,h.symm⟩
  |false=>
   rw[a]at h;obtain⟨j,u,h1,e,f⟩:=yd r (i+1) t x h;exact⟨j+1,u,Ω,by simpa using e,f⟩
theorem uB(vs:List x3)(h:vs.length<=n):S9 n (kS 0 vs) {tmps:=vs.toArray++Array.replicate (n-vs.toArray.size) undef,defers:=[]}:=by
 refine⟨Θ,λt x e=>?_⟩;obtain⟨j,v,h1,a,rfl⟩:=yd vs 0 t x e;have h1:t=j:=Ω
 subst h1;have f:t<vs.length:=(x5.1 a).1;rw[Array.getD_eq_getD_getElem?,Array.getElem?_append_left (by simpa using f)];simp[a,eC.val]
def rL(iJ:Array x3):ResultVar->Sem x3
 | .tmp t=>pure (iJ.getD t undef)
 | .cell b t=>do loadVar t (<-asAddr (iJ.getD b undef))
theorem FM(fn:Func)(iJ:Array x3):results fn iJ=(do let vs <-fn.results.mapM (rL iJ);pure (if h:vs.size=1 then vs[0]else .tuple vs)):=by
 unfold results;congr 2
theorem uC{e:Env}{a:Act}{w:x4}(j:S9 N e a):∀(p:List ResultVar)(K:List x3->Prop),ns P e w p K->
  ∃vs,K vs/\vs.length=p.length/\∀w',Ext w w'->(p.mapM (rL a.tmps)).run P w'= .ok vs w'
 |[],K,h=>⟨[],h,rfl,λw' _=>by simp[V6]⟩
 | .tmp t::r,K,h=>by
  simp only[ns]at h;cases f:look e t with
  |none=>rw[f]at h;exact h.elim
  |some x=>
   rw[f]at h;obtain⟨vs,h1,q,s⟩:=uC j r _ h;refine⟨x.val::vs,h1,by simp[q],λw' hw=>?_⟩;rw[List.mapM_cons];simp only[rL,W8,V6,V0,s w' hw,j.2 t x f]
 | .cell b t::r,K,h=>by
  simp only[ns]at h;cases f:look e b with
  |none=>rw[f]at h;exact h.elim
  |some x=>
   rw[f]at h;obtain⟨v,y,h⟩:=h;obtain⟨vs,h1,q,s⟩:=uC j r _ h;refine⟨v::vs,h1,by simp[q],λw' hw=>?_⟩;rw[List.mapM_cons];have:=y w' hw;rw[<-j.2 b x f]at this;rw[rL,W8,this];simp only[V0,W8,s w' hw,V6]
theorem uD{fn:Func}{e:Env}{a:Act}(j:S9 N e a){K:List x3->Prop}(h:ns P e w fn.results.toList K):
  ∃vs,K vs/\∀w',Ext w w'->(results fn a.tmps).run P w'= .ok (rK vs) w':=by
 obtain⟨vs,h1,p,f⟩:=uC j _ _ h;refine⟨vs,h1,λw' hw=>?_⟩;have f:=f w' hw;rw[FM,W8,Array.mapM_eq_mapM_toList,map_eq_pure_bind,W8,f];simp only[V0,V6];cases vs with
 |nil=>rfl
 |cons v r=>
  cases r with
  |nil=>rfl
  |cons u r=>simp[rK]
theorem ye{fn:Func}{tmps:Array x3}{R:Ending->x4->Prop}:∀(a:List Nat)(w:x4),a.Nodup->(∀D∈a,w.heap[D]?=σ (.deferred (σ [])))->
  (∀w',Ext w w'->Ext w' w->w'.os=w.os->jB w w'->w'.output=w.output->w.heap.size=w'.heap.size->
   (∀r,r∉a->w'.heap[r]?=w.heap[r]?)->∃v,(results fn tmps).run P w'= .ok v w'/\R (.returned v) w')->
  LeavesInM Fence.wide 0 P fn tmps R (a.map kk) .returning w
 |[],w,_,_,h=>by
  obtain⟨v,h1,e⟩:=h w (Ext.refl _) (Ext.refl _) rfl .ke rfl rfl λ_ _=>rfl;exact⟨v,h1,e⟩
 |D::a,w,f,j,h=>by
  rw[List.nodup_cons]at f;have p:=j D (.head _);refine⟨Ξ,.inl ⟨D,_,rfl,run_takeDeferred p,?_⟩⟩;refine ye a _ f.2 (λD' q=>?_) λw' h1 e x y z A B=>?_
  .rw[Q3 (λhe=>f.1 (by rw[<-he];exact q))];exact j D' (.tail _ q)
  .refine h w' ((pW p rfl _).trans h1) (e.trans (x1 rfl)) x y z (by simpa using A) λr s=>?_;rw[B r λhm=>s (.tail _ hm),Q3 λhe=>s (by rw[he];exact .head _)]
theorem ai.enter(hm:P.follows .mixedOrders=true){f:Q2}{fn:Func}{c:Code}(y:P.funcs[f]?=σ fn)(z:fn.body=σ c)(A:(fn.name == "runtime.NumGoroutine")=false)(N:wf fn.ntmps c=true){args:List x3}(O:Nat.ble args.length fn.ntmps=true){w:x4}{Q:x3->x4->Prop}(h:eD P fn.ntmps (false,w.heap.size) c (mz fn.results.toList) (kS 0 args) w (lM P fn.results.toList true w.heap.size Q)):ai P f args w Q:=by
 refine .code (Enters.of P y z A) (callsIn_wide (n:=0).1 (callsIn_of_wp_marks y z trivial ?_));have R:=uB (n:=fn.ntmps) args (Nat.le_of_ble_eq_true O);refine wpIn_mono (Q:=λex a' w'=>kR ex=true/\bodyPostM Fence.wide 0 P fn (λe w'=>∃v,e= .returned v/\cL w w'/\Q v w') ex a' w') ?_ λ_ _ _ h=>h.2;refine sound hm c (false,w.heap.size) ν _ _ _ w _ _ N (λl S=>by cases S) (λ_=>⟨[],rfl,List.nodup_nil,λD q=>by cases q⟩) h R ?_ (λ_ _ _ h=>by cases h.1)
 .intro ex a' w' T;obtain⟨V,W,j,X,_,_,I⟩:=T;obtain⟨a,⟨s,B,Y,q⟩,Z,aa,ab⟩:=I rfl;have C:∀D∈s,w.heap.size<=D:=by
   intro D ac;have h1:kk D∈Z.map kk:=by
    have:kk D∈s.map kk:=l9.2 ⟨D,ac,rfl⟩;rw[<-B,aa]at this;simpa using this
   obtain⟨E,x,ad⟩:=l9.1 h1;have:E=D:=by simpa[kk]using ad
   exact this▸ab E x
  have F:lM P fn.results.toList true w.heap.size Q .ret W w'->LeavesInM Fence.wide 0 P fn a'.tmps (λe G=>∃v,e= .returned v/\cL w G/\Q v G) a'.defers .returning w':=by
   intro j;rw[B];obtain⟨vs,h1,x⟩:=uD (fn:=fn) X j;refine ye s w' Y q λU g1 ae H J K L M=>⟨_,x U g1,_,rfl,?_,h1 U g1 ⟨ae,H,J,K,Nat.le_of_eq L,λr o A p _=>by rw[M r λhm=>by have:=C r hm;omega];exact p⟩⟩;have a:=a.cr (o6 _);refine⟨H.trans a.os,J.trans a.tape,K.trans a.output,by rw[<-L];exact a.size,λr o p af=>?_⟩;have ag:=(j5.1 p).1;rw[M r λhm=>by have:=C r hm;omega];exact a.aV r o p af
  cases ex with
  |normal=>exact⟨rfl,F j⟩
  |ret=>exact⟨rfl,F j⟩
  |exit id=>exact j.elim
  |_=>cases V
theorem ai.FN(hm:P.follows .mixedOrders=true){f:Q2}{fn:Func}{c:Code}(j:P.funcs[f]?=σ fn)(p:fn.body=σ c)(s:(fn.name == "runtime.NumGoroutine")=false)(x:wf fn.ntmps c=true){args:List x3}(y:Nat.ble args.length fn.ntmps=true)(ap:kh c=false){w:x4}{Q:x3->x4->Prop}(h:eD P fn.ntmps (false,w.heap.size) c (mz fn.results.toList) (kS 0 args) w (lM P fn.results.toList false 0 Q)):ai P f args w Q:=by
 refine .code (Enters.of P j p s) (callsIn_wide (n:=0).1 (callsIn_of_wp j p trivial ?_));have z:=uB (n:=fn.ntmps) args (Nat.le_of_ble_eq_true y);refine wpIn_mono (Q:=λex a' w'=>kR ex=true/\bodyPost P fn (λe w'=>∃v,e= .returned v/\cL w w'/\Q v w') ex a' w') ?_ λ_ _ _ h=>h.2;refine sound hm c (false,w.heap.size) ν _ _ _ w _ _ x (λl A=>by cases A) (λ_=>⟨[],rfl,List.nodup_nil,λD B=>by cases B⟩) h z ?_ (λ_ _ _ h=>by cases h.1);intro ex a' w' C;obtain⟨E,F,a,G,_,H,I⟩:=C;have J:a'.defers=[]:=H (by simp[jj,ap]);have q:lM P fn.results.toList false 0 Q .ret F w'->a'.defers=[]/\∃v,(results fn a'.tmps).run P w'= .ok v w'/\∃r,Ending.returned v= .returned r/\cL w w'/\Q r w':=by
  intro a;obtain⟨vs,h1,K⟩:=uD (fn:=fn) G a;exact⟨J,_,K w' (Ext.refl _),_,rfl,(I rfl).1.cr (o6 _),h1⟩
 cases ex with
 |normal=>exact⟨rfl,q a⟩
 |ret=>exact⟨rfl,q a⟩
 |exit id=>exact a.elim
 |_=>cases E
theorem gH.enter(hm:P.follows .mixedOrders=true){f:Q2}{fn:Func}{c:Code}(j:P.funcs[f]?=σ fn)(p:fn.body=σ c)(s:(fn.name == "runtime.NumGoroutine")=false)(x:wf fn.ntmps c=true){args:List x3}(y:Nat.ble args.length fn.ntmps=true){w:x4}{Q:x3->x4->Prop}(h:eD P fn.ntmps (true,0) c (mz fn.results.toList) (kS 0 args) w (lM P fn.results.toList false 0 Q)):gH P f args w Q:=by
 refine .code (Enters.of P j p s) (callsIn_wide (n:=0).1 (callsIn_of_wp j p trivial ?_));have z:=uB (n:=fn.ntmps) args (Nat.le_of_ble_eq_true y);refine wpIn_mono (Q:=λex a' w'=>kR ex=true/\bodyPost P fn (λe w'=>∃v,e= .returned v/\Q v w') ex a' w') ?_ λ_ _ _ h=>h.2;refine sound hm c (true,0) ν _ _ _ w _ _ x (λl A=>by cases A) (λh=>by cases h) h z ?_ (λ_ _ _ h=>by cases h.1);intro ex a' w' B;obtain⟨C,E,a,F,_,G,I⟩:=B;have H:a'.defers=[]:=G rfl;have q:lM P fn.results.toList false 0 Q .ret E w'->a'.defers=[]/\∃v,(results fn a'.tmps).run P w'= .ok v w'/\∃r,Ending.returned v= .returned r/\Q r w':=by
  intro a;obtain⟨vs,h1,J⟩:=uD (fn:=fn) F a;exact⟨H,_,J w' (Ext.refl _),_,rfl,h1⟩
 cases ex with
 |normal=>exact⟨rfl,q a⟩
 |ret=>exact⟨rfl,q a⟩
 |exit id=>exact a.elim
 |_=>cases C
end
def pX(l:List S8)(d:Nat):Nat:=
 match l with
 |[]=>d
 | .tmp t::r=>pX r (Nat.lor d (Nat.shiftLeft 1 t))
 |_::r=>pX r d
def oJ:List T5->Nat->Option T5
 |[],_=>ν
 |o::_,0=>σ o
 |_::l,n+1=>oJ l n
def yf(a b:Nat):Nat:=Nat.xor a (Nat.land a b)
def pY(m t:Nat):Bool:=S2 (Nat.land (Nat.shiftRight m t) 1) 1
def kl(m t:Nat):Nat:=Nat.lor m (Nat.shiftLeft 1 t)
def FO(ops:List T5)(o:T5):Nat:=
 match o.guard with
 |none=>0
 |some (j,_)=>match oJ ops j with
  |some ⟨σ d,_,_,_,_,_⟩=>Nat.shiftLeft 1 d
  |_=>0
def rM:List T5->Nat->Nat
 |[],d=>d
 |⟨σ t,_,_,_,_,_⟩::l,d=>rM l (kl d t)
 |_::l,d=>rM l d
def yg(ops:List T5):List T5->Nat->Nat->Nat
 |[],_,r=>r
 |o::l,d,r=>yg ops l (match o.dst with|some t=>kl d t|none=>d) (Nat.lor r (yf (pX (opsOf o.op) (FO ops o)) d))
def rN:List Nat->Nat->Nat
 |[],_=>0
 |x::_,0=>x
 |_::l,n+1=>rN l n
def yh(e:Edge):Bool:=
 match e.ground with
 | .textOnly _=>false
 | .gcOnly _=>false
 |_=>true
def yi(bs:List Nat):List Edge->Nat->Nat
 |[],s=>s
 |e::r,s=>yi bs r (bif yh e then Nat.lor (kl s e.on) (rN bs e.on)else s)
def uE:List T5->List Nat->List Nat
 |[],bs=>bs
 |o::l,bs=>uE l (bs++[yi bs o.after.toList 0])
def yj:List T5->Bool
 |[]=>false
 |⟨_,_,_,_,_,σ _⟩::_=>true
 |_::l=>yj l
def uF(bs:List Nat)(j k:Nat):Bool:=!(S2 k j)&&(!(pY (rN bs j) k)&& !(pY (rN bs k) j))
def yk(bs:List Nat)(j:Nat):Nat->List T5->Bool
 |_,[]=>false
 |i,o::l=>bif Nat.ble j i then false else(!(jf o)&&uF bs j i)||yk bs j (Nat.succ i) l
def yl(ops:List T5)(bs:List Nat):Nat->List T5->Bool
 |_,[]=>false
 |j,o::l=>(!(jf o)&&yk bs j 0 ops)||yl ops bs (Nat.succ j) l
def lN:Code->Nat
 | .region _ ops e=>bif (e&&yl ops.toList (uE ops.toList []) 0 ops.toList)||yj ops.toList then 2 else 1
 | .seq a b=>bif S2 (lN a) 0 then 0 else lN b
 | .cond _ a b=>Nat.add (lN a) (lN b)
 | .block id c=>Nat.add (lN c) (jD id c)
 | .loop _=>0
 | .scope c=>lN c
 | .exit _=>0
 | .goto _=>0
 | .ret=>0
 | .refuse _=>0
 |_=>1
def ih:Code->Nat
 | .region _ ops _=>rM ops.toList 0
 | .seq a b=>Nat.lor (ih a) (ih b)
 | .cond _ a b=>Nat.lor (ih a) (ih b)
 | .block _ c=>ih c
 | .loop c=>ih c
 | .scope c=>ih c
 |_=>0
def lO:Code->Nat
 | .region _ ops _=>rM ops.toList 0
 | .seq a b=>Nat.lor (lO a) (lO b)
 | .cond _ a b=>bif S2 (lN a) 0 then lO b else bif S2 (lN b) 0 then lO a else Nat.land (lO a) (lO b)
 | .block id c=>bif S2 (jD id c) 0 then lO c else 0
 | .scope c=>lO c
 |_=>0
def gj:Code->Nat
 | .region _ ops _=>yg ops.toList ops.toList 0 0
 | .seq a b=>Nat.lor (gj a) (yf (gj b) (lO a))
 | .cond c a b=>pX [c] (Nat.lor (gj a) (gj b))
 | .block _ c=>gj c
 | .loop c=>gj c
 | .scope c=>gj c
 | .rangeFunc f _ a b=>pX [f] (Nat.lor (gj a) (gj b))
 |_=>0
def mA:Nat->Nat->Nat->List Nat
 |0,_,_=>[]
 |n+1,k,m=>bif S2 m 0 then[]else bif S2 (Nat.land m 1) 1 then k::mA n (Nat.succ k) (Nat.shiftRight m 1)else mA n (Nat.succ k) (Nat.shiftRight m 1)
def pZ(e:Env):List Nat->List Nat
 |[]=>[]
 |t::r=>match look e t with
  |some _=>t::pZ e r
  |none=>pZ e r
structure mB(B S aT:Type) where
 kT:{x:x3}->x3
 tup:List x3->x3
 no:B
 kU:B
 and:B->B->B
 or:B->B->B
 ext:x4->x4->B
 stays:S->x3->x4->B
 split:x3->B->B->B
 uG:S->x4->(x3->B)->B
 ym:S->x4->(x3->x4->B)->B
 yn:aT->x4->(x4->B)->B
 runN:{fr:Bool}->{n:Nat}->S->x4->(x3->x4->B)->B
 yo:{f:Q2}->List x3->x4->(x3->x4->B)->B
 yp:{f:Q2}->List x3->x4->(x3->x4->B)->B
 yq:{fr:Bool}->x3->List x3->x4->(x3->x4->B)->B
 drew:x4->(x4->B)->B
 again:{n:Nat}->x4->(x4->B)->B
 over:{n:Nat}->x4->(x4->B)->B
 dh:(x4->B)->((x4->B)->B)->B
 aW:(x3->x4->B)->((x3->x4->B)->B)->B
 ii:(x3->x3->x4->B)->((x3->x3->x4->B)->B)->B
 yr:(x3->x3->x3->x4->B)->((x3->x3->x3->x4->B)->B)->B
 ys:(x3->x3->x3->x3->x4->B)->((x3->x3->x3->x3->x4->B)->B)->B
 yt:(x3->x3->x3->x3->x3->x4->B)->((x3->x3->x3->x3->x3->x4->B)->B)->B
 yu:x4->(x4->(x4->B)->B)->B
 yv:x3->x4->(x3->x4->(x3->x4->B)->B)->B
 yw:x3->x3->x4->(x3->x3->x4->(x3->x3->x4->B)->B)->B
 yx:x3->x3->x3->x4->(x3->x3->x3->x4->(x3->x3->x3->x4->B)->B)->B
 yy:x3->x3->x3->x3->x4->(x3->x3->x3->x3->x4->(x3->x3->x3->x3->x4->B)->B)->B
 yz:x3->x3->x3->x3->x3->x4->(x3->x3->x3->x3->x3->x4->(x3->x3->x3->x3->x3->x4->B)->B)->B
 yA:x3->x3->x3->x3->x3->x3->x4->(x3->x3->x3->x3->x3->x3->x4->(x3->x3->x3->x3->x3->x3->x4->B)->B)->B
 yB:x3->x4->(x3->x4->(Exit->x4->B)->B)->(x4->B)->(x4->B)->List (Nat×(x4->B))->B
 yC:x3->x4->(x3->x3->x4->(Exit->x4->B)->B)->(x4->B)->(x4->B)->List (Nat×(x4->B))->B
 loadVar:{t:r9}->x3->S
 alloc:{t:r9}->S
 box:{t:r9}->x3->S
 build:{t:r9}->List (Nat×x3)->S
 buildSlice:{t:r9}->{n:Nat}->List (Nat×x3)->S
 load:{t:r9}->x3->S
 nil:x3->S
 bin:{op:BinOp}->{t:r9}->Bool->Bool->x3->x3->S
 un:{op:UnOp}->x3->S
 conv:{s d:r9}->x3->S
 yD:{t:r9}->x3->S
 yE:{f:Fn}->List x3->List x3->S
 yF:{t:r9}->Option x3->S
 yG:{t:r9}->x3->x3->S
 slice:{t:r9}->x3->Option x3->Option x3->Option x3->S
 yH:{t:r9}->x3->{f:Nat}->S
 field:{t:r9}->x3->{f:Nat}->S
 yI:{t:r9}->x3->x3->S
 index:{t:r9}->x3->x3->S
 lookup:{t:r9}->x3->x3->{ok:Bool}->S
 yJ:{t:r9}->x3->x3->S
 range:{t:r9}->x3->S
 entry:x3->S
 assert:{t a:r9}->x3->{ok:Bool}->S
 extract:x3->{i:Nat}->S
 next:x3->{b:Bool}->S
 append:{ats:Array r9}->{t:r9}->List x3->S
 cap:{ats:Array r9}->{t:r9}->List x3->S
 clear:{ats:Array r9}->{t:r9}->List x3->S
 copy:{ats:Array r9}->{t:r9}->List x3->S
 delete:{ats:Array r9}->{t:r9}->List x3->S
 len:{ats:Array r9}->{t:r9}->List x3->S
 max:{ats:Array r9}->{t:r9}->List x3->S
 min:{ats:Array r9}->{t:r9}->List x3->S
 store:{t:r9}->x3->x3->aT
 uH:{t:r9}->x3->x3->x3->aT
 yK:{t:r9}->x3->x3->x3->aT
section
variable{B S aT:Type}(A:mB B S aT)
def eC.g:eC->x3
 | .v x=>x
 | .b c=>.bool c
 | .u=>A.kT (x:=undef)
def nt(e:Env):S8->eC
 | .tmp t=>match look e t with
  |some x=>x
  |none=>.u
 | .const (.bool c)=>.b c
 | .const x=>.v (A.kT (x:=x))
 | .global g=>.v (A.kT (x:=Γ g))
 | .func f=>.v (A.kT (x:=.func (.func f) #[] #[]))
def c4(e:Env)(x:S8):x3:=(nt A e x).g A
def nu(e:Env):List S8->List x3
 |[]=>[]
 |x::r=>c4 A e x::nu e r
def rO(e:Env):Option S8->Option x3
 |none=>ν
 |some x=>σ (c4 A e x)
def uI(e:Env):List (Nat×S8)->List (Nat×x3)
 |[]=>[]
 |(i,x)::r=>(i,c4 A e x)::uI e r
def FP(b:Z5)(ats:Array r9)(t:r9)(l:List x3)(K:S->B):B:=
 match b with
 | .append=>K (A.append (ats:=ats) (t:=t) l)
 | .cap=>K (A.cap (ats:=ats) (t:=t) l)
 | .clear=>K (A.clear (ats:=ats) (t:=t) l)
 | .copy=>K (A.copy (ats:=ats) (t:=t) l)
 | .delete=>K (A.delete (ats:=ats) (t:=t) l)
 | .len=>K (A.len (ats:=ats) (t:=t) l)
 | .max=>K (A.max (ats:=ats) (t:=t) l)
 | .min=>K (A.min (ats:=ats) (t:=t) l)
 |_=>A.no
def yL(e:Env)(t:r9)(K:S->B)(j:aT->B):Op->B
 | .alloc t=>K (A.alloc (t:=t))
 | .box t x=>K (A.box (t:=t) (c4 A e x))
 | .build t p=>K (A.build (t:=t) (uI A e p.toList))
 | .buildSlice t n p=>K (A.buildSlice (t:=t) (n:=n) (uI A e p.toList))
 | .load t x=>K (A.load (t:=t) (c4 A e x))
 | .nilCheck x=>K (A.nil (c4 A e x))
 | .binOp op t x y _=>K (A.bin (op:=op) (t:=t) (oA x) (oA y) (c4 A e x) (c4 A e y))
 | .unOp op _ x=>K (A.un (op:=op) (c4 A e x))
 | .convert s d x=>K (A.conv (s:=s) (d:=d) (c4 A e x))
 | .makeInterface t x=>K (A.yD (t:=t) (c4 A e x))
 | .makeFunc f a b=>K (A.yE (f:=f) (nu A e a.toList) (nu A e b.toList))
 | .makeMap t r=>K (A.yF (t:=t) (rO A e r))
 | .makeSlice t l c=>K (A.yG (t:=t) (c4 A e l) (c4 A e c))
 | .slice t x l h m=>K (A.slice (t:=t) (c4 A e x) (rO A e l) (rO A e h) (rO A e m))
 | .fieldAddr t x f=>K (A.yH (t:=t) (c4 A e x) (f:=f))
 | .field t x f=>K (A.field (t:=t) (c4 A e x) (f:=f))
 | .indexAddr t x i=>K (A.yI (t:=t) (c4 A e x) (c4 A e i))
 | .index t x i=>K (A.index (t:=t) (c4 A e x) (c4 A e i))
 | .lookup t x i ok=>K (A.lookup (t:=t) (c4 A e x) (c4 A e i) (ok:=ok))
 | .mapEntry t m k=>K (A.yJ (t:=t) (c4 A e m) (c4 A e k))
 | .range t x=>K (A.range (t:=t) (c4 A e x))
 | .entry x=>K (A.entry (c4 A e x))
 | .typeAssert x t a ok=>K (A.assert (t:=t) (a:=a) (c4 A e x) (ok:=ok))
 | .extract x i=>K (A.extract (c4 A e x) (i:=i))
 | .call ⟨.builtin b,args,ats⟩=>FP A b ats t (nu A e args.toList) K
 | .store t a x=>j (A.store (t:=t) (c4 A e a) (c4 A e x))
 | .mapUpdate t m k x=>j (A.uH (t:=t) (c4 A e m) (c4 A e k) (c4 A e x))
 | .insert t m k x=>j (A.uH (t:=t) (c4 A e m) (c4 A e k) (c4 A e x))
 | .entryStore t m k x=>j (A.yK (t:=t) (c4 A e m) (c4 A e k) (c4 A e x))
 |_=>A.no
def hx(e:Env)(d:Option Tmp)(x:eC):Env:=
 match d with
 |some t=>(t,x)::e
 |none=>e
def yM(o:T5)(e:Env)(w:x4)(K:Env->(x4->B)->B):B:=
 match o with
 |⟨d,.move x,_,_,_,_⟩=>K (hx e d (nt A e x)) (λ_=>A.kU)
 |⟨d,.assign x,_,_,_,_⟩=>K (hx e d (nt A e x)) (λ_=>A.kU)
 |⟨d,.pick c a b,_,_,_,_⟩=>
  match nt A e c with
  | .b true=>K (hx e d (nt A e a)) (λ_=>A.kU)
  | .b false=>K (hx e d (nt A e b)) (λ_=>A.kU)
  | .v x=>A.split x (K (hx e d (.v (c4 A e a))) (λ_=>A.kU)) (K (hx e d (.v (c4 A e b))) (λ_=>A.kU))
  | .u=>A.no
 |⟨d,op,t,_,_,_⟩=>yL A e t (λs=>A.uG s w λv=>K (hx e d (.v v)) (A.stays s v)) (λ_=>A.no) op
def FQ(fr:Bool)(n:Nat)(o:T5)(e:Env)(w:x4)(K:Env->x4->B):B:=
 match o with
 |⟨d,.call ⟨.value (.func f),args,_⟩,_,_,_,_⟩=>
  bif fr then A.yp (f:=f) (nu A e args.toList) w λv w'=>K (hx e d (.v v)) w'
  else A.yo (f:=f) (nu A e args.toList) w λv w'=>K (hx e d (.v v)) w'
 |⟨d,.call ⟨.value x,args,_⟩,_,_,_,_⟩=>A.yq (fr:=fr) (c4 A e x) (nu A e args.toList) w λv w'=>K (hx e d (.v v)) w'
 |⟨d,.next x b,_,_,_,_⟩=>A.runN (fr:=fr) (n:=n) (A.next (c4 A e x) (b:=b)) w λv w'=>K (hx e d (.v v)) w'
 |⟨d,op,t,_,_,_⟩=>yL A e t (λs=>A.ym s w λv w'=>K (hx e d (.v v)) w') (λu=>A.yn u w λw'=>K (hx e d (.v (A.kT (x:=undef)))) w') op
def yN(fr:Bool)(n:Nat)(o:T5)(e:Env)(w:x4)(K:Env->x4->B):B:=
 bif jf o then yM A o e w (λa _=>K a w)else FQ A fr n o e w K
def uJ(ops:List T5)(o:T5)(e:Env)(D N:Env->B):B:=
 match o.guard with
 |none=>D e
 |some (j,b)=>
  match oJ ops j with
  |some ⟨σ s,_,_,_,_,_⟩=>
   match look e s with
   |some (.b c)=>bif xor c b then N e else D e
   |some (.v x)=>A.split x (bif b then D ((s,.b true)::e)else N ((s,.b true)::e)) (bif b then N ((s,.b false)::e)else D ((s,.b false)::e))
   |some .u=>N e
   |none=>A.no
  |_=>A.no
def uK(fr:Bool)(n:Nat)(ops:List T5):List T5->Env->x4->(Env->x4->B)->B
 |[],e,w,K=>K e w
 |o::l,e,w,K=>uJ A ops o e (λe=>yN A fr n o e w λa w'=>uK fr n ops l a w' K) (λe=>uK fr n ops l (hx e o.dst .u) w K)
def yO:List Edge->Nat->Bool
 |[],_=>true
 |e::r,a=>(bif yh e then pY a e.on else true)&&yO r a
def rP(a:Nat):Nat->List T5->List Nat
 |_,[]=>[]
 |i,o::l=>bif pY a i then rP a (Nat.succ i) l else bif yO o.after.toList a then i::rP a (Nat.succ i) l else rP a (Nat.succ i) l
def yP(ops:List T5):List Nat->Option Nat
 |[]=>ν
 |i::r=>match oJ ops i with
  |some o=>bif jf o then σ i else yP ops r
  |none=>ν
def yQ(p:Nat->B):List Nat->B
 |[]=>A.kU
 |[i]=>p i
 |i::r=>A.and (p i) (yQ p r)
def yR(same:Bool)(q:Nat)(w:x4)(st:x4->B)(a:List (x4×List (Nat×(x4->B)))):List (x4×List (Nat×(x4->B))):=
 match same,a with
 |true,g::r=>(g.1,(q,st)::g.2)::r
 |_,a=>(w,[(q,st)])::a
def yS(bs:List Nat)(j:Nat):List (Nat×(x4->B))->Bool
 |[]=>false
 |(i,_)::r=>uF bs j i||yS bs j r
def uL(bs:List Nat)(j:Nat)(w':x4):List (Nat×(x4->B))->B
 |[]=>A.kU
 |(i,p)::r=>bif uF bs j i then A.and (p w') (uL bs j w' r)else uL bs j w' r
def rQ(bs:List Nat)(j:Nat)(w':x4)(C:B):List (x4×List (Nat×(x4->B)))->B
 |[]=>C
 |(w,l)::r=>bif yS bs j l then A.and (A.or (A.ext w w') (uL A bs j w' l)) (rQ bs j w' C r)else rQ bs j w' C r
def nv(fr:Bool)(n:Nat)(ops:List T5)(bs:List Nat):Nat->Nat->Bool->List (x4×List (Nat×(x4->B)))->Env->x4->(Env->x4->B)->B
 |0,_,_,_,e,w,K=>K e w
 |fuel+1,f,same,a,e,w,K=>
  match rP f 0 ops with
  |[]=>K e w
  |i::r=>
   match yP ops (i::r)with
   |some q=>
    match oJ ops q with
    |some o=>uJ A ops o e
      (λe=>yM A o e w λh st=>
       bif lH o then nv fr n ops bs fuel (kl f q) same a h w K
       else nv fr n ops bs fuel (kl f q) true (yR same q w st a) h w K)
      (λe=>bif lH o then nv fr n ops bs fuel (kl f q) same a (hx e o.dst .u) w K
       else nv fr n ops bs fuel (kl f q) true (yR same q w (λ_=>A.kU) a) (hx e o.dst .u) w K)
    |none=>A.no
   |none=>
    yQ A (λj=>match oJ ops j with
     |some o=>uJ A ops o e (λe=>yN A fr n o e w λh w'=>rQ A bs j w' (nv fr n ops bs fuel (kl f j) false a h w' K) a)
       (λe=>rQ A bs j w (nv fr n ops bs fuel (kl f j) false a (hx e o.dst .u) w K) a)
     |none=>A.no) (i::r)
def rR(e:Env):List Nat->List x3
 |[]=>[]
 |t::r=>(match look e t with|some x=>x.g A|none=>A.kT (x:=undef))::rR e r
def uM(l:List Nat)(vs:List x3)(e:Env):Env:=
 match l,vs with
 |t::r,v::vs=>(t,.v v)::uM r vs e
 |_,_=>e
def rS(d:Nat):Env->Env
 |[]=>[]
 |(t,x)::r=>bif pY d t then rS d r else(t,x)::rS d r
def FR(l:List Nat)(ax:List x3->x4->B)(e:(List x3->x4->B)->B):B:=
 match l with
 |[]=>A.dh (λw=>ax [] w) λk=>e λ_ w=>k w
 |[_]=>A.aW (λa w=>ax [a] w) λk=>e λvs w=>match vs with
  |[a]=>k a w
  |_=>A.no
 |[_,_]=>A.ii (λa b w=>ax [a,b] w) λk=>e λvs w=>match vs with
  |[a,b]=>k a b w
  |_=>A.no
 |[_,_,_]=>A.yr (λa b c w=>ax [a,b,c] w) λk=>e λvs w=>match vs with
  |[a,b,c]=>k a b c w
  |_=>A.no
 |[_,_,_,_]=>A.ys (λa b c d w=>ax [a,b,c,d] w) λk=>e λvs w=>match vs with
  |[a,b,c,d]=>k a b c d w
  |_=>A.no
 |[_,_,_,_,_]=>A.yt (λa b c d f w=>ax [a,b,c,d,f] w) λk=>e λvs w=>match vs with
  |[a,b,c,d,f]=>k a b c d f w
  |_=>A.no
 |_=>A.no
def FS(us:List x3)(w:x4)(e:List x3->x4->(List x3->x4->B)->B):B:=
 match us with
 |[]=>A.yu w λw k=>e [] w λ_ w=>k w
 |[a]=>A.yv a w λa w k=>e [a] w λvs w=>match vs with
  |[a]=>k a w
  |_=>A.no
 |[a,b]=>A.yw a b w λa b w k=>e [a,b] w λvs w=>match vs with
  |[a,b]=>k a b w
  |_=>A.no
 |[a,b,c]=>A.yx a b c w λa b c w k=>e [a,b,c] w λvs w=>match vs with
  |[a,b,c]=>k a b c w
  |_=>A.no
 |[a,b,c,d]=>A.yy a b c d w λa b c d w k=>e [a,b,c,d] w λvs w=>match vs with
  |[a,b,c,d]=>k a b c d w
  |_=>A.no
 |[a,b,c,d,f]=>A.yz a b c d f w λa b c d f w k=>e [a,b,c,d,f] w λvs w=>match vs with
  |[a,b,c,d,f]=>k a b c d f w
  |_=>A.no
 |[a,b,c,d,f,g]=>A.yA a b c d f g w λa b c d f g w k=>e [a,b,c,d,f,g] w λvs w=>match vs with
  |[a,b,c,d,f,g]=>k a b c d f g w
  |_=>A.no
 |_=>A.no
def uN(K:Nat->x4->B):List Nat->List (Nat×(x4->B))
 |[]=>[]
 |i::r=>(i,λw=>K i w)::uN K r
def hT(fr:Bool)(n:Nat):Code->Nat->Env->x4->(Exit->Env->x4->B)->B
 | .skip,_,e,w,K=>K .normal e w
 | .label _,_,e,w,K=>K .normal e w
 | .ret,_,e,w,K=>K .ret e w
 | .exit i,_,e,w,K=>K (.exit i) e w
 | .region _ ops C,_,e,w,K=>
  bif C then A.drew w λw'=>nv A fr n ops.toList (uE ops.toList []) (ops.toList.length) 0 false [] e w' (K .normal)
  else uK A fr n ops.toList ops.toList e w (K .normal)
 | .seq x y,rd,e,w,K=>
  bif Nat.ble 2 (lN x)then
   FR A (mA 1000 0 (Nat.land (ih x) (Nat.lor (gj y) rd))) (λvs w'=>hT fr n y rd (uM (mA 1000 0 (Nat.land (ih x) (Nat.lor (gj y) rd))) vs (rS (ih x) e)) w' K)
    λax=>hT fr n x (Nat.lor (gj y) rd) e w λex h w'=>match ex with
     | .normal=>ax (rR A h (mA 1000 0 (Nat.land (ih x) (Nat.lor (gj y) rd)))) w'
     |ex=>K ex h w'
  else hT fr n x (Nat.lor (gj y) rd) e w λex h w'=>match ex with
   | .normal=>hT fr n y rd h w' K
   |ex=>K ex h w'
 | .cond c x y,rd,e,w,K=>
  match nt A e c with
  | .b true=>hT fr n x rd e w K
  | .b false=>hT fr n y rd e w K
  | .v v=>A.split v (hT fr n x rd e w K) (hT fr n y rd e w K)
  | .u=>A.no
 | .block id c,rd,e,w,K=>hT fr n c rd e w λex h w'=>match ex with
  | .exit i=>bif S2 i id then K .normal h w' else K (.exit i) h w'
  |ex=>K ex h w'
 | .loop c,rd,e,w,K=>
  FS A (rR A e (pZ e (mA 1000 0 (Nat.land (ih c) (Nat.lor (gj c) rd))))) w λus w' k=>
   hT fr n c (Nat.lor (gj c) rd) (uM (pZ e (mA 1000 0 (Nat.land (ih c) (Nat.lor (gj c) rd)))) us (rS (ih c) e)) w' λex h j=>match ex with
    | .normal=>k (rR A h (pZ e (mA 1000 0 (Nat.land (ih c) (Nat.lor (gj c) rd))))) j
    |ex=>K ex h j
 | .scope c,rd,e,w,K=>hT fr n c rd e w K
 | .rangeFunc f E z body,_,e,w,K=>
  match E.toList with
  |[p]=>A.yB (c4 A e f) w
    (λa w' k=>hT fr n z (gj body) ((p,.v a)::e) w' λex h j=>match ex with
     | .normal=>A.over (n:=w.heap.size) j λr=>hT fr n body 0 h r λex _ s=>k ex s
     |_=>A.no)
    (λw'=>K .normal e w') (bif ji body then λw'=>K .ret e w' else λ_=>A.no) (uN (λi w'=>K (.exit i) e w') (jE body))
  |[p,q]=>A.yC (c4 A e f) w
    (λa b w' k=>hT fr n z (gj body) ((q,.v b)::(p,.v a)::e) w' λex h j=>match ex with
     | .normal=>A.over (n:=w.heap.size) j λr=>hT fr n body 0 h r λex _ s=>k ex s
     |_=>A.no)
    (λw'=>K .normal e w') (bif ji body then λw'=>K .ret e w' else λ_=>A.no) (uN (λi w'=>K (.exit i) e w') (jE body))
  |_=>A.no
 | .goto _,_,_,_,_=>A.no
 | .refuse _,_,_,_,_=>A.no
def yT:Nat->List x3->Env
 |_,[]=>[]
 |i,v::r=>(i,.v (A.kT (x:=v)))::yT (i+1) r
def rT(e:Env)(w:x4):List ResultVar->(List x3->B)->B
 |[],K=>K []
 | .tmp t::r,K=>rT e w r λvs=>K ((match look e t with|some x=>x.g A|none=>A.kT (x:=undef))::vs)
 | .cell a t::r,K=>A.uG (A.loadVar (t:=t) (match look e a with|some x=>x.g A|none=>A.kT (x:=undef))) w λv=>rT e w r λvs=>K (v::vs)
def rU(vs:List x3)(K:x3->B):B:=
 match vs with
 |[v]=>K v
 |vs=>K (A.tup vs)
def uO:List ResultVar->Nat->Nat
 |[],s=>s
 | .tmp t::r,s=>uO r (kl s t)
 | .cell a _::r,s=>uO r (kl s a)
def FT(a:List ResultVar)(marks:Bool)(n:Nat)(Q:x3->x4->B):Exit->Env->x4->B
 | .normal,e,w=>rT A e w a λvs=>bif marks then A.again (n:=n) w λw'=>rU A vs λv=>Q v w' else rU A vs λv=>Q v w
 | .ret,e,w=>rT A e w a λvs=>bif marks then A.again (n:=n) w λw'=>rU A vs λv=>Q v w' else rU A vs λv=>Q v w
 |_,_,_=>A.no
def uP(fr marks:Bool)(fn:Func)(c:Code)(args:List x3)(w:x4)(Q:x3->x4->B):B:=
 hT A fr n c (uO fn.results.toList 0) (yT A 0 args) w (FT A fn.results.toList marks n Q)
end
def oK(P:V1):mB Prop (Sem x3) (Sem Unit) where
 kT {x}:=x
 tup l:=.tuple l.toArray
 no:=False
 kU:=True
 and:=And
 or:=Or
 ext:=Ext
 stays:=bZ P
 split:=Split
 uG:=V P
 ym:=aB P
 yn u w K:=aB P u w λ_ w'=>K w'
 runN {fr n}:=rt P (fr,n)
 yo {f}:=ai P f
 yp {f}:=gH P f
 yq {fr}:=rx P fr
 drew:=ef
 again {n}:=uw n
 over {n}:=Over n
 dh:=ct
 aW:=ct
 ii:=ct
 yr:=ct
 ys:=ct
 yt:=ct
 yu:=Fx
 yv:=bU
 yw:=b4
 yx:=mw
 yy:=pR
 yz:=pS
 yA:=Fy
 yB:=kj P
 yC:=nr P
 loadVar {t} x:=do loadVar t (<-asAddr x)
 alloc {t}:=Instr.alloc t true (.tuple #[])
 box {t} x:=Instr.box t x
 build {t} l:=Instr.build t l.toArray
 buildSlice {t n} l:=Y8 t n l.toArray
 load {t} x:=u5 t x
 nil x:=bP x
 bin {op t} a b x y:=aJ op t a b x y
 un {op} x:=Op.unary op x
 conv {s d} x:=convert s d x
 yD {t} x:=Instr.makeInterface t x
 yE {f} a b:=Instr.makeFunc f a.toArray b.toArray
 yF {t} x:=Instr.makeMap t x
 yG {t} l c:=Instr.makeSlice t l c
 slice {t} x l h m:=U1 t x l h m
 yH {t} x {f}:=u6 t x f
 field {t} x {f}:=Instr.field t x f
 yI {t} x i:=j9 t x i
 index {t} x i:=Instr.index t x i
 lookup {t} x i {ok}:=Instr.lookup t x i ok
 yJ {t} m k:=Instr.mapEntry t m k
 range {t} x:=Instr.range t x
 entry x:=Instr.entry x
 assert {t a} x {ok}:=Instr.typeAssert x t a ok
 extract x {i}:=Y1 x i
 next x {b}:=Instr.next x b 0
 append {ats t} l:=Z3 ats t l.toArray
 cap {ats t} l:=Z5.cap_ ats t l.toArray
 clear {ats t} l:=Z5.clear_ ats t l.toArray
 copy {ats t} l:=Z5.copy_ ats t l.toArray
 delete {ats t} l:=Z5.delete_ ats t l.toArray
 len {ats t} l:=W9 ats t l.toArray
 max {ats t} l:=Z5.max_ ats t l.toArray
 min {ats t} l:=Z5.min_ ats t l.toArray
 store {t} a x:=o9 t a x
 uH {t} m k x:=Instr.mapUpdate t m k x
 yK {t} m k x:=Instr.entryStore t m k x
end Go.Vc
namespace Go.Proofs.YtikkpokkcdocoaaGreatDoor
open Go Go.Vc Go.RowKit Go.Proofs Go.Proofs.Tryz
set_option maxRecDepth 100000
theorem mixed:x8.follows .mixedOrders=true:=Ψ
def yU:Nat:=5
def FU:Nat:=7
def FV:Nat:=8
def FW:Nat:=9
def FX:Nat:=10
def FY:Nat:=11
def FZ:Nat:=12
def F0:Nat:=13
def F3:Nat:=14
def F4:Nat:=15
def F5:Nat:=16
def F6:Nat:=18
def F7:Nat:=19
def uQ:Nat:=20
def F8:Nat:=21
def yV:Nat:=22
def F9:Nat:=25
def yW:Nat:=26
def yX:Nat:=27
def uR:Nat:=28
def Ga:Nat:=29
def uS:Nat:=30
def Gb:Nat:=31
def Gc:Nat:=32
def Gd:Nat:=33
def Ge:Nat:=34
def yY:Nat:=35
def yZ:Nat:=36
def uT:Nat:=37
def y0:Nat:=38
def y1:Nat:=39
def Gf:Nat:=41
def y2:Nat:=42
def Gg:Nat:=43
def RB:Nat:=44
def RC:Nat:=45
def RD:Nat:=46
def Gh:Nat:=47
def Gi:Nat:=48
def Gj:Nat:=49
def Gk:Nat:=50
def Gl:Nat:=51
def Gm:Nat:=52
def Gn:Nat:=53
def y3:Nat:=54
def Gp:Nat:=55
def Gq:Nat:=58
def Gr:Nat:=59
def Gs:Nat:=60
def Gt:Nat:=61
def y4:Nat:=62
def Gu:Nat:=63
def Gv:Nat:=64
def Gw:Nat:=65
def Gx:Nat:=66
def Gy:Nat:=67
def Gz:Nat:=68
def GA:Nat:=69
def GB:Nat:=70
def GC:Nat:=71
def GD:Nat:=72
def RE:Nat:=73
def uU:Nat:=74
def GF:Nat:=75
def GG:Nat:=76
def GH:Nat:=77
def GI:Nat:=78
def GJ:Nat:=79
def GK:Nat:=80
def jk:Nat:=81
def GL:Nat:=82
def GM:Nat:=83
def GN:Nat:=84
def GO:Nat:=85
def GP:Nat:=86
def y5:Nat:=87
def RF:Nat:=88
def GQ:Nat:=92
def GR:Nat:=93
def kV:Nat:=94
def GS:Nat:=95
def GU:Nat:=96
def GV:Nat:=97
def GW:Nat:=98
def GX:Nat:=99
def GY:Nat:=100
def GZ:Nat:=101
def G0:Nat:=102
def G1:Nat:=103
def nw:Nat:=104
def nx:Nat:=105
def y6:Nat:=108
def y7:Nat:=109
def p0:Nat:=110
def ny:Nat:=111
def kW:Nat:=112
def y8:Nat:=113
def uV:Nat:=114
def nz:Nat:=115
def y9:Nat:=116
def uW:Nat:=117
def G2:Nat:=118
def G3:Nat:=119
def rV:Nat:=120
def lP:Nat:=121
def za:Nat:=122
def nA:Nat:=123
def G4:Nat:=124
def G5:Nat:=125
def G6:Nat:=126
def G7:Nat:=127
def zb:Nat:=128
def G8:Nat:=129
def G9:Nat:=130
def zc:Nat:=131
def zd:Nat:=132
def Ha:Nat:=133
def Hb:Nat:=134
def Hc:Nat:=135
def Hd:Nat:=136
def He:Nat:=137
def uX:Nat:=138
def Hf:Nat:=139
def Hg:Nat:=140
def Hh:Nat:=141
def Hi:Nat:=142
def Hj:Nat:=143
def Hk:Nat:=144
def Hl:Nat:=145
def Hm:Nat:=146
def Hn:Nat:=147
def Ho:Nat:=148
def Hp:Nat:=149
def Hq:Nat:=150
def Hr:Nat:=151
def Hs:Nat:=152
def Ht:Nat:=154
def ze:Nat:=155
def Hu:Nat:=156
def Hv:Nat:=157
def Hw:Nat:=158
def Hx:Nat:=159
def zf:Nat:=160
def Hy:Nat:=163
def Hz:Nat:=164
def zg:Nat:=165
def HA:Nat:=166
def HB:Nat:=167
def HC:Nat:=168
def HD:Nat:=169
def HE:Nat:=170
def oL:Nat:=171
def HF:Nat:=172
def HG:Nat:=173
def rW:Nat:=174
def HH:Nat:=175
def HI:Nat:=176
def zh:Nat:=177
def zi:Nat:=178
def zj:Nat:=179
def HJ:Nat:=180
def p1:Nat:=181
def HK:Nat:=182
def uY:Nat:=183
def HL:Nat:=184
def HM:Nat:=185
def zk:Nat:=186
def HN:Nat:=187
def HO:Nat:=188
def HP:Nat:=189
def HQ:Nat:=190
def HR:Nat:=191
def HS:Nat:=192
def HT:Nat:=193
def zl:Nat:=194
def HU:Nat:=195
def HV:Nat:=196
def HW:Nat:=197
def HX:Nat:=198
def HY:Nat:=199
def zm:Nat:=200
def HZ:Nat:=201
def H0:Nat:=202
def H1:Nat:=203
def H2:Nat:=204
def rX:Nat:=205
def zn:Nat:=206
def H3:Nat:=207
def H4:Nat:=208
def H5:Nat:=209
def zo:Nat:=210
def H6:Nat:=211
def uZ:Nat:=212
def rY:Nat:=213
def u0:Nat:=214
def H7:Nat:=215
def u1:Nat:=216
def H8:Nat:=217
def H9:Nat:=218
def u2:Nat:=219
def Ia:Nat:=220
def Ib:Nat:=221
def zp:Nat:=222
def zq:Nat:=223
def zr:Nat:=224
def Ic:Nat:=225
def Ie:Nat:=226
def If:Nat:=227
def Ig:Nat:=228
def Ih:Nat:=229
def Ii:Nat:=230
def Ij:Nat:=231
def RG:Nat:=232
def Ik:Nat:=234
def cmp_isNaN_int:Nat:=235
def zs:Nat:=236
def u3:Nat:=237
def rZ:Nat:=238
def Il:Nat:=239
def Im:Nat:=240
def zt:Nat:=241
def In:Nat:=242
def Io:Nat:=243
def Ip:Nat:=244
def Iq:Nat:=245
def Ir:Nat:=246
def Is:Nat:=247
def It:Nat:=248
def lQ:Nat:=249
def lR:Nat:=250
def Iu:Nat:=251
def RH:Nat:=252
def Iv:Nat:=253
def RI:Nat:=254
def Iw:Nat:=255
def Ix:Nat:=256
def oM:Nat:=257
def Iy:Nat:=258
def Iz:Nat:=259
def IA:Nat:=260
def IB:Nat:=270
def IC:Nat:=271
def r0:Nat:=272
def ID:Nat:=273
def IE:Nat:=274
def IF:Nat:=275
def IG:Nat:=276
def lS:Nat:=277
def IH:Nat:=278
def II:Nat:=279
def IJ:Nat:=280
def RJ:Nat:=281
def RK:Nat:=288
def IK:Nat:=289
def IL:Nat:=290
def IM:Nat:=292
def IN:Nat:=293
def IP:Nat:=294
def RL:Nat:=295
def IQ:Nat:=296
def RM:Nat:=297
def RN:Nat:=298
def RO:Nat:=299
def RP:Nat:=300
def RQ:Nat:=301
def cmp_Less_int:Nat:=302
def RR:Nat:=303
def RS:Nat:=304
def RT:Nat:=314
def RU:Nat:=315
abbrev IR:Nat:=0
abbrev am:Nat:=2
abbrev ah:Nat:=3
abbrev ec:Nat:=4
abbrev cI:Nat:=5
abbrev c5:Nat:=9
abbrev cM:Nat:=22
abbrev nB:Nat:=23
abbrev ds:Nat:=25
abbrev an:Nat:=26
abbrev b6:Nat:=27
abbrev hU:Nat:=28
abbrev cR:Nat:=29
abbrev dp:Nat:=30
abbrev nC:Nat:=31
abbrev aC:Nat:=33
abbrev jF:Nat:=38
abbrev r1:Nat:=47
abbrev aq:Nat:=51
abbrev fC:Nat:=58
abbrev b5:Nat:=60
abbrev c6:Nat:=63
abbrev aX:Nat:=70
abbrev cW:Nat:=72
abbrev mC:Nat:=82
abbrev p2:Nat:=83
abbrev fm:Nat:=84
abbrev cu:Nat:=86
abbrev IS:Nat:=87
abbrev gk:Nat:=89
abbrev zu:Nat:=92
abbrev oN:Nat:=94
abbrev bC:Nat:=96
abbrev dS:Nat:=98
abbrev va:Nat:=108
abbrev vb:Nat:=111
abbrev cX:Nat:=118
abbrev dH:Nat:=120
abbrev eJ:Nat:=135
abbrev ij:Nat:=136
abbrev nD:Nat:=137
abbrev r2:Nat:=138
abbrev fD:Nat:=140
abbrev IT:Nat:=155
abbrev gl:Nat:=157
abbrev kX:Nat:=162
abbrev r3:Nat:=164
abbrev e1:Nat:=167
abbrev hy:Nat:=168
abbrev ci:Nat:=170
abbrev jl:Nat:=175
abbrev iK:Nat:=176
abbrev b7:Nat:=178
abbrev dO:Nat:=184
abbrev cD:Nat:=186
abbrev eU:Nat:=187
abbrev cE:Nat:=189
abbrev fo:Nat:=191
abbrev dD:Nat:=195
abbrev bD:Nat:=197
abbrev dI:Nat:=199
abbrev cp:Nat:=201
abbrev eg:Nat:=205
abbrev a6:Nat:=207
abbrev kY:Nat:=212
abbrev fE:Nat:=214
abbrev eV:Nat:=215
abbrev hz:Nat:=219
abbrev oO:Nat:=228
abbrev p3:Nat:=239
abbrev hV:Nat:=248
abbrev jG:Nat:=254
abbrev eh:Nat:=259
abbrev ce:Nat:=263
abbrev gm:Nat:=265
abbrev cY:Nat:=270
abbrev iL:Nat:=283
abbrev fF:Nat:=285
abbrev oP:Nat:=286
abbrev gn:Nat:=289
abbrev cZ:Nat:=292
abbrev r4:Nat:=305
abbrev gX:Nat:=307
abbrev fT:Nat:=310
abbrev cF:Nat:=312
abbrev kZ:Nat:=335
abbrev jm:Nat:=337
abbrev RV:Nat:=350
abbrev oQ:Nat:=357
abbrev lT:Nat:=358
abbrev mD:Nat:=380
abbrev r5:Nat:=399
abbrev p4:Nat:=422
theorem az{f:Q2}{fn:Func}{c:Code}{Q:x3->x4->Prop}{Z:{B S aT:Type}->mB B S aT->(x3->x4->B)->B}{a:Prop}(j:x8.funcs[f]?=σ fn)(h:a)(p:fn.body=σ c:=by rfl)(_:∀{B S aT:Type}(A:mB B S aT)(Q:x3->x4->B),uP A false false (n:=w.heap.size) fn c args w Q=Z A Q:=by intros;conv=>lhs;reduce)(_:Z (oK x8) Q=a:=by dsimp only[oK])(e:a=eD x8 fn.ntmps (false,w.heap.size) c (mz fn.results.toList) (kS 0 args) w (lM x8 fn.results.toList false 0 Q):=by kernel_rfl)(hk:(!(fn.name == "runtime.NumGoroutine")&&wf fn.ntmps c&&Nat.ble args.length fn.ntmps&& !kh c)=true:=by kernel_rfl):ai x8 f args w Q:=by
 simp only[U3,Bool.not_eq_true']at hk;exact ai.FN mixed j p hk.1.1.1 hk.1.1.2 hk.1.2 hk.2 (e▸h)
theorem ik{f:Q2}{fn:Func}{c:Code}{Q:x3->x4->Prop}{Z:{B S aT:Type}->mB B S aT->(x3->x4->B)->B}{a:Prop}(j:x8.funcs[f]?=σ fn)(h:a)(p:fn.body=σ c:=by rfl)(_:∀{B S aT:Type}(A:mB B S aT)(Q:x3->x4->B),uP A false true (n:=w.heap.size) fn c args w Q=Z A Q:=by intros;conv=>lhs;reduce)(_:Z (oK x8) Q=a:=by dsimp only[oK])(e:a=eD x8 fn.ntmps (false,w.heap.size) c (mz fn.results.toList) (kS 0 args) w (lM x8 fn.results.toList true w.heap.size Q):=by kernel_rfl)(hk:(!(fn.name == "runtime.NumGoroutine")&&wf fn.ntmps c&&Nat.ble args.length fn.ntmps)=true:=by kernel_rfl):ai x8 f args w Q:=by
 simp only[U3,Bool.not_eq_true']at hk;exact ai.enter mixed j p hk.1.1 hk.1.2 hk.2 (e▸h)
theorem p5{f:Q2}{fn:Func}{c:Code}{Q:x3->x4->Prop}{Z:{B S aT:Type}->mB B S aT->(x3->x4->B)->B}{a:Prop}(j:x8.funcs[f]?=σ fn)(h:a)(p:fn.body=σ c:=by rfl)(_:∀{B S aT:Type}(A:mB B S aT)(Q:x3->x4->B),uP A true false (n:=0) fn c args w Q=Z A Q:=by intros;conv=>lhs;reduce)(_:Z (oK x8) Q=a:=by dsimp only[oK])(e:a=eD x8 fn.ntmps (true,0) c (mz fn.results.toList) (kS 0 args) w (lM x8 fn.results.toList false 0 Q):=by kernel_rfl)(hk:(!(fn.name == "runtime.NumGoroutine")&&wf fn.ntmps c&&Nat.ble args.length fn.ntmps)=true:=by kernel_rfl):gH x8 f args w Q:=by
 simp only[U3,Bool.not_eq_true']at hk;exact gH.enter mixed j p hk.1.1 hk.1.2 hk.2 (e▸h)
theorem jk.enters:Enters x8 jk:=Enters.of x8 (show x8.funcs[jk]?=σ Tryz.f81 from Tryz.func81) rfl Ψ
theorem kV.enters:Enters x8 kV:=Enters.of x8 (show x8.funcs[kV]?=σ Tryz.f94 from Tryz.func94) rfl Ψ
theorem lQ.enters:Enters x8 lQ:=Enters.of x8 (show x8.funcs[lQ]?=σ Tryz.f249 from Tryz.func249) rfl Ψ
theorem oM.enters:Enters x8 oM:=Enters.of x8 (show x8.funcs[oM]?=σ Tryz.f257 from Tryz.func257) rfl Ψ
theorem lS.enters:Enters x8 lS:=Enters.of x8 (show x8.funcs[lS]?=σ Tryz.f277 from Tryz.func277) rfl Ψ
end Go.Proofs.YtikkpokkcdocoaaGreatDoor
namespace Go.Vc
open Go Go.RowKit
theorem vc{b o:Nat}(h:w.cell? ⟨b,o,ν⟩=σ v):∃c e f,w.heap[b]?=σ (.cells c e f)/\c[o]?=σ v:=by
 simp only[x4.cell?]at h;split at h
 .rename_i c e f a;exact⟨c,e,f,a,by simpa using h⟩
 .cases h
theorem zv(a:ae S w w'){b o:Nat}(j:¬S b)(h:w.cell? ⟨b,o,ν⟩=σ v):w'.cell? ⟨b,o,ν⟩=σ v:=by
 obtain⟨c,e,f,p,q⟩:=vc h;simp[x4.cell?,a.aV b _ p rfl j,q]
theorem iM(a:Ext w w'){b o:Nat}(h:w.cell? ⟨b,o,ν⟩=σ v):w'.cell? ⟨b,o,ν⟩=σ v:=
 zv (a.aa λ_=>False) (λh=>h) h
theorem nE(a:Ext w w'){b o:Nat}(h:w.rangeAt b o cs):w'.rangeAt b o cs:=λj v e=>iM a (h j v e)
theorem hA(a:ae S w w'){b o:Nat}(e:¬S b)(h:w.rangeAt b o cs):w'.rangeAt b o cs:=λj v f=>zv a e (h j v f)
def ac(w:x4)(g:Nat)(e:r9)(cs:List x3):Prop:=w.heap[g]?=σ (.cells cs.toArray e (0,0))
theorem ac.ext{g:Nat}(h:ac w g e cs)(a:Ext w w'):ac w' g e cs:=a.aV g _ h rfl
theorem ac.aa{g:Nat}(h:ac w g e cs)(a:ae S w w')(f:¬S g):ac w' g e cs:=a.aV g _ h rfl f
theorem ac.lt{g:Nat}(h:ac w g e cs):g<w.heap.size:=(j5.1 h).1
theorem ac.cell{g:Nat}(h:ac w g e cs){o:Nat}(a:cs[o]?=σ v):w.cell? ⟨g,o,ν⟩=σ v:=by
 unfold ac at h;simp[x4.cell?,h,a]
theorem ac.Qz{w:World}{g:Nat}{e:TypeId}{cs:List Value}{v:Value}(h:ac w g e cs)(I:cs[0]?=σ v):w.cell? ⟨g,0,ν⟩=σ v:=h.cell I
theorem ac.range{g:Nat}(h:ac w g e cs):w.rangeAt g 0 cs:=λj v a=>by rw[X6];exact h.cell a
theorem ac.frozen{g:Nat}(h:ac w g e cs)(o:Nat)(a:Option Nat):w.frozen? ⟨g,o,a⟩=false:=by
 unfold ac at h;simp[x4.frozen?,h]
def cd(w:x4)(k:Nat)(v:x3)(n:Nat)(cs:List x3):Prop:=
 cs.length=n*k/\∃b o base cap,v= .slice base n cap/\n<=cap/\cap<=maxLen/\(0<n->base=σ ⟨b,o,ν⟩)/\w.rangeAt b o cs
theorem cd.ext{k:Nat}(h:cd w k v n cs)(a:Ext w w'):cd w' k v n cs:=by
 obtain⟨h1,b,o,base,cap,e,f,j,p,q⟩:=h;exact⟨h1,b,o,base,cap,e,f,j,p,nE a q⟩
theorem cd.le{k:Nat}(h:cd w k v n cs):n<=maxLen:=by
 obtain⟨_,_,_,_,_,_,a,e,_⟩:=h;exact Y7 a e
theorem cd.nil(w:x4)(k:Nat):cd w k (.slice ν 0 0) 0 []:=⟨Ξ,0,0,ν,0,rfl,o6 _,X8 _,λh=>absurd h (Nat.lt_irrefl _),λj v h=>by simp at h⟩
def aQ(P:V1)(t:r9)(k b:Nat)(z:x3):Prop:=∃i,P.info? t=σ i/\i.size=k/\i.bytes=b/\i.zero=σ z
theorem aQ.of{P:V1}{k b:Nat}(h:(P.info? t).map (λi=>(i.size,i.bytes,i.zero))=σ (k,b,σ z)):aQ P t k b z:=by
 cases hi:P.info? t with
 |none=>simp[hi]at h
 |some i=>simp[hi]at h;exact⟨i,hi,h⟩
theorem aQ.size{P:V1}{k b:Nat}(h:aQ P t k b z):(P.info? t).map (·.size)=σ k:=by
 obtain⟨i,hi,I,_⟩:=h;simp[hi,I]
def bL(P:V1)(t:r9)(pl:List (Nat×Nat)):Prop:=∃a,P.underlying t=σ (.struct a)/\a.toList.map (λf=>(f.offset,((P.info? f.type).map (·.size)).getD 0))=pl
def zw(P:V1)(t:r9):Option (List (Nat×Nat)):=match P.underlying t with
 |some (.struct a)=>σ (a.toList.map λf=>(f.offset,((P.info? f.type).map (·.size)).getD 0))
 |_=>ν
theorem bL.of{P:V1}{pl:List (Nat×Nat)}(h:zw P t=σ pl):bL P t pl:=by
 unfold zw at h;split at h
 .rename_i a hu;exact⟨a,hu,by simpa using h⟩
 .cases h
section
variable{P:V1}{w:x4}
theorem V.of{s:Sem x3}(h:∀w',Ext w w'->s.run P w'= .ok v w'):V P s w K=K v:=by
 refine propext ⟨λ⟨a,h',k⟩=>?_,λk=>⟨v,h,k⟩⟩;have:=h' w (Ext.refl w);rw[h w (Ext.refl w)]at this;cases this;exact k
theorem aB.of{α:Type}{s:Sem α}{v:α}{K:α->x4->Prop}(h:s.run P w= .ok v w')(a:cL w w')(k:K v w'):aB P s w K:=⟨v,w',h,a,k⟩
theorem cg{c:Bool}{A B:Prop}:Split (.bool c) A B=((c=true->A)/\(c=false->B)):=by
 refine propext ⟨λ⟨e,h,h1,a⟩=>?_,λ⟨h1,a⟩=>⟨c,rfl,h1,a⟩⟩;cases h;exact⟨h1,a⟩
theorem aj{p:Prop}[Decidable p]{A B:Prop}:Split (.bool (decide p)) A B=((p->A)/\(¬p->B)):=by rw[cg];simp
theorem bQ{A B:Prop}:Split (.bool true) A B=A:=by rw[cg];simp
theorem aY{A B:Prop}:Split (.bool false) A B=B:=by rw[cg];simp
theorem aL{b:Int}:V P (aJ .add t cx cy (.int k a) (.int k b)) w K=K (.int k (k.wrap (a+b))):=
 V.of λw' _=>by simp[aJ,eqGuard,binOp,Op.intArith]
theorem ed{b:Int}:V P (aJ .sub t cx cy (.int k a) (.int k b)) w K=K (.int k (k.wrap (a-b))):=
 V.of λw' _=>by simp[aJ,eqGuard,binOp,Op.intArith]
theorem gp{b:Int}:V P (aJ .mul t cx cy (.int k a) (.int k b)) w K=K (.int k (k.wrap (a*b))):=
 V.of λw' _=>by simp[aJ,eqGuard,binOp,Op.intArith]
theorem p6{b:Int}(e:b≠0):V P (aJ .quo t cx cy (.int k a) (.int k b)) w K=K (.int k (k.wrap (a.tdiv b))):=
 V.of λw' _=>by simp[aJ,eqGuard,binOp,Op.intDiv,e]
theorem p7{b:Int}(e:b≠0):V P (aJ .rem t cx cy (.int k a) (.int k b)) w K=K (.int k (a.tmod b)):=
 V.of λw' _=>by simp[aJ,eqGuard,binOp,Op.intDiv,e]
theorem aR{b:Int}:V P (aJ .lss t cx cy (.int k a) (.int k b)) w K=K (.bool (decide (a<b))):=
 V.of λw' _=>by simp[aJ,eqGuard,binOp,Op.intCmp]
theorem Υ{k:IntKind}{P:Program}{t:TypeId}{cx cy:Bool}{a b:Int}{w:World}{A B:Prop}(hA:a<b->A)(h:a<b:=by omega):V P (aJ .lss t cx cy (.int k a) (.int k b)) w λv=>Split v A B:=by
 rw[aR,aj];exact⟨hA,λe=>absurd h e⟩
theorem lU{b:Int}:V P (aJ .leq t cx cy (.int k a) (.int k b)) w K=K (.bool (decide (a<=b))):=
 V.of λw' _=>by simp[aJ,eqGuard,binOp,Op.intCmp]
theorem bS{b:Int}:V P (aJ .gtr t cx cy (.int k a) (.int k b)) w K=K (.bool (decide (b<a))):=
 V.of λw' _=>by simp[aJ,eqGuard,binOp,Op.intCmp]
theorem cS{b:Int}:V P (aJ .geq t cx cy (.int k a) (.int k b)) w K=K (.bool (decide (b<=a))):=
 V.of λw' _=>by simp[aJ,eqGuard,binOp,Op.intCmp]
theorem bf{b:Int}:V P (aJ .eql t cx cy (.int k a) (.int k b)) w K=K (.bool (decide (a=b))):=
 V.of λw' _=>by
  have:(a == b)=decide (a=b):=by by_cases h:a=b<;>simp[h]
  simp[aJ,eqGuard,binOp,Op.intCmp,this]
theorem bN{b:Int}:V P (aJ .neq t cx cy (.int k a) (.int k b)) w K=K (.bool (decide (a≠b))):=
 V.of λw' _=>by
  have:(a != b)=decide (a≠b):=by by_cases h:a=b<;>simp[h,bne]
  simp[aJ,eqGuard,binOp,Op.intCmp,this]
theorem zx{e:n9}{b:Int}(f:0<=b):V P (aJ .shl t cx cy (.int k a) (.int e b)) w K=K (.int k (k.wrap (a*2 ^ min b.toNat k.bits))):=
 V.of λw' _=>by simp[aJ,eqGuard,binOp,Op.shift,show¬b<0 by omega]
theorem bJ{c:Bool}:V P (Op.unary .not (.bool c)) w K=K (.bool !c):=V.of λw' _=>by simp[Op.unary]
theorem lV:V P (Op.unary .neg (.int k a)) w K=K (.int k (k.wrap (0-a))):=V.of λw' _=>by simp[Op.unary,Op.intArith]
theorem fp{s d:r9}{e:n9}(I:P.underlying s=σ (.int e))(f:P.underlying d=σ (.int k)):
  V P (convert s d (.int e a)) w K=K (.int k (k.wrap a)):=V.of λw' _=>by simp[convert,run_underlying I,run_underlying f,Conv.intToInt]
theorem zy{x y:x3}{r:Bool}(a:∀w',(eqGuard .eql t (aZ cx) (aZ cy) x y).run P w'= .ok () w')(e:binOp .eql t x y=(do pure (.bool (<-Op.equal t x y))))(h:∀w',Ext w w'->(Op.equal t x y).run P w'= .ok r w'):V P (aJ .eql t cx cy x y) w K=K (.bool r):=V.of λw' f=>by
 unfold aJ;rw[e,W8,a w',Result.andThen_ok,W8,h w' f];rfl
theorem IU{x y:x3}{r:Bool}(a:∀w',(eqGuard .neq t (aZ cx) (aZ cy) x y).run P w'= .ok () w')(e:binOp .neq t x y=(do pure (.bool (!(<-Op.equal t x y)))))(h:∀w',Ext w w'->(Op.equal t x y).run P w'= .ok r w'):V P (aJ .neq t cx cy x y) w K=K (.bool !r):=V.of λw' f=>by
 unfold aJ;rw[e,W8,a w',Result.andThen_ok,W8,h w' f];rfl
theorem zz(w:x4)(d:Nat){p:Option Addr}(h:P.underlying t=σ (.pointer e)):(Op.equalIn (d+1) t (.pointer p) (.pointer ν)).run P w= .ok p.isNone w:=by
 cases p<;>simp[Op.equalIn,run_underlying h]
theorem r6{base:Option Addr}(a:P.underlying t=σ (.slice e)):
  V P (aJ .eql t cx cy (.slice base n c) (.slice ν 0 0)) w K=K (.bool base.isNone):=zy (λ_=>rfl) rfl λw' _=>run_equal_slice_nil w' t e base n c a
theorem dc{p:Option Addr}(a:P.underlying t=σ (.pointer e)):
  V P (aJ .eql t cx cy (.pointer p) (.pointer ν)) w K=K (.bool p.isNone):=zy (λ_=>rfl) rfl λw' _=>zz w' 9999 a
theorem zA{p:Option Addr}(a:P.underlying t=σ (.pointer e)):
  V P (aJ .neq t cx cy (.pointer p) (.pointer ν)) w K=K (.bool !p.isNone):=IU (λ_=>rfl) rfl λw' _=>zz w' 9999 a
theorem hW{a:r9}{base:Option Addr}(f:P.underlying t=σ (.slice e)):
  V P (W9 #[t] a #[.slice base n c]) w K=K (Δ n):=V.of λw' _=>by simp[W9,run_underlying f,goInt]
theorem lW{e:Array r9}{f:r9}{b:Int}:
  V P (Z5.min_ e f #[.int k a,.int k b]) w K=K (.int k (min a b)):=V.of λw' _=>by
 simp only[Z5.min_,List.foldlM,Z5.min2];simp only[W8,V6,Result.andThen_ok,Int.min_def];congr 2;split<;>split<;>omega
theorem vd{e:Array r9}{f:r9}{b:Int}:
  V P (Z5.max_ e f #[.int k a,.int k b]) w K=K (.int k (max a b)):=V.of λw' _=>by
 simp only[Z5.max_,List.foldlM,Z5.max2];simp only[W8,V6,Result.andThen_ok,Int.max_def];congr 2;split<;>split<;>omega
theorem iN{vs:Array x3}{i:Nat}(h:vs[i]?=σ v):V P (Y1 (.tuple vs) i) w K=K v:=V.of λw' _=>by simp[Y1,h]
theorem k0{f:Fn}{a b:Array x3}:V P (Instr.makeFunc f a b) w K=K (.func f a b):=V.of λ_ _=>rfl
def jH(P:V1)(t:r9):Bool:=match P.underlying t with
 |some (.struct _)|some (.array _ _)|none=>false
 |_=>true
theorem aD{b o:Nat}(a:jH P t=true)(h:w.cell? ⟨b,o,ν⟩=σ v):
  V P (u5 t (.pointer (σ ⟨b,o,ν⟩))) w K=K v:=V.of λw' e=>by
 have h':=iM e h;unfold jH at a;cases hu:P.underlying t with
 |none=>rw[hu]at a;cases a
 |some d=>
  rw[hu]at a;cases d<;>first|(cases a;done)|simp[u5,Instr.sureAddr,loadVar,isAgg,run_underlying hu,h']
theorem zB{d:TypeDesc}{b o k a:Nat}(hu:P.underlying t=σ d)(e:d.isRow=true)(hi:aQ P t k a z)(f:cs.length=k)(h:w.rangeAt b o cs):V P (u5 t (.pointer (σ ⟨b,o,ν⟩))) w K=K (.agg cs.toArray):=V.of λw' j=>
 run_loadAt_mid (P:=P) w' b o t cs d (nE j h) hu e (by rw[hi.size,f])
theorem bE{pl:List (Nat×Nat)}{b o k a:Nat}(hu:bL P t pl)(hi:aQ P t k a z)(e:cs.length=k)(h:w.rangeAt b o cs):V P (u5 t (.pointer (σ ⟨b,o,ν⟩))) w K=K (.agg cs.toArray):=by
 obtain⟨f,hu,_⟩:=hu;exact zB hu rfl hi e h
theorem aS{pl:List (Nat×Nat)}{i b o z:Nat}(q:bL P t pl)(a:pl[i]?=σ (off,z+1)):
  V P (u6 t (.pointer (σ ⟨b,o,ν⟩)) i) w K=K (.pointer (σ ⟨b,o+off,ν⟩)):=V.of λw' _=>by
 obtain⟨r,hu,rfl⟩:=q;rw[v8]at a;cases e:r[i]? with
 |none=>rw[R3,e]at a;cases a
 |some f=>
  rw[R3,e]at a;simp only[Z7,X7,S3]at a;obtain⟨rfl,p⟩:=a;cases h:P.info? f.type with
  |none=>simp[h]at p
  |some j=>
   have I:j.size=z+1:=by simpa[h]using p
   simp[u6,run_underlying hu,e,Instr.sureAddr,fieldPlace,sizeOf,typeInfo,h,I,T7]
theorem zC{i:Int}{b o z f:Nat}{h:x3}{base:Option Addr}(hu:P.underlying t=σ (.slice e))(p:aQ P e z f h)(q:0<=i)(hi:i<n)(a:0<n->base=σ ⟨b,o,ν⟩):
  V P (j9 t (.slice base n c) (.int k i)) w K=K (.pointer (σ ⟨b,o+i.toNat*z,ν⟩)):=V.of λw' _=>by
 have a:=a Ω;subst a;obtain⟨j,r,I,_⟩:=p;simp[j9,asIntOf,run_underlying hu,q,hi,sizeOf,typeInfo,r,I,T7]
theorem eK{i:Nat}{b o z a:Nat}{f:x3}{base:Option Addr}(hu:P.underlying t=σ (.slice e))(h:aQ P e z a f)(hi:i<n)(j:0<n->base=σ ⟨b,o,ν⟩):
  V P (j9 t (.slice base n c) (.int k (i:Int))) w K=K (.pointer (σ ⟨b,o+i*z,ν⟩)):=by
 rw[zC (i:=(i:Int)) hu h Ω Ω j];rfl
theorem IV{i:Int}{b o z a:Nat}{f:x3}(hu:P.underlying t=σ (.array n e))(h:aQ P e z a f)(p:0<=i)(hi:i<n):
  V P (j9 t (.pointer (σ ⟨b,o,ν⟩)) (.int k i)) w K=K (.pointer (σ ⟨b,o+i.toNat*z,ν⟩)):=V.of λw' _=>by
 obtain⟨j,q,I,_⟩:=h;simp[j9,asIntOf,run_underlying hu,Instr.sureAddr,p,hi,sizeOf,typeInfo,q,I,T7]
theorem ve{i:Nat}{b o z a:Nat}{f:x3}(hu:P.underlying t=σ (.array n e))(h:aQ P e z a f)(hi:i<n):
  V P (j9 t (.pointer (σ ⟨b,o,ν⟩)) (.int k (i:Int))) w K=K (.pointer (σ ⟨b,o+i*z,ν⟩)):=by
 rw[IV (i:=(i:Int)) hu h Ω Ω];rfl
def lX:Option x3->Nat->Prop
 |none,l=>l=0
 |some v,l=>∃k,v= .int k l
def lY:Option x3->Nat->Nat->Prop
 |none,n,h=>h=n
 |some v,_,h=>∃k,v= .int k h
def maxOf:Option x3->Option x3->Nat->Nat->Prop
 |none,_,c,m=>m=c
 |some v,σ _,_,m=>∃k,v= .int k m
 |some _,ν,_,_=>False
theorem p8{l:Nat}:lX (σ (.int k (l:Int))) l:=⟨_,rfl⟩
theorem nF(l:Nat)(x:Int)(h:x=(l:Int)):lX (σ (.int k x)) l:=⟨k,by rw[h]⟩
theorem nG(l:Nat)(x:Int)(h:x=(l:Int)):lY (σ (.int k x)) n l:=⟨k,by rw[h]⟩
theorem jI:lX ν 0:=rfl
theorem p9:lY (σ (.int k (h:Int))) n h:=⟨_,rfl⟩
theorem jJ:lY ν n n:=rfl
theorem fG{h:Option x3}:maxOf ν h c c:=by cases h<;>rfl
theorem r7(w:x4){sl:Bool}{l m:Nat}{low high mx:Option x3}(h1:lX low l)(e:lY high n h)(a:maxOf mx high c m)(f:l<=h)(ap:h<=m)(hm:m<=c):
  (Instr.sliceBounds sl n c low high mx).run P w= .ok (l,h,m) w:=by
 cases low<;>cases high<;>cases mx<;>simp only[lX,lY,maxOf]at h1 e a<;>(try exact a.elim)<;>(try obtain⟨j,rfl⟩:=h1)<;>(try obtain⟨p,rfl⟩:=e)<;>(try obtain⟨q,rfl⟩:=a)<;>(try subst h1)<;>(try subst e)<;>(try subst a) <;>
  simp[Instr.sliceBounds,Instr.sliceBound,asIntOf,f,ap,hm]
theorem hX{z a l m:Nat}{f:x3}{base:Option Addr}{low high mx:Option x3}(hu:P.underlying t=σ (.slice e))(p:aQ P e z a f)(h1:lX low l)(q:lY high n h)(r:maxOf mx high c m)(s:l<=h)(ap:h<=m)(hm:m<=c):
  V P (U1 t (.slice base n c) low high mx) w K=K (.slice (if m=l then base else base.map (·.add (l*z))) (h-l) (m-l)):=V.of λw' _=>by
 obtain⟨j,x,I,_⟩:=p;simp[U1,Instr.slice,run_underlying hu,r7 w' h1 q r s ap hm,sizeOf,typeInfo,x,I]
theorem sa{z a l m b o:Nat}{f:x3}{low high mx:Option x3}(hu:P.underlying t=σ (.array n e))(p:aQ P e z a f)(h1:lX low l)(q:lY high n h)(r:maxOf mx high n m)(s:l<=h)(ap:h<=m)(hm:m<=n):
  V P (U1 t (.pointer (σ ⟨b,o,ν⟩)) low high mx) w K=K (.slice (σ (if m=l then⟨b,o,ν⟩else⟨b,o+l*z,ν⟩)) (h-l) (m-l)):=V.of λw' _=>by
 obtain⟨j,x,I,_⟩:=p;simp[U1,Instr.sureAddr,run_underlying hu,r7 w' h1 q r s ap hm,sizeOf,typeInfo,x,I,T7]
theorem dq{parts:Array (Nat×x3)}{cs:Array x3}(h:P.built t parts.toList=σ cs):V P (Instr.build t parts) w K=K (.agg cs):=V.of λw' _=>
 run_build (P:=P) w' t parts cs h
end
theorem cd.part{k l m:Nat}{base:Option Addr}(I:cd w k (.slice base n c) n cs)(q:l<=h)(ap:h<=n)(hm:h<=m)(r:m<=c):
  cd w k (.slice (if m=l then base else base.map (·.add (l*k))) (h-l) (m-l)) (h-l) ((cs.drop (l*k)).take ((h-l)*k)):=by
 obtain⟨h1,b,o,s,cap,he,x,y,e,f⟩:=I;cases he;have z:h*k<=n*k:=X0 _ ap;have A:l*k+(h-l)*k=h*k:=by rw[<-U5];congr 1;omega
 refine⟨by simp[h1];omega,b,o+l*k,_,m-l,rfl,Ω,Ω,λB=>?_,λj v a=>?_⟩
 .rw[e Ω,if_neg Ω];simp[T7]
 .have p:=(x5.1 a).1;simp at p;rw[Y0 Ω,S5]at a;rw[R7];exact f _ _ a
section
variable{P:V1}{w:x4}
structure jn(g:Nat)(w w':x4):Prop where
 os:w'.os=w.os
 tape:jB w w'
 output:w'.output=w.output
 size:w'.heap.size=w.heap.size
 aV:∀r,r≠g->w'.heap[r]?=w.heap[r]?
theorem jn.refl(g:Nat)(w:x4):jn g w w:=⟨rfl,.ke,rfl,rfl,λ_ _=>rfl⟩
theorem jn.trans{g:Nat}{a b c:x4}(h:jn g a b)(k:jn g b c):jn g a c:=
 ⟨k.os.trans h.os,k.tape.trans h.tape,k.output.trans h.output,k.size.trans h.size,λr e=>(k.aV r e).trans (h.aV r e)⟩
theorem jn.aa{g:Nat}{w:x4}(h:jn g w w'):ae (λr=>r=g) w w':=⟨Nat.le_of_eq h.size.symm,λr o a _ e=>by rw[h.aV r e];exact a⟩
theorem jn.cr{g:Nat}{w:x4}(h:jn g w w')(f:ac w g e cs):cL w w':=
 ⟨h.os,h.tape,h.output,Nat.le_of_eq h.size.symm,λr o a I=>by
  by_cases j:r=g
  .subst j;unfold ac at f;rw[f]at a;cases a;simp[fz]at I
  .rw[h.aV r j];exact a⟩
theorem zD{g:Nat}(h:ac w g e cs)(o:Nat)(v:x3):ac (w.setCell ⟨g,o,ν⟩ v) g e (cs.set o v)/\jn g w (w.setCell ⟨g,o,ν⟩ v):=by
 unfold ac at h;refine⟨?_,rfl,.ke,rfl,by simp[x4.setCell],λr a=>?_⟩
 .simp[ac,x4.setCell,Array.getElem?_modify,h]
 .simp[x4.setCell,Array.getElem?_modify,R2 a]
def over(cs:List x3):Nat->List x3->List x3
 |_,[]=>cs
 |o,v::r=>over (cs.set o v) (o+1) r
theorem lZ:∀(vs cs:List x3)(o:Nat),(over cs o vs).length=cs.length
 |[],_,_=>rfl
 |v::r,cs,o=>by simp[over,lZ r]
theorem nH:∀(vs cs:List x3)(o:Nat),o+vs.length<=cs.length->∀j,(over cs o vs)[j]?=if o<=j/\j<o+vs.length then vs[j-o]? else cs[j]?
 |[],cs,o,_,j=>by simp[over];intro h1 a;omega
 |v::r,cs,o,h,j=>by
  simp only[Z2]at h;rw[over,nH r (cs.set o v) (o+1) Θ j];simp only[Z2];by_cases h1:o+1<=j/\j<o+1+r.length
  .rw[if_pos h1,if_pos Ω];rw[show j-o=(j-(o+1))+1 by omega,List.getElem?_cons_succ]
  .rw[if_neg h1];by_cases a:j=o
   .subst a;rw[if_pos Ω,b8 Ω];simp
   .rw[if_neg Ω,Y4 (R2 a)]
theorem mE{o:Nat}(h:o+vs.length<=cs.length):over cs o vs=cs.take o++vs++cs.drop (o+vs.length):=by
 apply Y9;intro j;rw[nH vs cs o h];by_cases h1:j<o
 .rw[if_neg Ω,Y3 Θ,Y3 Θ,Y0 h1]
 .by_cases a:j<o+vs.length
  .rw[if_pos Ω,Y3 Θ,Y5 Θ];congr 1;simp;omega
  .rw[if_neg Ω,Y5 Θ,S5];congr 1;simp;omega
theorem nI{g:Nat}{e:r9}:∀(vs:List x3)(cs:List x3)(o:Nat)(w:x4),ac w g e cs->ac (w.setCells g o vs) g e (over cs o vs)/\jn g w (w.setCells g o vs)
 |[],cs,o,w,h=>⟨h,jn.refl _ _⟩
 |v::r,cs,o,w,h=>by
  obtain⟨h1,a⟩:=zD h o v;obtain⟨f,j⟩:=nI r (cs.set o v) (o+1) _ h1;exact⟨f,a.trans j⟩
theorem sb(w:x4)(c:List x3)(e:r9):ac (w.alloc (.cells c.toArray e)) w.heap.size e c/\Ext w (w.alloc (.cells c.toArray e))/\cL w (w.alloc (.cells c.toArray e)):=
 ⟨heap_alloc_new w _,pL w _,pM w _⟩
theorem bw{k a:Nat}{K:x3->x4->Prop}(hi:aQ P t k a z)(h:∀g w',g=w.heap.size->Ext w w'->ac w' g t z.cells.toList->K (Γ g) w'):aB P (Instr.alloc t true (.tuple #[])) w K:=by
 obtain⟨i,hi,_,_,e⟩:=hi;obtain⟨h1,f,j⟩:=sb w z.cells.toList t;refine .of ?_ j (h _ _ rfl f h1);simp[Instr.alloc,zeroValue,typeInfo,hi,e,newVar,newRow]
theorem bk{K:x3->x4->Prop}(h:∀g w',g=w.heap.size->Ext w w'->ac w' g t v.cells.toList->K (Γ g) w'):aB P (Instr.box t v) w K:=by
 obtain⟨h1,a,e⟩:=sb w v.cells.toList t;refine .of ?_ e (h _ _ rfl a h1);simp[Instr.box,newVar,newRow]
def dT(z:Array x3)(n:Nat):List x3:=((Array.range n).map (z[·% z.size]!)).toList
theorem oR(z:Array x3)(n:Nat):(dT z n).length=n:=by simp[dT]
theorem jK{k q:Nat}{parts:Array (Nat×x3)}{cs:Array x3}{K:x3->x4->Prop}(p:P.underlying t=σ (.slice e))(hi:aQ P e k q z)(A:n*k<=2 ^ 24)(a:Instr.fill (λj=>σ (j*k,k)) ((Array.range (n*k)).map ((if n*k=0 then#[]else z.cells)[·% (if n*k=0 then#[]else z.cells).size]!)) parts.toList=σ cs)(h:∀g w',g=w.heap.size->Ext w w'->ac w' g e cs.toList->K (.slice (σ ⟨g,0,ν⟩) n n) w'):aB P (Y8 t n parts) w K:=by
 obtain⟨i,hi,rfl,_,r⟩:=hi;obtain⟨h1,s,x⟩:=sb w cs.toList e;refine .of ?_ x (h _ _ rfl s h1);have y:¬(16777216<n*i.size):=Ω
 by_cases f:n*i.size=0
 .simp only[f,if_true]at a;simp[Y8,run_underlying p,sizeOf,typeInfo,hi,f,newRow];simp at a;simp[a]
 .simp only[f,if_false]at a;simp[Y8,run_underlying p,sizeOf,typeInfo,hi,y,f,newRow,zeroValue,r,a]
theorem bp{g o:Nat}{K:Unit->x4->Prop}(hi:aQ P t 1 j z)(h1:v.cells= #[v])(p:v.oneCell'=true)(a:ac w g e cs)(q:o<cs.length)(h:∀w',ae (λr=>r=g) w w'->w'.heap.size=w.heap.size->ac w' g e (cs.set o v)->K () w'):aB P (o9 t (.pointer (σ ⟨g,o,ν⟩)) v) w K:=by
 obtain⟨i,hi,I,_⟩:=hi;obtain⟨s,f⟩:=zD a o v;refine .of (w':=w.setCell ⟨g,o,ν⟩ v) ?_ (f.cr a) (h _ f.aa f.size s);have x:=a.cell (x7 q);have y:(⟨g,o,ν⟩:Addr).add 0=⟨g,o,ν⟩:=rfl;simp[o9,Instr.sureAddr,storeVar,sizeOf,typeInfo,hi,I,h1,storeCells,y,run_store P w _ v _ p,x,a.frozen]
theorem zE{k p g o:Nat}{K:Unit->x4->Prop}(hi:aQ P t k p z)(q:vs.length=k)(s:∀v∈vs,v.oneCell'=true)(a:ac w g e cs)(A:o+vs.length<=cs.length)(h:∀w',ae (λr=>r=g) w w'->w'.heap.size=w.heap.size->ac w' g e (over cs o vs)->K () w'):aB P (o9 t (.pointer (σ ⟨g,o,ν⟩)) (.agg vs.toArray)) w K:=by
 obtain⟨x,f⟩:=nI vs cs o w a;refine .of (w':=w.setCells g o vs) ?_ (f.cr a) (h _ f.aa f.size x);exact run_storeAt_mid (P:=P) w g o t vs.toArray (λj y=>⟨by rw[a.cell (x7 (show o+j<cs.length by simp at y;omega))];rfl,a.frozen _ _⟩) (by rw[hi.size];simp[q]) (by simpa using s)
def bX(w:x4)(g:Nat)(e:r9)(k:Nat)(v:x3)(n:Nat)(xs:List x3):Prop:=
 xs.length=n*k/\((v= .slice ν 0 0/\n=0)\/∃cap cs,v= .slice (σ ⟨g,0,ν⟩) n cap/\ac w g e cs/\n<=cap/\cap<=maxLen/\cs.length=cap*k/\cs.take (n*k)=xs)
theorem bX.nil(w:x4)(g:Nat)(e:r9)(k:Nat):bX w g e k (.slice ν 0 0) 0 []:=⟨Ξ,.inl ⟨rfl,rfl⟩⟩
theorem bX.full{g:Nat}{k:Nat}(h:ac w g e cs)(a:cs.length=n*k)(f:n<=maxLen):bX w g e k (.slice (σ ⟨g,0,ν⟩) n n) n cs:=
 ⟨a,.inr ⟨n,cs,rfl,h,o6 _,f,a,by rw[<-a,o8]⟩⟩
theorem bX.aa{g:Nat}{k:Nat}(h:bX w g e k v n xs)(f:ae S w w')(j:g<w.heap.size->¬S g):bX w' g e k v n xs:=
 ⟨h.1,h.2.imp id λ⟨cap,cs,h1,a,p⟩=>⟨cap,cs,h1,a.aa f (j a.lt),p⟩⟩
theorem bX.ext{g:Nat}{k:Nat}(h:bX w g e k v n xs)(a:Ext w w'):bX w' g e k v n xs:=h.aa (a.aa λ_=>False) (λ_ h=>h)
theorem bX.sl{g:Nat}{k:Nat}(h:bX w g e k v n xs):cd w k v n xs:=by
 obtain⟨h1,⟨rfl,rfl⟩|⟨cap,cs,rfl,f,p,q,s,r⟩⟩:=h
 .have:xs=[]:=c9 (by simpa using h1);subst this;exact cd.nil w k
 .refine⟨h1,g,0,_,cap,rfl,p,q,λ_=>rfl,λj v a=>?_⟩;rw[X6];have x:=(x5.1 a).1;rw[<-r,Y0 Ω]at a;exact f.cell a
theorem cd.src{k:Nat}{x:x3}{m:Nat}{a:List x3}{f h:r9}(I:cd w k x m a)(hk:P.underlying f=σ (.slice h))(h1:∀u∈a,u.oneCell'=true)(p:0<m):Src P k f x m a w:=by
 obtain⟨q,b,o,base,cap,rfl,_,_,e,r⟩:=I;have e:=e p;subst e;exact Src.ofSlice w hk ⟨b,o,ν⟩ m cap a q (λj u hu=>by rw[T7];exact r j u hu) h1
theorem cd.IW{k:Nat}{x:x3}{f:List x3}{h:r9}(I:cd w k x 0 f)(hk:P.underlying e=σ (.slice h)):Src P k e x 0 [] w:=by
 obtain⟨j,b,o,base,cap,rfl,_,_,p,q⟩:=I;cases base with
 |none=>exact Src.ofNil w hk cap
 |some a=>exact Src.ofSlice w hk a 0 cap [] Ξ Ξ Ξ
theorem zF{p s M W:r9}{k g m:Nat}{x:x3}{a:List x3}{K:x3->x4->Prop}(B:P.underlying t=σ (.slice e))(C:P.underlying p=σ (.slice W))(hi:aQ P e k N z)(X:z.cells.size=k)(O:bX w g M k v n xs)(I:cd w k x m a)(h1:∀u∈a,u.oneCell'=true)(Y:(n+m)*N<=140737488355328)(Q:n+m<=maxLen)(h:∀E F w' G,(F=g/\G=M/\(v=E\/g<w.heap.size/\v≠ .slice ν 0 0)\/F=w.heap.size/\G=e)->bX w' F G k E (n+m) (xs++a)->ae (λr=>r=g/\v≠ .slice ν 0 0) w w'->K E w'):
  aB P (Z3 #[t,p] s #[v,x]) w K:=by
 obtain⟨i,hi,rfl,rfl,Z⟩:=hi;have ab:=O.sl;obtain⟨f,H⟩:=O;have q:=I.1;have grow:∀(base:Option Addr)(cap:Nat),v= .slice base n cap->cap<n+m->0<m->(Z5.firstCells i.size n (.slice base n cap)).run P w.drew= .ok xs.toArray w.drew->aB P (Z3 #[t,p] s #[v,x]) w K:=by
  rintro base cap rfl R hm ac;have y:=run_append_grow_src (P:=P) w t p s e i z B hi Z base n cap xs ac x m a (I.src C h1 hm) R (by simp only[maxLen]at Q;omega) (growslice_fits R Y);have ad:n+m<=grownCap w (n+m) cap e:=grownCap_ge w _ _ _;have J:grownCap w (n+m) cap e<=maxLen:=grownCap_le_maxLen w (n+m) cap e Q;have af:Ext w (w.drew.alloc (.cells ((xs++a).toArray++Z5.zeroCells z.cells (grownCap w (n+m) cap e-(n+m))) e)):=(rr w _).trans (pL _ _);refine .of y ((pK w _ (Nat.le_succ _)).trans (pM _ _)) (h _ w.heap.size _ _ (.inr ⟨rfl,rfl⟩) ⟨by simp[f,q,U5],.inr ⟨_,((xs++a).toArray++Z5.zeroCells z.cells (grownCap w (n+m) cap e-(n+m))).toList,rfl,?_,ad,J,?_,?_⟩⟩ (af.aa _))
  .show _=_;rw[Array.toArray_toList];exact heap_alloc_new w.drew _
  .simp[f,q,size_zeroCells,X,<-U5];congr 1;omega
  .rw[Array.toList_append,List.toList_toArray,U5,<-f,<-q,<-o4];exact List.take_left
 rcases Q5 m with rfl|hm
 .have ag:a=[]:=c9 (by simpa using q);subst ag;have ah:=I.IW C;have S:∀base cap,v= .slice base n cap->n<=cap->aB P (Z3 #[t,p] s #[v,x]) w K:=by
   rintro base cap rfl J;refine .of (run_append_nothing (P:=P) w t p s e i B hi base n cap J x ah) (cL.refl _) (h _ g _ _ (.inl ⟨rfl,rfl,.inl rfl⟩) ?_ (ae.refl _ _));rw[Nat.add_zero,V3];exact⟨f,H⟩
  obtain⟨rfl,rfl⟩|⟨cap,cs,rfl,_,T,_⟩:=H
  .exact S _ _ rfl (o6 _)
  .exact S _ _ rfl T
 .obtain⟨rfl,rfl⟩|⟨cap,cs,rfl,A,T,ai,U,aj⟩:=H
  .have ak:xs=[]:=c9 (by simpa using f);subst ak;exact grow ν 0 rfl Ω hm (run_firstCells_none w.drew i.size 0 0 0)
  .by_cases L:n+m<=cap
   .have al:n*i.size+a.length<=cs.length:=by rw[q,U,<-U5];exact X0 _ L
    have y:=run_append_room_src (P:=P) w t p s e i B hi g 0 n cap x m a (I.src C h1 hm) L
     (λj aq=>by rw[A.cell (x7 (show 0+n*i.size+j<cs.length by omega))];rfl) (λj _=>A.frozen _ _)
    obtain⟨am,V⟩:=nI a cs (n*i.size) w A;rw[X6]at y;refine .of y (V.cr A) (h _ g _ _ (.inl ⟨rfl,rfl,.inr ⟨A.lt,Ξ⟩⟩) ⟨by simp[f,q,U5],.inr ⟨cap,_,rfl,am,L,ai,by rw[lZ,U],?_⟩⟩ (V.aa.mono λr _ h=>⟨h,Ξ⟩));rw[mE al,aj,U5,<-f,<-q,<-o4];exact List.take_left
   .refine grow _ cap rfl Ω hm (run_firstCells_some w.drew i.size n _ n cap xs f λj u hu=>?_);rw[T7];obtain⟨_,b,o,base,au,he,_,_,an,y⟩:=ab;cases he;have ao:0<n:=by
     rcases Q5 n with rfl|ap
     .simp at f;subst f;simp at hu
     .exact ap
    have:=an ao;cases this;simpa using y j u hu
theorem nJ{p y A:r9}{k q g m:Nat}{x:x3}{j:List x3}{K:x3->x4->Prop}(B:P.underlying t=σ (.slice e))(C:P.underlying p=σ (.slice A))(hi:aQ P e k q z)(E:z.cells.size=k)(F:bX w g e k v n xs)(I:cd w k x m j)(h1:∀u∈j,u.oneCell'=true)(G:(n+m)*q<=140737488355328)(H:n+m<=maxLen)(h:∀f a w',(a=g\/w.heap.size<=a)->bX w' a e k f (n+m) (xs++j)->ae (λr=>r=g) w w'->K f w'):
  aB P (Z3 #[t,p] y #[v,x]) w K:=
 zF B C hi E F I h1 G H λf a w' L s hm J=>by
  refine h f a w' (s.imp And.left λh=>Nat.le_of_eq h.1.symm) ?_ (J.mono λr _ h=>h.1);obtain⟨_,rfl,_⟩|⟨_,rfl⟩:=s<;>exact hm
theorem zG{f q s:r9}{J g o hB y:Nat}{x:x3}{base:Option Addr}{C:r9}{K:x3->x4->Prop}(E:P.underlying f=σ (.slice e))(hi:aQ P e 1 J z)(a:ac w g C cs)(L:0<hB->base=σ ⟨g,o,ν⟩)(V:o+hB<=cs.length)(I:cd w 1 x n xs)(h1:∀u∈xs,u.oneCell'=true)(h:∀w',ae (λr=>r=g) w w'->w'.heap.size=w.heap.size->ac w' g C (over cs o (xs.take hB))->K (Δ (min n hB:Nat)) w'):
  aB P (Z5.copy_ #[f,q] s #[.slice base hB y,x]) w K:=by
 obtain⟨A,b,o',M,cap,rfl,_,_,N,O⟩:=I;simp only[U4]at A;have F:(P.info? e).map (·.size)=σ 1:=hi.size;by_cases p:Nat.min n hB=0
 .have he:xs.take hB=[]:=c9 (by rw[o7,A];rw[Nat.min_comm];exact p);rw[he]at h;refine .of (run_copy_none (P:=P) w f q s e base M hB y n cap E F p) (cL.refl _) ?_;have G:min n hB=0:=p;rw[G]at h;exact h w (ae.refl _ _) rfl a
 .have G:min n hB≠0:=p;have Q:=N Ω;have R:=L Ω;subst Q;subst R;have H:(xs.take hB).length=min n hB:=by rw[o7,A,Nat.min_comm]
  obtain⟨S,B⟩:=nI (xs.take hB) cs o w a;have T:=run_copy_cells (P:=P) w f q s e g o hB y ⟨b,o',ν⟩ n cap (xs.take hB) E F H
   (λj u hu=>by
    rw[T7];have U:=(x5.1 hu).1;rw[Y0 Ω]at hu;exact O j u hu)
   (λj U=>by rw[a.cell (x7 (show o+j<cs.length by omega))];rfl) (λj _=>a.frozen _ _) (λu hu=>h1 u (U6 hu))
  refine .of T (B.cr a) ?_;rw[H];exact h _ B.aa B.size S
theorem ai.mono{f:Q2}{K e:x3->x4->Prop}(h:ai P f args w K)(j:∀v w',cL w w'->K v w'->e v w'):ai P f args w e:=by
 cases h with
 |code h1 a=>exact .code h1 (a.mono λ_ w' ⟨v,h1,p,a⟩=>⟨v,h1,p,j v w' p a⟩)
 |ext v w' h1 a q=>exact .ext v w' h1 a (j v w' a q)
theorem gH.mono{f:Q2}{K e:x3->x4->Prop}(h:gH P f args w K)(j:∀v w',K v w'->e v w'):gH P f args w e:=by
 cases h with
 |code h1 a=>exact .code h1 (a.mono λ_ w' ⟨v,h1,a⟩=>⟨v,h1,j v w' a⟩)
 |ext v w' h1 p=>exact .ext v w' h1 (j v w' p)
end
end Go.Vc
namespace Go.Proofs.YtikkpokkcdocoaaGreatDoor
open Go Go.Vc Go.RowKit Go.Proofs Go.Proofs.Tryz
set_option maxRecDepth 100000
theorem am.u:x8.underlying am=σ (.int .i64):=Ψ
theorem am.i:aQ x8 am 1 8 (Δ 0):=aQ.of Ψ
theorem ah.u:x8.underlying ah=σ (.int .i64):=Ψ
theorem ah.i:aQ x8 ah 1 8 (Δ 0):=aQ.of Ψ
theorem ec.i:aQ x8 ec 1 1 (.bool false):=aQ.of Ψ
theorem cI.u:x8.underlying cI=σ (.int .u8):=Ψ
theorem cI.i:aQ x8 cI 1 1 (.int .u8 0):=aQ.of Ψ
theorem c5.u:x8.underlying c5=σ .string:=Ψ
theorem c5.i:aQ x8 c5 1 16 (.string ⟨#[]⟩):=aQ.of Ψ
theorem cM.u:x8.underlying cM=σ (.slice cI):=Ψ
theorem nB.u:x8.underlying nB=σ (.slice c6):=Ψ
theorem ds.u:x8.underlying ds=σ (.pointer cu):=Ψ
theorem an.u:x8.underlying an=σ (.slice ah):=Ψ
theorem an.i:aQ x8 an 1 24 (.slice ν 0 0):=aQ.of Ψ
theorem b6.u:x8.underlying b6=σ (.slice an):=Ψ
theorem b6.i:aQ x8 b6 1 24 (.slice ν 0 0):=aQ.of Ψ
theorem hU.u:x8.underlying hU=σ (.slice ec):=Ψ
theorem hU.i:aQ x8 hU 1 24 (.slice ν 0 0):=aQ.of Ψ
theorem cR.u:x8.underlying cR=σ (.slice aq):=Ψ
theorem cR.i:aQ x8 cR 1 24 (.slice ν 0 0):=aQ.of Ψ
theorem dp.u:x8.underlying dp=σ (.slice cW):=Ψ
theorem dp.i:aQ x8 dp 1 24 (.slice ν 0 0):=aQ.of Ψ
theorem nC.u:x8.underlying nC=σ (.slice p4):=Ψ
theorem nC.i:aQ x8 nC 1 24 (.slice ν 0 0):=aQ.of Ψ
theorem aC.p:bL x8 aC [(0,1),(1,1),(2,1),(3,1),(4,1),(5,1),(6,1),(7,1)]:=bL.of Ψ
theorem aC.i:aQ x8 aC 8 160 (.agg #[(Δ 0),(.slice ν 0 0),(Δ 0),(.slice ν 0 0),(.slice ν 0 0),(.slice ν 0 0),(.slice ν 0 0),(.slice ν 0 0)]):=aQ.of Ψ
theorem jF.i:aQ x8 jF 1 8 (Δ 0):=aQ.of Ψ
theorem r1.u:x8.underlying r1=σ (.slice gk):=Ψ
theorem aq.u:x8.underlying aq=σ (.slice am):=Ψ
theorem aq.i:aQ x8 aq 1 24 (.slice ν 0 0):=aQ.of Ψ
theorem fC.u:x8.underlying fC=σ (.int .u64):=Ψ
theorem fC.i:aQ x8 fC 1 8 (.int .u64 0):=aQ.of Ψ
theorem b5.p:bL x8 b5 [(0,1),(1,1)]:=bL.of Ψ
theorem b5.i:aQ x8 b5 2 16 (.agg #[(.int .u64 0),(Δ 0)]):=aQ.of Ψ
theorem c6.p:bL x8 c6 [(0,1),(1,1),(2,1),(3,1),(4,1)]:=bL.of Ψ
theorem c6.i:aQ x8 c6 5 40 (.agg #[(.int .u8 0),(Δ 0),(Δ 0),(Δ 0),(Δ 0)]):=aQ.of Ψ
theorem aX.p:bL x8 aX [(0,1),(1,1),(2,1)]:=bL.of Ψ
theorem aX.i:aQ x8 aX 3 72 (.agg #[(.slice ν 0 0),(.slice ν 0 0),(.slice ν 0 0)]):=aQ.of Ψ
theorem cW.p:bL x8 cW [(0,3),(3,1)]:=bL.of Ψ
theorem cW.i:aQ x8 cW 4 80 (.agg #[(.slice ν 0 0),(.slice ν 0 0),(.slice ν 0 0),(.bool false)]):=aQ.of Ψ
theorem mC.u:x8.underlying mC=σ (.pointer fE):=Ψ
theorem p2.u:x8.underlying p2=σ (.pointer fD):=Ψ
theorem fm.u:x8.underlying fm=σ (.slice dS):=Ψ
theorem fm.i:aQ x8 fm 1 24 (.slice ν 0 0):=aQ.of Ψ
theorem cu.p:bL x8 cu [(0,1),(1,1),(2,1),(3,1),(4,1)]:=bL.of Ψ
theorem gk.p:bL x8 gk [(0,1),(1,1),(2,1)]:=bL.of Ψ
theorem gk.i:aQ x8 gk 3 56 (.agg #[(Δ 0),(.slice ν 0 0),(.slice ν 0 0)]):=aQ.of Ψ
theorem oN.i:aQ x8 oN 1 8 .nilFunc:=aQ.of Ψ
theorem bC.p:bL x8 bC [(0,1)]:=bL.of Ψ
theorem bC.i:aQ x8 bC 1 24 (.agg #[(.slice ν 0 0)]):=aQ.of Ψ
theorem dS.p:bL x8 dS [(0,1),(1,1),(2,1)]:=bL.of Ψ
theorem dS.i:aQ x8 dS 3 56 (.agg #[(.slice ν 0 0),(.slice ν 0 0),(Δ 0)]):=aQ.of Ψ
theorem va.u:x8.underlying va=σ (.pointer cD):=Ψ
theorem vb.u:x8.underlying vb=σ (.pointer dI):=Ψ
theorem cX.u:x8.underlying cX=σ (.slice aX):=Ψ
theorem cX.i:aQ x8 cX 1 24 (.slice ν 0 0):=aQ.of Ψ
theorem dH.p:bL x8 dH [(0,1),(1,1),(2,1),(3,1),(4,1)]:=bL.of Ψ
theorem dH.i:aQ x8 dH 5 88 (.agg #[(Δ 0),(.slice ν 0 0),(Δ 0),(.slice ν 0 0),(.slice ν 0 0)]):=aQ.of Ψ
theorem eJ.p:bL x8 eJ [(0,1),(1,1)]:=bL.of Ψ
theorem eJ.i:aQ x8 eJ 2 16 (.agg #[(Δ 0),(.int .u64 0)]):=aQ.of Ψ
theorem ij.u:x8.underlying ij=σ (.slice eJ):=Ψ
theorem ij.i:aQ x8 ij 1 24 (.slice ν 0 0):=aQ.of Ψ
theorem nD.u:x8.underlying nD=σ (.slice kX):=Ψ
theorem nD.i:aQ x8 nD 1 24 (.slice ν 0 0):=aQ.of Ψ
theorem r2.u:x8.underlying r2=σ (.slice gl):=Ψ
theorem fD.p:bL x8 fD [(0,1),(1,1),(2,1),(3,1)]:=bL.of Ψ
theorem gl.p:bL x8 gl [(0,1),(1,1),(2,1)]:=bL.of Ψ
theorem gl.i:aQ x8 gl 3 24 (.agg #[(Δ 0),(Δ 0),(.int .u64 0)]):=aQ.of Ψ
theorem kX.i:aQ x8 kX 3 24 (.agg #[(Δ 0),(Δ 0),(.int .u64 0)]):=aQ.of Ψ
theorem r3.u:x8.underlying r3=σ (.pointer hV):=Ψ
theorem e1.p:bL x8 e1 [(0,1),(1,1),(2,1),(3,1)]:=bL.of Ψ
theorem hy.u:x8.underlying hy=σ (.slice jG):=Ψ
theorem hy.i:aQ x8 hy 1 24 (.slice ν 0 0):=aQ.of Ψ
theorem ci.p:bL x8 ci [(0,1),(1,4),(5,1),(6,1)]:=bL.of Ψ
theorem jl.u:x8.underlying jl=σ (.slice b7):=Ψ
theorem iK.u:x8.underlying iK=σ (.slice eh):=Ψ
theorem iK.i:aQ x8 iK 1 24 (.slice ν 0 0):=aQ.of Ψ
theorem b7.p:bL x8 b7 [(0,1),(1,1),(2,1),(3,1)]:=bL.of Ψ
theorem b7.i:aQ x8 b7 4 80 (.agg #[(.slice ν 0 0),(.slice ν 0 0),(Δ 0),(.slice ν 0 0)]):=aQ.of Ψ
theorem dO.u:x8.underlying dO=σ (.slice cE):=Ψ
theorem dO.i:aQ x8 dO 1 24 (.slice ν 0 0):=aQ.of Ψ
theorem cD.p:bL x8 cD [(0,1),(1,1),(2,1),(3,1)]:=bL.of Ψ
theorem eU.u:x8.underlying eU=σ (.pointer fF):=Ψ
theorem eU.i:aQ x8 eU 1 8 (.pointer ν):=aQ.of Ψ
theorem cE.p:bL x8 cE [(0,1),(1,1)]:=bL.of Ψ
theorem cE.i:aQ x8 cE 2 32 (.agg #[(.slice ν 0 0),(.pointer ν)]):=aQ.of Ψ
theorem fo.u:x8.underlying fo=σ (.slice cp):=Ψ
theorem fo.i:aQ x8 fo 1 24 (.slice ν 0 0):=aQ.of Ψ
theorem dD.u:x8.underlying dD=σ (.slice a6):=Ψ
theorem dD.i:aQ x8 dD 1 24 (.slice ν 0 0):=aQ.of Ψ
theorem bD.p:bL x8 bD [(0,1),(1,1),(2,1),(3,1),(4,1),(5,1),(6,1),(7,1),(8,1)]:=bL.of Ψ
theorem dI.p:bL x8 dI [(0,1),(1,1),(2,1),(3,1)]:=bL.of Ψ
theorem cp.p:bL x8 cp [(0,1),(1,1)]:=bL.of Ψ
theorem cp.i:aQ x8 cp 2 24 (.agg #[(.string ⟨#[]⟩),(Δ 0)]):=aQ.of Ψ
theorem eg.u:x8.underlying eg=σ (.slice ce):=Ψ
theorem eg.i:aQ x8 eg 1 24 (.slice ν 0 0):=aQ.of Ψ
theorem a6.p:bL x8 a6 [(0,1),(1,1),(2,1),(3,1)]:=bL.of Ψ
theorem a6.i:aQ x8 a6 4 80 (.agg #[(.slice ν 0 0),(.slice ν 0 0),(Δ 0),(.slice ν 0 0)]):=aQ.of Ψ
theorem kY.u:x8.underlying kY=σ (.slice hz):=Ψ
theorem kY.i:aQ x8 kY 1 24 (.slice ν 0 0):=aQ.of Ψ
theorem fE.p:bL x8 fE [(0,1),(1,1),(2,1),(3,1)]:=bL.of Ψ
theorem eV.u:x8.underlying eV=σ (.pointer cZ):=Ψ
theorem eV.i:aQ x8 eV 1 8 (.pointer ν):=aQ.of Ψ
theorem hz.p:bL x8 hz [(0,1),(1,1)]:=bL.of Ψ
theorem hz.i:aQ x8 hz 2 32 (.agg #[(.slice ν 0 0),(.pointer ν)]):=aQ.of Ψ
theorem oO.u:x8.underlying oO=σ (.int .u64):=Ψ
theorem p3.p:bL x8 p3 [(0,1),(1,1)]:=bL.of Ψ
theorem hV.p:bL x8 hV [(0,1),(1,1),(2,1)]:=bL.of Ψ
theorem jG.p:bL x8 jG [(0,1),(1,1)]:=bL.of Ψ
theorem jG.i:aQ x8 jG 2 48 (.agg #[(.slice ν 0 0),(.slice ν 0 0)]):=aQ.of Ψ
theorem eh.p:bL x8 eh [(0,1),(1,1)]:=bL.of Ψ
theorem eh.i:aQ x8 eh 2 32 (.agg #[(.slice ν 0 0),(Δ 0)]):=aQ.of Ψ
theorem ce.p:bL x8 ce [(0,1),(1,1)]:=bL.of Ψ
theorem ce.i:aQ x8 ce 2 32 (.agg #[(.slice ν 0 0),(Δ 0)]):=aQ.of Ψ
theorem gm.u:x8.underlying gm=σ (.slice cY):=Ψ
theorem cY.p:bL x8 cY [(0,1),(1,1)]:=bL.of Ψ
theorem cY.i:aQ x8 cY 2 32 (.agg #[(.slice ν 0 0),(.pointer ν)]):=aQ.of Ψ
theorem iL.u:x8.underlying iL=σ (.map cF am):=Ψ
theorem fF.p:bL x8 fF [(0,1),(1,1),(2,1),(3,1)]:=bL.of Ψ
theorem oP.u:x8.underlying oP=σ (.slice gn):=Ψ
theorem gn.p:bL x8 gn [(0,1),(1,1)]:=bL.of Ψ
theorem gn.i:aQ x8 gn 2 32 (.agg #[(.slice ν 0 0),(Δ 0)]):=aQ.of Ψ
theorem cZ.p:bL x8 cZ [(0,1),(1,1),(2,1)]:=bL.of Ψ
theorem r4.u:x8.underlying r4=σ (.array 64 cI):=Ψ
theorem gX.u:x8.underlying gX=σ (.map c5 ah):=Ψ
theorem fT.u:x8.underlying fT=σ (.int .i8):=Ψ
theorem fT.i:aQ x8 fT 1 1 (.int .i8 0):=aQ.of Ψ
theorem cF.u:x8.underlying cF=σ (.array 6 fT):=Ψ
theorem cF.i:aQ x8 cF 6 6 (.agg #[(.int .i8 0),(.int .i8 0),(.int .i8 0),(.int .i8 0),(.int .i8 0),(.int .i8 0)]):=aQ.of Ψ
theorem kZ.u:x8.underlying kZ=σ (.slice fT):=Ψ
theorem jm.u:x8.underlying jm=σ (.slice cF):=Ψ
theorem jm.i:aQ x8 jm 1 24 (.slice ν 0 0):=aQ.of Ψ
theorem oQ.u:x8.underlying oQ=σ (.int .u32):=Ψ
theorem lT.u:x8.underlying lT=σ (.map am ah):=Ψ
theorem mD.u:x8.underlying mD=σ (.array 24 cI):=Ψ
theorem mD.i:aQ x8 mD 24 24 (.agg #[(.int .u8 0),(.int .u8 0),(.int .u8 0),(.int .u8 0),(.int .u8 0),(.int .u8 0),(.int .u8 0),(.int .u8 0),(.int .u8 0),(.int .u8 0),(.int .u8 0),(.int .u8 0),(.int .u8 0),(.int .u8 0),(.int .u8 0),(.int .u8 0),(.int .u8 0),(.int .u8 0),(.int .u8 0),(.int .u8 0),(.int .u8 0),(.int .u8 0),(.int .u8 0),(.int .u8 0)]):=aQ.of Ψ
theorem r5.u:x8.underlying r5=σ (.array 20 fC):=Ψ
theorem p4.i:aQ x8 p4 3 56 (.agg #[(Δ 0),(.slice ν 0 0),(.slice ν 0 0)]):=aQ.of Ψ
end Go.Proofs.YtikkpokkcdocoaaGreatDoor
namespace Go.Vc
open Go Go.RowKit
def b0:x3->Int
 | .int _ i=>i
 |_=>0
theorem wrap_i64{x:Int}(h1: -9223372036854775808<=x)(a:x<9223372036854775808):X9.wrap x=x:=by
 simp only[n9.wrap,n9.bits,n9.signed];simp;omega
theorem wrap_u8{x:Int}(h1:0<=x)(a:x<256):n9.u8.wrap x=x:=by
 simp only[n9.wrap,n9.bits,n9.signed];simp;omega
theorem IX{x:Int}(h1: -128<=x)(a:x<128):n9.i8.wrap x=x:=by
 simp only[n9.wrap,n9.bits,n9.signed];simp;omega
theorem wrap_u64{x:Int}(h1:0<=x)(a:x<18446744073709551616):T3.wrap x=x:=by
 simp only[n9.wrap,n9.bits,n9.signed];simp;omega
abbrev ints(k:n9)(l:Λ):List x3:=l.map (V8 k)
theorem qa(k:n9)(l:Λ):∀u∈ints k l,u.oneCell'=true:=by
 intro u hu;obtain⟨x,_,rfl⟩:=l9.1 hu;rfl
theorem k1{i:Nat}{x:Int}(h:l[i]?=σ x):(ints k l)[i]?=σ (.int k x):=by simp[ints,h]
theorem vf{α:Type}{a b:List α}{i:Nat}{x y:α}(h:a.take i=b.take i)(e:a[i]?=σ x)(f:b[i]?=σ y)(j:x=y):a.take (i+1)=b.take (i+1):=by
 rw[u9,u9,h,e,f,j]
theorem dh{ax:x4->Prop}{B:(x4->Prop)->Prop}(G:x4->Prop)(h1:∀w,G w->ax w)(e:∀a:x4->Prop,(∀w,G w->a w)->B a):ct ax B:=e ax h1
theorem aW{ax:x3->x4->Prop}{B:(x3->x4->Prop)->Prop}(G:x3->x4->Prop)(h1:∀v w,G v w->ax v w)(e:∀a:x3->x4->Prop,(∀v w,G v w->a v w)->B a):ct ax B:=e ax h1
theorem ii{ax:x3->x3->x4->Prop}{B:(x3->x3->x4->Prop)->Prop}(G:x3->x3->x4->Prop)(h1:∀u v w,G u v w->ax u v w)(e:∀a:x3->x3->x4->Prop,(∀u v w,G u v w->a u v w)->B a):ct ax B:=e ax h1
theorem ai.calls{P:V1}{f:Q2}{K:x3->x4->Prop}(h:ai P f args w K)(a:Enters P f):Calls P f args.toArray w λe w'=>∃v,e= .returned v/\cL w w'/\K v w':=by
 cases h with
 |code _ h=>exact h
 |ext v w' h1=>rw[a]at h1;cases h1
theorem IY(f:Ext w w')(a:cL w w'):Below w.heap.size w w':=
 ⟨a.os,a.tape.1,a.output,f.size,λk hk=>by
  have e:w.heap[k]?=σ w.heap[k]:=Array.getElem?_eq_getElem hk;rw[e];cases I:fz w.heap[k]with
  |true=>exact f.aV k _ e I
  |false=>exact a.aV k _ e I⟩
theorem vg{x:Addr}(h:w.cell? x=σ v):x=⟨x.block,x.off,ν⟩:=by
 obtain⟨b,o,s⟩:=x;cases s with
 |none=>rfl
 |some s=>
  unfold x4.cell? at h;split at h<;>simp at h
theorem IZ{a:Option Addr}{len cap:Nat}{e:Λ}(h:(a=ν/\len=0/\cap=0/\e=[])\/
   ∃x,a=σ x/\len<=cap/\cap<=maxLen/\e.length=cap/\(∀i,i<e.length->w.cell? (x.add i)=σ (.int k (e.getD i 0)))/\∀n∈e,(Lit.int k n).wf=true):
  cd w 1 (.slice a len cap) len (ints k (e.take len))/\∀n∈e.take len,k.min<=n/\n<=k.max:=by
 rcases h with⟨rfl,rfl,rfl,rfl⟩|⟨x,rfl,h1,r,s,f,y⟩
 .exact⟨cd.nil _ _,Ξ⟩
 .refine⟨⟨by simp[s,h1],x.block,x.off,σ x,cap,rfl,h1,r,λC=>?_,λj v p=>?_⟩,λn z=>?_⟩
  .have:=f 0 Ω;exact congrArg σ (vg this)
  .have A:=(x5.1 p).1;rw[u7,o7]at A;have B:x=⟨x.block,x.off,ν⟩:=vg (v:=.int k (e.getD 0 0)) (f 0 Ω);have q:=f j Ω;rw[B,T7]at q;rw[q,<-p,ints,v8,Y0 Ω,u4,x7 Ω];rfl
  .have:=y n (U6 z);simpa[Lit.wf]using this
def aG(k:n9)(w:x4)(v:x3)(l:Λ):Prop:=cd w 1 v l.length (ints k l)
def au(k:n9)(e:r9)(w:x4)(g:Nat)(v:x3)(l:Λ):Prop:=bX w g e 1 v l.length (ints k l)
theorem aG.ext(h:aG k w v l)(a:Ext w w'):aG k w' v l:=cd.ext h a
theorem au.ext{g:Nat}(h:au k e w g v l)(a:Ext w w'):au k e w' g v l:=bX.ext h a
theorem au.aa{g:Nat}(h:au k e w g v l)(a:ae S w w')(f:g<w.heap.size->¬S g):au k e w' g v l:=bX.aa h a f
theorem au.ls{g:Nat}(h:au k e w g v l):aG k w v l:=bX.sl h
theorem aG.of(h:cd w 1 v n (ints k l)):aG k w v l:=by
 have:l.length=n:=by simpa using h.1
 unfold aG;rw[this];exact h
theorem au.of{g:Nat}(h:bX w g e 1 v n (ints k l)):au k e w g v l:=by
 have:l.length=n:=by simpa using h.1
 unfold au;rw[this];exact h
theorem aG.le(h:aG k w v l):l.length<=9223372036854775807:=by
 have:=cd.le h;simpa[maxLen]using this
theorem aG.cells(h:aG k w v l):v.cells= #[v]/\v.oneCell'=true:=by
 obtain⟨_,_,_,_,_,rfl,_⟩:=h;exact⟨rfl,rfl⟩
theorem au.nil(k:n9)(e:r9)(w:x4)(g:Nat):au k e w g (.slice ν 0 0) []:=bX.nil w g e 1
section
variable{P:V1}{w:x4}
theorem aU{a:r9}(f:P.underlying t=σ (.slice e))(h:aG k w v l):
  V P (W9 #[t] a #[v]) w K=K (Δ l.length):=by
 obtain⟨_,_,_,_,_,rfl,_⟩:=h;exact hW f
theorem bb{b:Nat}{i:Nat}{x:Int}(j:P.underlying t=σ (.slice e))(hi:aQ P e 1 b z)(h1:jH P e=true)(h:aG k w v l)(a:l[i]?=σ x):V P (j9 t v (.int f (i:Int))) w (λp=>V P (u5 e p) w K)=K (.int k x):=by
 have q:=(x5.1 a).1;obtain⟨_,_,_,_,_,rfl,_,_,r,s⟩:=h;rw[eK j hi q r,U4,aD h1 (s i _ (k1 a))]
theorem fq{a:n9}{b:Nat}{i:Nat}{x:Int}(f:y=(i:Int))(j:P.underlying t=σ (.slice e))(hi:aQ P e 1 b z)(h1:jH P e=true)(h:aG k w v l)(q:l[i]?=σ x):V P (j9 t v (.int a y)) w (λp=>V P (u5 e p) w K)=K (.int k x):=by
 subst f;exact bb j hi h1 h q
theorem jo{p:r9}{b g:Nat}{x:x3}{m:Λ}{K:x3->x4->Prop}(j:P.underlying t=σ (.slice e))(hi:aQ P e 1 b z)(q:z.cells.size=1)(h:au k e w g v l)(s:aG k w x m)(y:(l.length+m.length)*b<=140737488355328)(A:l.length+m.length<=9223372036854775807)(B:∀f a w',(a=g\/w.heap.size<=a)->au k e w' a f (l++m)->ae (λr=>r=g) w w'->K f w'):aB P (Z3 #[t,t] p #[v,x]) w K:=
 nJ j j hi q h s (qa _ _) y (by simpa[maxLen]using A) λf a w' h1 C E=>B f a w' h1 (au.of (by rw[ints,Z4];exact C)) E
theorem et{b:Nat}{x:Int}{K:x3->x4->Prop}(j:P.underlying t=σ (.slice e))(hi:aQ P e 1 b z)(s:z.cells.size=1)(h:∀v g w',g=w.heap.size->Ext w w'->au k e w' g v [x]->K v w'):aB P (Y8 t 1 #[(0,.int k x)]) w K:=
 jK j hi Ω (cs:=#[.int k x]) (by
   have I:∀(a:Array x3),a.size=1->a.setIfInBounds 0 (.int k x)= #[.int k x]:=λa f=>by
    apply Array.ext
    .simp[f]
    .intro i h1 y;have:i=0:=by simp[f]at h1;exact h1
     subst this;simp
   simp only[Instr.fill,x3.cells,List.zipIdx];simp;exact I _ Ξ) λg w' p q r=>h _ g w' p q (au.of (n:=1) (bX.full r rfl (by simp[maxLen])))
theorem ai.free{f:Q2}{K:x3->x4->Prop}(h:ai P f args w K):gH P f args w λv w'=>cL w w'/\K v w':=by
 cases h with
 |code h1 a=>exact .code h1 (a.mono λ_ w' ⟨v,h1,e,a⟩=>⟨v,h1,e,a⟩)
 |ext v w' h1 a j=>exact .ext v w' h1 ⟨a,j⟩
theorem bY{a:Addr}:V P (bP (.pointer (σ a))) w K=K (.pointer (σ a)):=V.of λ_ _=>by
 simp[bP,ru,execOp]
theorem aH{u:r9}{pl:List (Nat×Nat)}{b z:Nat}{K:x3->x3->Prop}(h:bL P t pl)(i:Nat)(j:ac w b e cs)(a:cs[(pl[i]?.getD (0,0)).1]?=σ v)(f:pl[i]?=σ (off,z+1):=by rfl)(p:jH P u=true:=by kernel_rfl):
  V P (u6 t (Γ b) i) w (λx=>V P (u5 u x) w (K x))=K (.pointer (σ ⟨b,0+off,ν⟩)) v:=by
 rw[f]at a;rw[aS h f,aD p (j.cell (by rw[X6];exact a))]
theorem aP{u:r9}{pl:List (Nat×Nat)}{b z:Nat}{K:x3->x3->x3->Prop}(a:bL P t pl)(i:Nat)(f:ac w b e cs)(h:cs[(pl[i]?.getD (0,0)).1]?=σ v)(j:pl[i]?=σ (off,z+1):=by rfl)(p:jH P u=true:=by kernel_rfl):
  V P (bP (Γ b)) w (λy=>V P (u6 t y i) w (λx=>V P (u5 u x) w (K y x)))=K (Γ b) (.pointer (σ ⟨b,0+off,ν⟩)) v:=by
 rw[bY,aH a i f h j p]
theorem zH{a:n9}{k:Nat}{K:x3->x4->Prop}(q:P.underlying t=σ (.slice e))(hi:aQ P e k j z)(A:n*j<=281474976710656)(B:n<=9223372036854775807)(h:∀g w',g=w.heap.size->Ext w w'->ac w' g e (dT z.cells (n*k))->K (.slice (σ ⟨g,0,ν⟩) n n) w'):aB P (Instr.makeSlice t (.int a (n:Int)) (.int f (n:Int))) w K:=by
 obtain⟨i,hi,rfl,rfl,r⟩:=hi;have s:(i.bytes:Int)*(n:Int)<=281474976710656:=by
  rw[Int.mul_comm];have h:((n*i.bytes:Nat):Int)<=281474976710656:=Ω
  rwa [Int.natCast_mul]at h
 have p:=run_make (P:=P) w t e i z q hi r a f n n Ω (Int.le_refl _) s Ω;have hm:madeCells z.cells ((n:Int).toNat*i.size)=(dT z.cells (n*i.size)).toArray:=by rw[dT,Array.toArray_toList];rfl
 rw[hm]at p;obtain⟨h1,x,y⟩:=sb w (dT z.cells (n*i.size)) e;exact .of p y (h _ _ rfl x h1)
theorem I0(v:x3)(n:Nat):dT #[v] n=o5 n v:=by
 apply List.ext_getElem
 .simp[dT]
 .intro i h1 a;simp[dT,Nat.mod_one]
theorem jL{j:n9}{a:Nat}{K:x3->x4->Prop}(p:P.underlying t=σ (.slice e))(hi:aQ P e 1 a (.int k 0))(q:n*a<=281474976710656)(r:n<=9223372036854775807)(h:∀g w',g=w.heap.size->Ext w w'->ac w' g e (ints k (o5 n 0))->K (.slice (σ ⟨g,0,ν⟩) n n) w'):aB P (Instr.makeSlice t (.int f (n:Int)) (.int j (n:Int))) w K:=
 zH p hi q r λg w' s x y=>h g w' s x (by
  have e:dT (V8 k 0).cells (n*1)=ints k (o5 n 0):=by rw[U4];show dT #[_] n=_;rw[I0];simp[ints]
  rw[<-e];exact y)
theorem fb{pl:List (Nat×Nat)}{b o k a:Nat}(hu:bL P t pl)(hi:aQ P t k a z)(e:cs.length=k)(h:w.rangeAt b o cs):V P (do loadVar t (<-asAddr (.pointer (σ ⟨b,o,ν⟩)))) w K=K (.agg cs.toArray):=V.of λw' f=>by
 obtain⟨j,hu,_⟩:=hu;have:=run_loadVar_mid (P:=P) w' b o t cs (.struct j) (nE f h) hu rfl (by rw[hi.size,e]);simp only[asAddr,W8,V6,Result.andThen_ok,this]
theorem I1(h:vs.length=cs.length):over cs 0 vs=vs:=by
 rw[mE Ω];simp[h]
theorem b1{k f g:Nat}{K:Unit->x4->Prop}(hi:aQ P t k f z)(j:vs.length=k)(x:cs.length=k)(p:∀v∈vs,v.oneCell'=true)(q:ac w g e cs)(h:∀w',ae (λr=>r=g) w w'->w'.heap.size=w.heap.size->ac w' g e vs->K () w'):aB P (o9 t (Γ g) (.agg vs.toArray)) w K:=
 zE hi j p q Ω λw' h1 s a=>h w' h1 s (by rw[I1 Ω]at a;exact a)
end
section
variable{P:V1}{w w' U:x4}{t:r9}{cx cy:Bool}{k:n9}{a b:Int}{A B:Prop}{x y z:x3}{K:x3->Prop}
theorem bx:V P (Y1 (.tuple #[x,y]) 0) w K=K x:=iN rfl
theorem bz:V P (Y1 (.tuple #[x,y]) 1) w K=K y:=iN rfl
theorem gY:V P (Y1 (.tuple #[x,y,z]) 0) w K=K x:=iN rfl
theorem gZ:V P (Y1 (.tuple #[x,y,z]) 1) w K=K y:=iN rfl
theorem ha:V P (Y1 (.tuple #[x,y,z]) 2) w K=K z:=iN rfl
theorem bA(h:a<b)(e:A):V P (aJ .lss t cx cy (.int k a) (.int k b)) w λv=>Split v A B:=by
 rw[aR,aj];exact⟨λ_=>e,λf=>absurd h f⟩
theorem b2(h:¬a<b)(e:B):V P (aJ .lss t cx cy (.int k a) (.int k b)) w λv=>Split v A B:=by
 rw[aR,aj];exact⟨λf=>absurd f h,λ_=>e⟩
theorem Ext.put{g:Nat}(a:Ext w w')(e:ae (λr=>r=g) w' U)(h:w.heap.size<=g):Ext w U:=a.then e λr f he=>by
 have he:r=g:=he;omega
theorem aF{α:Type}{l:List α}{i:Nat}(h:i<l.length):∃x,l[i]?=σ x:=⟨_,x7 h⟩
end
abbrev af:=Nat->Prop
def km(S:af)(w:x4)(k:Nat)(v:x3)(n:Nat)(cs:List x3):Prop:=
 cs.length=n*k/\∃b o base cap,v= .slice base n cap/\n<=cap/\cap<=maxLen/\(0<n->base=σ ⟨b,o,ν⟩)/\(0<cs.length->S b)/\w.rangeAt b o cs
theorem km.sl{S:af}{k:Nat}(h:km S w k v n cs):cd w k v n cs:=by
 obtain⟨h1,b,o,base,cap,a,e,f,j,_,p⟩:=h;exact⟨h1,b,o,base,cap,a,e,f,j,p⟩
theorem zI{b o:Nat}(h:w.rangeAt b o cs)(a:0<cs.length):b<w.heap.size:=by
 have:=h 0 cs[0] (x7 a);obtain⟨c,e,f,j,_⟩:=vc this;exact(j5.1 j).1
theorem km.aa{S T:af}{k:Nat}(h:km S w k v n cs)(p:ae T w w')(q:∀r,r<w.heap.size->S r->¬T r):km S w' k v n cs:=by
 obtain⟨h1,b,o,base,cap,s,x,y,z,e,f⟩:=h;refine⟨h1,b,o,base,cap,s,x,y,z,e,?_⟩;rcases Q5 cs.length with a|a
 .intro j v A;have:=(x5.1 A).1;omega
 .exact hA p (q b (zI f a) (e a)) f
theorem km.mono{S T:af}{k:Nat}(h:km S w k v n cs)(f:∀r,r<w.heap.size->S r->T r):km T w k v n cs:=by
 obtain⟨h1,b,o,base,cap,j,p,q,s,x,a⟩:=h;exact⟨h1,b,o,base,cap,j,p,q,s,λe=>f b (zI a e) (x e),a⟩
class al(α:Type) where
 n:Nat
 rep:Bool->af->af->x4->List x3->α->Prop
 len:∀{m S R w cs a},rep m S R w cs a->cs.length=n
 one:∀{m S R w cs a},rep m S R w cs a->∀u∈cs,u.oneCell'=true
 aa:∀{m S R T w w' cs a},rep m S R w cs a->ae T w w'->(∀r,r<w.heap.size->S r\/R r->¬T r)->rep m S R w' cs a
 mono:∀{m S S' R R' w cs a},rep m S R w cs a->(∀r,r<w.heap.size->S r->S' r)->(∀r,r<w.heap.size->R r->R' r)->rep m S' R' w cs a
 hS:∀{m S R w cs a},rep m S R w cs a->rep false (λ_=>False) (λr=>S r\/R r) w cs a
section
variable{α β:Type}[al α][al β]{m:Bool}{S R T:af}{w w':x4}
abbrev bl(S R:af)(w:x4)(cs:List x3)(a:α):Prop:=al.rep true S R w cs a
abbrev Seen(R:af)(w:x4)(cs:List x3)(a:α):Prop:=al.rep false (λ_=>False) R w cs a
abbrev fc:af:=λ_=>True
theorem bm{a:α}(h:al.rep m S R w cs a)(e:Ext w w'):al.rep m S R w' cs a:=al.aa h (e.aa λ_=>False) λ_ _ _ h=>h
theorem l0{a:α}(h:al.rep m S R w cs a):al.rep m (λr=>S r/\r<w.heap.size) R w cs a:=al.mono h (λ_ h1 e=>⟨e,h1⟩) λ_ _ h=>h
theorem iO{a:α}(h:al.rep m S R w cs a):Seen fc w cs a:=al.mono (al.hS h) (λ_ _ h=>h.elim) λ_ _ _=>trivial
theorem nK{a:α}{Q:af}(h:al.rep m S R w cs a)(e:∀r,r<w.heap.size->S r\/R r->Q r):Seen Q w cs a:=al.mono (al.hS h) (λ_ _ h=>h.elim) e
instance:al Int where
 n:=1
 rep _ _ _ _ cs a:=cs=[Δ a]
 len h:=by subst h;rfl
 one h:=by subst h;intro u hu;simp at hu;subst hu;rfl
 aa h _ _:=h
 mono h _ _:=h
 hS h:=h
instance:al Bool where
 n:=1
 rep _ _ _ _ cs a:=cs=[.bool a]
 len h:=by subst h;rfl
 one h:=by subst h;intro u hu;simp at hu;subst hu;rfl
 aa h _ _:=h
 mono h _ _:=h
 hS h:=h
instance:al ByteArray where
 n:=1
 rep _ _ _ _ cs a:=cs=[.string a]
 len h:=by subst h;rfl
 one h:=by subst h;intro u hu;simp at hu;subst hu;rfl
 aa h _ _:=h
 mono h _ _:=h
 hS h:=h
def l1(_:n9):Type:=Int
instance (k:n9):al (l1 k) where
 n:=1
 rep _ _ _ _ cs a:=cs=[.int k a]
 len h:=by subst h;rfl
 one h:=by subst h;intro u hu;simp at hu;subst hu;rfl
 aa h _ _:=h
 mono h _ _:=h
 hS h:=h
def Rd(α:Type):Type:=α
instance RW:al (Rd α) where
 n:=al.n α
 rep _ _ R w cs a:=al.rep (α:=α) false (λ_=>False) R w cs a
 len h:=al.len (α:=α) h
 one h:=al.one (α:=α) h
 aa h e f:=al.aa (α:=α) h e λr j h=>f r j (.inr (h.elim False.elim id))
 mono h _ p:=al.mono (α:=α) h (λ_ _ h=>h) p
 hS h:=al.mono (α:=α) h (λ_ _ h=>h) λ_ _ h=>.inr h
instance RX:al (α×β) where
 n:=al.n α+al.n β
 rep m S R w cs a:=∃c d A B,cs=c++d/\(∀r,A r->S r)/\(∀r,B r->S r)/\(m=true->∀r,A r->¬B r)/\al.rep m A R w c a.1/\al.rep m B R w d a.2
 len:=by
  rintro m S R w cs a ⟨c,d,A,B,rfl,_,_,_,h1,e⟩;simp[al.len h1,al.len e]
 one:=by
  rintro m S R w cs a ⟨c,d,A,B,rfl,_,_,_,h1,e⟩ u hu;rcases j0.1 hu with hu|hu
  .exact al.one h1 u hu
  .exact al.one e u hu
 aa:=by
  rintro m S R T w w' cs a ⟨c,d,A,B,rfl,j,p,s,h1,e⟩ x q;exact⟨c,d,A,B,rfl,j,p,s,al.aa h1 x λr f h=>q r f (h.imp (j r) id),al.aa e x λr f h=>q r f (h.imp (p r) id)⟩
 mono:=by
  rintro m S S' R R' w cs a ⟨c,d,A,B,rfl,j,p,s,h1,e⟩ q y;exact⟨c,d,λr=>A r/\r<w.heap.size,λr=>B r/\r<w.heap.size,rfl,λr h=>q r h.2 (j r h.1),λr h=>q r h.2 (p r h.1),λhm r h k=>s hm r h.1 k.1,
   al.mono h1 (λr f h=>⟨h,f⟩) y,al.mono e (λr f h=>⟨h,f⟩) y⟩
 hS:=by
  rintro m S R w cs a ⟨c,d,A,B,rfl,j,p,s,h1,e⟩;exact⟨c,d,λ_=>False,λ_=>False,rfl,λ_ h=>h.elim,λ_ h=>h.elim,(λh=>by cases h),al.mono (al.hS h1) (λ_ _ h=>h) λr _ h=>h.imp (j r) id,
   al.mono (al.hS e) (λ_ _ h=>h) λr _ h=>h.imp (p r) id⟩
def mF(m:Bool)(R:af)(F:Nat->af)(w:x4)(vs:List (List x3))(l:List α):Prop:=
 vs.length=l.length/\∀(i:Nat)(c:List x3)(a:α),vs[i]?=σ c->l[i]?=σ a->al.rep m (F i) R w c a
structure zJ(m:Bool)(S:af)(g:Nat)(F:Nat->af):Prop where
 sub:∀i r,F i r->S r
 top:m=true->∀i,¬F i g
 gK:m=true->∀i j r,i≠j->F i r->¬F j r
theorem mF.len{F:Nat->af}{vs:List (List x3)}{l:List α}(h:mF m R F w vs l):∀c∈vs,c.length=al.n α:=by
 intro c a;obtain⟨i,hi,rfl⟩:=List.mem_iff_getElem.1 a;exact al.len (h.2 i _ _ (x7 hi) (x7 (h.1▸hi)))
theorem mF.one{F:Nat->af}{vs:List (List x3)}{l:List α}(h:mF m R F w vs l):∀u∈vs.flatten,u.oneCell'=true:=by
 intro u hu;obtain⟨c,a,hu⟩:=List.mem_flatten.1 hu;obtain⟨i,hi,rfl⟩:=List.mem_iff_getElem.1 a;exact al.one (h.2 i _ _ (x7 hi) (x7 (h.1▸hi))) u hu
theorem ko{k:Nat}:∀{vs:List (List x3)},(∀c∈vs,c.length=k)->vs.flatten.length=vs.length*k
 |[],_=>Ξ
 |c::r,h=>by
  have:=ko (vs:=r) λx a=>h x (.tail _ a);simp only[List.flatten_cons,o4,this,h c (.head _),Z2,U5];omega
theorem nL{k:Nat}:∀{vs:List (List x3)},(∀c∈vs,c.length=k)->∀{i j:Nat}{c:List x3},vs[i]?=σ c->j<k->vs.flatten[i*k+j]?=c[j]?
 |hb::r,h,0,j,c,a,e=>by
  simp only[List.getElem?_cons_zero,X7]at a;subst a;rw[List.flatten_cons,Y3 (by rw[h _ (.head _)];omega)];simp
 |hb::r,h,i+1,j,c,a,e=>by
  simp only[List.getElem?_cons_succ]at a;have f:=h hb (.head _);rw[List.flatten_cons,Y5 (by rw[f,U5];omega),f,U5,show i*k+1*k+j-k=i*k+j by omega];exact nL (λx p=>h x (.tail _ p)) a e
 |[],_,i,_,c,a,_=>by simp at a
instance instList:al (List α) where
 n:=1
 rep m S R w cs l:=∃v,cs=[v]/\∃(vs:List (List x3))(g:Nat)(F:Nat->af),zJ m S g F/\mF m R F w vs l/\km (λr=>S r\/R r) w (al.n α) v l.length vs.flatten/\
  (m=true->(v= .slice ν 0 0\/S g)/\∃e,bX w g e (al.n α) v l.length vs.flatten)
 len:=by rintro m S R w cs a ⟨v,rfl,_⟩;rfl
 one:=by
  rintro m S R w cs a ⟨v,rfl,vs,g,F,_,_,⟨_,_,_,_,_,rfl,_⟩,_⟩ u hu;simp at hu;subst hu;rfl
 aa:=by
  rintro m S R T w w' cs a ⟨v,rfl,vs,g,F,p,he,I,hm⟩ A s;refine⟨v,rfl,vs,g,F,p,⟨he.1,λi c a y z=>al.aa (he.2 i c a y z) A λr q h=>s r q (h.imp (p.sub i r) id)⟩,I.aa A s,λh=>?_⟩;obtain⟨h1,e,f⟩:=hm h;refine⟨h1,e,?_⟩;rcases h1 with rfl|h1
  .obtain⟨C,⟨_,x⟩|⟨_,_,x,_⟩⟩:=f
   .exact⟨C,.inl ⟨rfl,x⟩⟩
   .cases x
  .exact f.aa A λq=>s g q (.inl h1)
 mono:=by
  rintro m S S' R R' w cs a ⟨v,rfl,vs,g,F,p,he,I,hm⟩ s B;refine⟨v,rfl,vs,g,λi r=>F i r/\r<w.heap.size,⟨λi r h=>s r h.2 (p.sub i r h.1),λh i f=>p.top h i f.1,λh i j r E h1 f=>p.gK h i j r E h1.1 f.1⟩,
   ⟨he.1,λi c a y z=>al.mono (he.2 i c a y z) (λr q h=>⟨h,q⟩) B⟩,I.mono λr q h=>h.imp (s r q) (B r q),λh=>?_⟩
  obtain⟨h1,e,f⟩:=hm h;refine⟨?_,e,f⟩;obtain⟨_,⟨x,_⟩|⟨_,_,x,G,_⟩⟩:=f
  .exact .inl x
  .rcases h1 with h1|h1
   .exact .inl h1
   .exact .inr (s g G.lt h1)
 hS:=by
  rintro m S R w cs a ⟨v,rfl,vs,g,F,p,he,I,hm⟩;exact⟨v,rfl,vs,g,λ_ _=>False,⟨λ_ _ h=>h,(λh=>by cases h),λh=>by cases h⟩,
   ⟨he.1,λi c a y z=>al.mono (al.hS (he.2 i c a y z)) (λ_ _ h=>h) λr _ h=>h.imp (p.sub i r) id⟩,I.mono λr _ h=>.inr h,λh=>by cases h⟩
end
section
variable{P:V1}{w:x4}{α β:Type}[al α][al β]{m:Bool}{S R:af}
theorem il{l:List α}(h:al.rep m S R w [v] l):∃(vs:List (List x3))(g:Nat)(F:Nat->af),zJ m S g F/\mF m R F w vs l/\km (λr=>S r\/R r) w (al.n α) v l.length vs.flatten/\
  (m=true->(v= .slice ν 0 0\/S g)/\∃e,bX w g e (al.n α) v l.length vs.flatten):=by
 obtain⟨_,a,h⟩:=h;cases a;exact h
theorem hY{a:α}(h:al.rep m S R w [v] a):v.oneCell'=true:=al.one h v (.head _)
theorem kp{l:List α}(h:al.rep m S R w [v] l):v.cells= #[v]:=by
 obtain⟨_,_,_,_,_,⟨_,_,_,_,_,rfl,_⟩,_⟩:=il h;rfl
theorem mG{l:List α}(h:al.rep m S R w [v] l):l.length<=9223372036854775807:=by
 obtain⟨_,_,_,_,_,h,_⟩:=il h;have:=h.sl.le;simpa[maxLen]using this
theorem fU:al.rep m S R w [.slice ν 0 0] ([]:List α):=
 ⟨_,rfl,[],0,λ_ _=>False,⟨λ_ _ h=>h.elim,λ_ _ h=>h,λ_ _ _ _ _ h=>h.elim⟩,⟨rfl,λi c a e=>by simp at e⟩,
  ⟨Ξ,0,0,ν,0,rfl,o6 _,X8 _,λh=>absurd h (Nat.lt_irrefl _),λh=>by simp at h,λj v h=>by simp at h⟩,
  λ_=>⟨.inl rfl,0,bX.nil w 0 0 _⟩⟩
theorem zK{F:Nat->af}{vs:List (List x3)}(h:mF m R F w vs l):vs.flatten=ints .i64 l:=by
 have:vs=l.map λx=>[V8 .i64 x]:=by
  apply List.ext_getElem
  .simp[h.1]
  .intro i h1 a;have e:i<l.length:=by simpa using a
   have:=h.2 i _ _ (x7 h1) (x7 e);rw[List.getElem_map];exact this
 subst this;clear h;induction l with
 |nil=>rfl
 |cons x l f=>simp only[T0,List.flatten_cons,f];rfl
theorem dJ(h:al.rep m S R w [v] l):aG .i64 w v l:=by
 obtain⟨vs,g,F,_,he,I,_⟩:=il h;have:=I.sl;rw[zK he]at this;exact this
theorem gq{a:r9}{l:List α}(f:P.underlying t=σ (.slice e))(h:al.rep m S R w [v] l):
  V P (W9 #[t] a #[v]) w K=K (Δ l.length):=by
 obtain⟨_,_,_,_,_,⟨_,_,_,_,_,rfl,_⟩,_⟩:=il h;exact hW f
theorem jM{x:n9}{i b:Nat}{l:List α}{a:α}(A:y=(i:Int))(B:P.underlying t=σ (.slice e))(hi:aQ P e (al.n α) b z)(h:al.rep m S R w [v] l)(f:l[i]?=σ a)(C:∀b o cs,w.rangeAt b o cs->al.rep m S R w cs a->K (.pointer (σ ⟨b,o,ν⟩))):V P (j9 t v (.int x y)) w K:=by
 subst A;obtain⟨vs,g,F,E,he,⟨_,b,o,base,cap,rfl,_,_,G,_,H⟩,_⟩:=il h;have p:=(x5.1 f).1;rw[eK B hi p G];obtain⟨c,q⟩:∃c,vs[i]?=σ c:=⟨_,x7 (by rw[he.1];exact p)⟩;have s:=he.2 i c a q f;have I:=al.len s;refine C _ _ c (λj u hu=>?_) (al.mono s (λr _ h=>E.sub i r h) λ_ _ h=>h);have J:=(x5.1 hu).1;rw[R7];refine H (i*al.n α+j) u ?_;rw[nL he.len q Ω];exact hu
theorem gL{q:n9}{i b:Nat}{l:List α}{a:α}(r:al.n α=1)(s:y=(i:Int))(x:P.underlying t=σ (.slice e))(hi:aQ P e (al.n α) b z)(h1:jH P e=true)(h:al.rep m S R w [v] l)(A:l[i]?=σ a)(B:∀u,al.rep m S R w [u] a->K u):
  V P (j9 t v (.int q y)) w λp=>V P (u5 e p) w K:=by
 refine jM s x hi h A λb o cs C f=>?_;have j:=al.len f;rw[r]at j;obtain⟨u,rfl⟩:=V2.1 j;rw[aD h1 (by have:=C 0 u rfl;simpa using this)];exact B u f
theorem l2{pl:List (Nat×Nat)}{j:n9}{i b:Nat}{l:List α}{a:α}(hu:bL P e pl)(q:y=(i:Int))(r:P.underlying t=σ (.slice e))(hi:aQ P e (al.n α) b z)(h:al.rep m S R w [v] l)(s:l[i]?=σ a)(x:∀cs,al.rep m S R w cs a->K (.agg cs.toArray)):
  V P (j9 t v (.int j y)) w λp=>V P (u5 e p) w K:=by
 refine jM q r hi h s λb o cs A f=>?_;rw[bE hu hi (al.len f) A];exact x cs f
theorem nM{g:Nat}{k:Nat}(h:bX w g e k v n xs)(f:v= .slice ν 0 0\/S g):km S w k v n xs:=by
 obtain⟨h1,⟨rfl,rfl⟩|⟨cap,cs,rfl,p,q,r,x,s⟩⟩:=h
 .have:xs=[]:=c9 (by simpa using h1);subst this;exact⟨Ξ,0,0,ν,0,rfl,o6 _,X8 _,λh=>absurd h (Nat.lt_irrefl _),λh=>by simp at h,λj v h=>by simp at h⟩
 .refine⟨h1,g,0,_,cap,rfl,q,r,λ_=>rfl,λ_=>f.resolve_left Ξ,λj v a=>?_⟩;rw[X6];have y:=(x5.1 a).1;rw[<-s,Y0 Ω]at a;exact p.cell a
open Classical in
theorem zL{U X Y:r9}{b:Nat}{x:x3}{us:List (List x3)}{l l':List α}{G:Nat->af}{K:x3->x4->Prop}(Z:P.underlying t=σ (.slice e))(ab:P.underlying U=σ (.slice X))(hi:aQ P e (al.n α) b z)(ac:z.cells.size=al.n α)(h:bl S R w [v] l)(ad:cd w (al.n α) x l'.length us.flatten)(L:mF true R G w us l')(ag:∀i j r,i≠j->G i r->¬G j r)(E:∀r,r<w.heap.size->S r->(∀i,¬G i r)/\¬R r)(ah:(l.length+l'.length)*b<=140737488355328)(ai:l.length+l'.length<=9223372036854775807)(aj:∀p w',bl (λr=>S r\/(∃i,G i r)\/w.heap.size<=r) R w' [p] (l++l')->ae S w w'->K p w'):aB P (Z3 #[t,U] Y #[v,x]) w K:=by
 obtain⟨vs,g,F,A,he,I,hm⟩:=il h;obtain⟨M,ap,V⟩:=hm rfl;refine zF Z ab hi ac V ad L.one ah (by simpa[maxLen]using ai) ?_;intro p H w' ak am N O;have Q:∀r,r=g/\v≠ .slice ν 0 0->S r:=λr ⟨h1,f⟩=>h1▸M.resolve_left f;have an:=V;have T:(p= .slice ν 0 0)\/(H=g/\S g/\g<w.heap.size)\/H=w.heap.size:=by
  rcases am with⟨h1,_,f|f⟩|⟨h1,_⟩
  .rcases M with s|s
   .exact .inl (f▸s)
   .obtain⟨_,⟨y,_⟩|⟨_,_,_,y,_⟩⟩:=an
    .exact .inl (f▸y)
    .exact .inr (.inl ⟨h1,s,y.lt⟩)
  .exact .inr (.inl ⟨h1,M.resolve_left f.2,f.1⟩)
  .exact .inr (.inr h1)
 refine aj p w' ⟨p,rfl,vs++us,if p= .slice ν 0 0 then w.heap.size else H,λi r=>if i<l.length then F i r/\r<w.heap.size else G (i-l.length) r/\r<w.heap.size,⟨λi r h=>?_,λ_ i h=>?_,λ_ i j r ao h1 f=>?_⟩,⟨by simp[he.1,L.1],λi c a hi J=>?_⟩,?_,λ_=>⟨?_,ak,?_⟩⟩ (O.mono λr _ h=>Q r h)
 .split at h
  .exact .inl (A.sub i r h.1)
  .exact .inr (.inl ⟨_,h.1⟩)
 .have B:(if p= .slice ν 0 0 then w.heap.size else H)<w.heap.size:=by split at h<;>exact h.2
  split at B
  .omega
  .rename_i q;rw[if_neg q]at h;rcases T with h1|⟨rfl,f,s⟩|h1
   .exact q h1
   .split at h
    .exact A.top rfl i h.1
    .exact (E _ s f).1 _ h.1
   .omega
 .split at h1<;>split at f
  .exact A.gK rfl i j r ao h1.1 f.1
  .exact (E r h1.2 (A.sub i r h1.1)).1 _ f.1
  .exact (E r h1.2 (A.sub j r f.1)).1 _ h1.1
  .exact ag (i-l.length) (j-l.length) r Ω h1.1 f.1
 .have W:∀r,r<w.heap.size->R r->¬(r=g/\v≠ .slice ν 0 0):=λr C h1 f=>(E r C (Q r f)).2 h1;by_cases B:i<l.length
  .rw[Y3 (by rw[he.1];exact B)]at hi;rw[Y3 B]at J;simp only[if_pos B];refine al.aa (l0 (he.2 i c a hi J)) O λr C h1 f=>?_;rcases h1 with h1|h1
   .exact A.top rfl i (f.1▸h1.1)
   .exact W r C h1 f
  .rw[Y5 (by rw[he.1];omega),he.1]at hi;rw[Y5 Ω]at J;simp only[if_neg B];refine al.aa (l0 (L.2 _ c a hi J)) O λr C h1 f=>?_;rcases h1 with h1|h1
   .exact (E r C (Q r f)).1 _ h1.1
   .exact W r C h1 f
 .rw[o4,List.flatten_append];refine nM N ?_;rcases T with h1|⟨rfl,f,_⟩|rfl
  .exact .inl h1
  .exact .inr (.inl (.inl f))
  .exact .inr (.inl (.inr (.inr (o6 _))))
 .rcases T with h1|⟨rfl,f,_⟩|rfl
  .exact .inl h1
  .by_cases q:p= .slice ν 0 0
   .exact .inl q
   .rw[if_neg q];exact .inr (.inl f)
  .split
   .exact .inr (.inr (.inr (o6 _)))
   .exact .inr (.inr (.inr (o6 _)))
 .rw[o4,List.flatten_append];by_cases q:p= .slice ν 0 0
  .subst q;obtain⟨s,⟨_,y⟩|⟨_,_,y,_⟩⟩:=N
   .exact⟨s,.inl ⟨rfl,y⟩⟩
   .cases y
  .rw[if_neg q];exact N
theorem mH{F:r9}{b:Nat}{x:x3}{l:List α}{a:α}{A:af}{K:x3->x4->Prop}(B:P.underlying t=σ (.slice e))(hi:aQ P e (al.n α) b z)(H:z.cells.size=al.n α)(h:bl S R w [v] l)(J:cd w (al.n α) x 1 cs)(L:bl A R w cs a)(C:∀r,r<w.heap.size->S r->¬(A r\/R r))(f:(l.length+1)*b<=140737488355328)(M:l.length+1<=9223372036854775807)(N:∀p w',bl (λr=>S r\/A r\/w.heap.size<=r) R w' [p] (l++[a])->ae S w w'->K p w'):aB P (Z3 #[t,t] F #[v,x]) w K:=by
 refine zL (l':=[a]) (us:=[cs]) (G:=λi r=>i=0/\A r) B B hi H h (by simpa using J) ⟨rfl,λi c b q f=>?_⟩ (λi j r O h1 s=>O (h1.1.trans s.1.symm)) (λr E I=>⟨λi h=>C r E I (.inl h.2),λh=>C r E I (.inr h)⟩) (by simpa using f) (by simpa using M)
  λp w' h1 s=>N p w' (al.mono h1 (λr _ h=>h.imp id (Or.imp (λ⟨_,h⟩=>h.2) id)) λ_ _ h=>h) s
 have y:=(x5.1 q).1;have y:i=0:=by simpa using y
 subst y;simp at q f;subst q f;exact al.mono L (λr _ h=>⟨rfl,h⟩) λ_ _ h=>h
end
theorem zM:∀(c:List x3)(i:Nat)(z:Array x3),(i+c.length<=z.size)->((c.zipIdx i).foldl (λcs (x:x3×Nat)=>cs.setIfInBounds x.2 x.1) z).toList=z.toList.take i++c++z.toList.drop (i+c.length)
 |[],i,z,h=>Ξ
 |x::r,i,z,h=>by
  simp only[Z2]at h;rw[List.zipIdx_cons,S0,zM r (i+1) _ Θ];simp only[Array.toList_setIfInBounds,Z2];rw[List.drop_set_of_lt Ω,List.take_set,u9,x7 Θ];simp only[l7];rw[S1 _ _ Θ];have e:i-(z.toList.take i).length=0:=Θ
  rw[e,show i+1+r.length=i+(r.length+1) by omega];simp
theorem zN{k:Nat}{z:Array x3}(a:z.size=k)(e:v.cells.size=k):Instr.fill (λj=>σ (j*k,k)) z [(0,v)]=σ v.cells:=by
 have h:=zM v.cells.toList 0 z Θ;simp only[Instr.fill,Nat.zero_mul,X6];rw[if_neg Θ];congr 1;apply Array.toList_inj.1;rw[<-Array.foldl_toList,Array.toList_zipIdx,h];simp;omega
section
variable{P:V1}{w:x4}{α β:Type}[al α][al β]{m:Bool}{S R:af}
theorem im{b:Nat}{x:x3}{a:α}{A:af}{K:x3->x4->Prop}(C:P.underlying t=σ (.slice e))(hi:aQ P e (al.n α) b z)(L:al.n α<=100000)(q:x.cells=cs.toArray)(s:bl A R w cs a)(E:∀v w',Ext w w'->bl (λr=>A r\/w.heap.size<=r) R w' [v] [a]->cd w' (al.n α) v 1 cs->K v w'):aB P (Y8 t 1 #[(0,x)]) w K:=by
 have F:=al.len s;refine jK C hi Ω (cs:=x.cells) (zN Ξ (by rw[q];simpa using F)) λg w' M y f=>?_;have f:ac w' g e cs:=by rw[q]at f;simpa using f
 have hm:bX w' g e (al.n α) (.slice (σ ⟨g,0,ν⟩) 1 1) 1 cs:=bX.full f Ω (by simp[maxLen]);refine E _ w' y ⟨_,rfl,[cs],g,λi r=>i=0/\A r/\r<w.heap.size,⟨λi r h=>.inl h.2.1,λ_ i h=>Ω,λ_ i j r G h1 H=>G (h1.1.trans H.1.symm)⟩,⟨rfl,λi c a' p B=>?_⟩,?_,λ_=>⟨.inr (.inr Ω),e,by simpa using hm⟩⟩ hm.sl
 .have I:i=0:=by simpa using(x5.1 p).1
  subst I;simp at p B;subst p B;exact bm (al.mono s (λr J h=>⟨rfl,h,J⟩) λ_ _ h=>h) y
 .have:=nM (S:=λr=>(A r\/w.heap.size<=r)\/R r) hm (.inr (.inl (.inr Ω)));simpa using this
end
theorem bU.range{B:x3->x4->(x3->x4->Prop)->Prop}(n:Nat)(a:Nat->x4->Prop)(q:n<=9223372036854775807)(f:a 0 w)(j:∀(i:Nat)(w:x4)(k:x3->x4->Prop),i<n->a i w->(∀w',a (i+1) w'->k (Δ (X9.wrap ((i:Int)+1))) w')->B (Δ (i:Int)) w k)(p:∀(w:x4)(k:x3->x4->Prop),a n w->B (Δ (n:Int)) w k):bU (Δ 0) w B:=by
 refine⟨λt w=>∃i:Nat,t=Δ (i:Int)/\i<=n/\a i w,λt _=>n-(b0 t).toNat,⟨0,rfl,X8 _,f⟩,?_⟩;rintro _ w ⟨i,rfl,hi,h⟩;by_cases e:i<n
 .refine j i w _ e h λw' h'=>⟨⟨i+1,?_,e,h'⟩,?_⟩
  .rw[wrap_i64 Ω Ω];rfl
  .rw[wrap_i64 Ω Ω];simp only[b0];omega
 .have:i=n:=Ω
  subst this;exact p w _ h
theorem b4.range{a:x3}{B:x3->x3->x4->(x3->x3->x4->Prop)->Prop}(n:Nat)(e:Nat->x3->x4->Prop)(r:n<=9223372036854775807)(j:e 0 a w)(p:∀(i:Nat)(a:x3)(w:x4)(k:x3->x3->x4->Prop),i<n->e i a w->(∀a' w',e (i+1) a' w'->k a' (Δ (X9.wrap ((i:Int)+1))) w')->B a (Δ (i:Int)) w k)(q:∀(a:x3)(w:x4)(k:x3->x3->x4->Prop),e n a w->B a (Δ (n:Int)) w k):b4 a (Δ 0) w B:=by
 refine⟨λa t w=>∃i:Nat,t=Δ (i:Int)/\i<=n/\e i a w,λa t _=>n-(b0 t).toNat,⟨0,rfl,X8 _,j⟩,?_⟩;rintro a _ w ⟨i,rfl,hi,h⟩;by_cases f:i<n
 .refine p i a w _ f h λa' w' h'=>⟨⟨i+1,?_,f,h'⟩,?_⟩
  .rw[wrap_i64 Ω Ω];rfl
  .rw[wrap_i64 Ω Ω];simp only[b0];omega
 .have:i=n:=Ω
  subst this;exact q a w _ h
theorem mw.range{a b:x3}{B:x3->x3->x3->x4->(x3->x3->x3->x4->Prop)->Prop}(n:Nat)(e:Nat->x3->x3->x4->Prop)(s:n<=9223372036854775807)(p:e 0 a b w)(q:∀(i:Nat)(a b:x3)(w:x4)(k:x3->x3->x3->x4->Prop),i<n->e i a b w->(∀a' f w',e (i+1) a' f w'->k a' f (Δ (X9.wrap ((i:Int)+1))) w')->B a b (Δ (i:Int)) w k)(r:∀(a b:x3)(w:x4)(k:x3->x3->x3->x4->Prop),e n a b w->B a b (Δ (n:Int)) w k):mw a b (Δ 0) w B:=by
 refine⟨λa b t w=>∃i:Nat,t=Δ (i:Int)/\i<=n/\e i a b w,λa b t _=>n-(b0 t).toNat,⟨0,rfl,X8 _,p⟩,?_⟩;rintro a b _ w ⟨i,rfl,hi,h⟩;by_cases j:i<n
 .refine q i a b w _ j h λa' f w' h'=>⟨⟨i+1,?_,j,h'⟩,?_⟩
  .rw[wrap_i64 Ω Ω];rfl
  .rw[wrap_i64 Ω Ω];simp only[b0];omega
 .have:i=n:=Ω
  subst this;exact r a b w _ h
theorem pR.range{a b c:x3}{B:x3->x3->x3->x3->x4->(x3->x3->x3->x3->x4->Prop)->Prop}(n:Nat)(e:Nat->x3->x3->x3->x4->Prop)(x:n<=9223372036854775807)(q:e 0 a b c w)(r:∀(i:Nat)(a b c:x3)(w:x4)(k:x3->x3->x3->x3->x4->Prop),i<n->e i a b c w->(∀a' f j w',e (i+1) a' f j w'->k a' f j (Δ (X9.wrap ((i:Int)+1))) w')->B a b c (Δ (i:Int)) w k)(s:∀(a b c:x3)(w:x4)(k:x3->x3->x3->x3->x4->Prop),e n a b c w->B a b c (Δ (n:Int)) w k):pR a b c (Δ 0) w B:=by
 refine⟨λa b c t w=>∃i:Nat,t=Δ (i:Int)/\i<=n/\e i a b c w,λa b c t _=>n-(b0 t).toNat,⟨0,rfl,X8 _,q⟩,?_⟩;rintro a b c _ w ⟨i,rfl,hi,h⟩;by_cases p:i<n
 .refine r i a b c w _ p h λa' f j w' h'=>⟨⟨i+1,?_,p,h'⟩,?_⟩
  .rw[wrap_i64 Ω Ω];rfl
  .rw[wrap_i64 Ω Ω];simp only[b0];omega
 .have:i=n:=Ω
  subst this;exact s a b c w _ h
theorem pS.range{a b c d:x3}{B:x3->x3->x3->x3->x3->x4->(x3->x3->x3->x3->x3->x4->Prop)->Prop}(n:Nat)(e:Nat->x3->x3->x3->x3->x4->Prop)(y:n<=9223372036854775807)(r:e 0 a b c d w)(s:∀(i:Nat)(a b c d:x3)(w:x4)(k:x3->x3->x3->x3->x3->x4->Prop),i<n->e i a b c d w->(∀a' f j p w',e (i+1) a' f j p w'->k a' f j p (Δ (X9.wrap ((i:Int)+1))) w')->B a b c d (Δ (i:Int)) w k)(x:∀(a b c d:x3)(w:x4)(k:x3->x3->x3->x3->x3->x4->Prop),e n a b c d w->B a b c d (Δ (n:Int)) w k):pS a b c d (Δ 0) w B:=by
 refine⟨λa b c d t w=>∃i:Nat,t=Δ (i:Int)/\i<=n/\e i a b c d w,λa b c d t _=>n-(b0 t).toNat,⟨0,rfl,X8 _,r⟩,?_⟩;rintro a b c d _ w ⟨i,rfl,hi,h⟩;by_cases q:i<n
 .refine s i a b c d w _ q h λa' f j p w' h'=>⟨⟨i+1,?_,q,h'⟩,?_⟩
  .rw[wrap_i64 Ω Ω];rfl
  .rw[wrap_i64 Ω Ω];simp only[b0];omega
 .have:i=n:=Ω
  subst this;exact x a b c d w _ h
section
variable{P:V1}{w:x4}{m:Bool}{S R:af}
theorem I2(l:Λ):(l.map λx=>[V8 k x]).flatten=ints k l:=by
 induction l with
 |nil=>rfl
 |cons x l a=>simp only[T0,List.flatten_cons,a];rfl
theorem k2{g:Nat}(h:au .i64 e w g v l):bl (λr=>r=g) R w [v] l:=by
 have j:(l.map λx=>[V8 .i64 x]).flatten=ints .i64 l:=I2 l;refine⟨v,rfl,l.map λx=>[Δ x],g,λ_ _=>False,⟨λ_ _ h=>h.elim,λ_ _ h=>h,λ_ _ _ _ _ h=>h.elim⟩,⟨Ξ,λi c a f p=>?_⟩,?_,λ_=>⟨.inr rfl,e,?_⟩⟩
 .rw[v8,p]at f;simp at f;exact f.symm
 .rw[j];exact nM h (.inr (.inl rfl))
 .rw[j];exact h
def l1.val(x:l1 k):Int:=x
theorem zO(h:bl S R w [v] l):∃g e,au .i64 e w g v l/\(v= .slice ν 0 0\/S g):=by
 obtain⟨vs,g,F,_,he,I,hm⟩:=il h;obtain⟨h1,e,a⟩:=hm rfl;rw[zK he]at a;exact⟨g,e,a,h1⟩
end
end Go.Vc
namespace Go.Proofs.YtikkpokkcdocoaaGreatDoor
open Go Go.Vc Go.RowKit Go.Proofs Go.Proofs.Tryz
set_option maxRecDepth 100000
def right(k:Int):Prop:=1<=k/\k<=2147483648
def cA(a k:Int):Prop:=right k/\0<=a/\a<=k
instance (k:Int):Decidable (right k):=by unfold right;infer_instance
instance (a k:Int):Decidable (cA a k):=by unfold cA;infer_instance
theorem zP{k:Int}:ai x8 H5 [Δ k] w λv w'=>v= .bool (decide (right k))/\Ext w w':=by
 refine az func209 ?_;simp only[ct,cS,lU,aj];refine⟨λh=>⟨?_,Ext.refl _⟩,λh=>⟨?_,Ext.refl _⟩⟩
 .congr 1;simp[right,h]
 .rw[decide_eq_false];intro a;exact h a.1
theorem jN{k:Int}:ai x8 Hu [Δ a,Δ k] w λv w'=>v= .bool (decide (cA a k))/\Ext w w':=by
 refine az func156 ?_;simp only[ct];refine zP.mono ?_;rintro _ J _ ⟨rfl,e⟩;simp only[cS,lU,aj];refine⟨λh=>⟨λf=>⟨?_,e⟩,λf=>⟨?_,e⟩⟩,λh=>⟨?_,e⟩⟩
 .congr 1;simp[cA,h,f]
 .rw[decide_eq_false];intro j;exact f j.2.1
 .rw[decide_eq_false];intro j;exact h j.1
theorem I3{k:Int}:ai x8 H1 [Δ k] w λv w'=>v= .bool (decide (right k))/\Ext w w':=by
 refine az func203 ?_;simp only[ct,bS,lU,aj];refine⟨λh=>⟨?_,Ext.refl _⟩,λh=>⟨?_,Ext.refl _⟩⟩
 .congr 1;have h':1<=k:=Ω
  simp[right,h']
 .rw[decide_eq_false];intro a;have:=a.1;omega
theorem zQ{k:Int}:ai x8 Hg [Δ a,Δ k] w λv w'=>v= .bool (decide (cA a k))/\Ext w w':=by
 refine az func140 ?_;simp only[ct];refine I3.mono ?_;rintro _ J _ ⟨rfl,e⟩;simp only[cS,lU,aj];refine⟨λh=>⟨λf=>⟨?_,e⟩,λf=>⟨?_,e⟩⟩,λh=>⟨?_,e⟩⟩
 .congr 1;simp[cA,h,f]
 .rw[decide_eq_false];intro j;exact f j.2.1
 .rw[decide_eq_false];intro j;exact h j.1
def aN:Λ->Int
 |[]=>1
 |x::r=>x*aN r
theorem zR:∀(a b:Λ),aN (a++b)=aN a*aN b
 |[],b=>by simp[aN]
 |x::a,b=>by simp[aN,zR a b,Int.mul_assoc]
theorem oS{i:Nat}{x:Int}(h:l[i]?=σ x):aN (l.take (i+1))=aN (l.take i)*x:=by
 rw[u9,h,zR];simp[aN]
def ca(l:Λ):Prop:=l.length<=6/\∀x∈l,1<=x/\x<=32
theorem ca.take(h:ca l)(i:Nat):ca (l.take i):=⟨by rw[o7];have:=h.1;omega,λx a=>h.2 x (U6 a)⟩
theorem ca.drop(h:ca l)(i:Nat):ca (l.drop i):=⟨by rw[List.length_drop];have:=h.1;omega,λx a=>h.2 x (List.mem_of_mem_drop a)⟩
theorem k3:∀(l:Λ),(∀x∈l,1<=x/\x<=32)->1<=aN l/\aN l<=32 ^ l.length
 |[],_=>by simp[aN]
 |x::r,h=>by
  obtain⟨h1,a⟩:=k3 r λy e=>h y (.tail _ e);obtain⟨f,j⟩:=h x (.head _);simp only[aN,Z2];constructor
  .have:=Int.mul_le_mul f h1 Ω Ω;simpa using this
  .have:=Int.mul_le_mul j a Ω Ω;rw[Int.pow_succ];rw[Int.mul_comm (32 ^ r.length) 32];exact this
theorem prod_bound(h:ca l):1<=aN l/\aN l<=1073741824:=by
 obtain⟨h1,a⟩:=k3 l h.2;refine⟨h1,Int.le_trans a ?_⟩;have:(32:Int) ^ l.length<=32 ^ 6:=by
  have e:=h.1
  match l.length,e with
  |0,_=>decide
  |1,_=>decide
  |2,_=>decide
  |3,_=>decide
  |4,_=>decide
  |5,_=>decide
  |6,_=>decide
 simpa using this
def cj:Λ->Λ->Int->Option Int
 |[],[],n=>σ n
 |k::s,v::t,n=>if 0<=v/\v<k then cj s t (n*k+v)else ν
 |_,_,_=>ν
theorem vh:∀(s t:Λ)(n:Int),s.length≠t.length->cj s t n=ν
 |[],[],_,h=>absurd rfl h
 |[],_::_,_,_=>rfl
 |_::_,[],_,_=>rfl
 |k::s,v::t,n,h=>by
  unfold cj;split
  .exact vh s t _ (by simpa using h)
  .rfl
def cN:Λ->Int->Λ
 |[],_=>[]
 |k::s,n=>(n / aN s) % k::cN s n
theorem jp:∀(s:Λ)(n:Int),(cN s n).length=s.length
 |[],_=>rfl
 |_::s,n=>by simp[cN,jp s n]
theorem zS:∀{s:Λ}{n:Int}{i:Nat}{k:Int},s[i]?=σ k->(cN s n)[i]?=σ ((n / aN (s.drop (i+1))) % k)
 |a::s,n,0,k,h=>by simp at h;subst h;simp[cN]
 |a::s,n,i+1,k,h=>by
  simp only[List.getElem?_cons_succ]at h;simp only[cN,List.getElem?_cons_succ,List.drop_succ_cons];exact zS h
theorem k4:∀{s t:Λ}{m n:Int},(∀x∈s,1<=x/\x<=32)->cj s t m=σ n->m*aN s<=n/\n<(m+1)*aN s
 |[],[],m,n,_,h=>by simp[cj]at h;subst h;simp[aN];omega
 |k::s,v::t,m,n,I,h=>by
  unfold cj at h;split at h
  .rename_i p;have e:=k4 (λx a=>I x (.tail _ a)) h;have q:=(k3 s λx a=>I x (.tail _ a)).1;simp only[aN];have f:m*(k*aN s)=m*k*aN s:=(Int.mul_assoc _ _ _).symm;have j:(m+1)*(k*aN s)=(m*k+k)*aN s:=by rw[<-Int.mul_assoc,Int.add_mul,Int.one_mul]
   rw[f,j];constructor
   .refine Int.le_trans ?_ e.1;exact Int.mul_le_mul_of_nonneg_right Ω Ω
   .refine Int.lt_of_lt_of_le e.2 ?_;exact Int.mul_le_mul_of_nonneg_right Ω Ω
  .cases h
 |[],_::_,_,_,_,h=>by cases h
 |_::_,[],_,_,_,h=>by cases h
def bc:Λ->List (Λ)
 |[]=>[[]]
 |k::s=>(W5 k.toNat).flatMap λ(v:Nat)=>(bc s).map λt=>(v:Int)::t
theorem io:∀{s:Λ},(∀x∈s,1<=x/\x<=32)->(bc s).length=(aN s).toNat
 |[],_=>rfl
 |k::s,h=>by
  have e:=io (s:=s) λx a=>h x (.tail _ a);have hk:=h k (.head _);have f:=(k3 s λx a=>h x (.tail _ a)).1;simp only[bc,aN,List.length_flatMap,u7,e];rw[List.map_const',List.length_range,List.sum_replicate_nat,Int.toNat_mul Ω Ω]
theorem sd:∀{s x:Λ},x∈bc s->x.length=s.length
 |[],x,h=>by simp[bc]at h;subst h;rfl
 |k::s,x,h=>by
  simp only[bc,List.mem_flatMap,l9]at h;obtain⟨v,_,t,a,rfl⟩:=h;simp[sd a]
theorem vi{s x:Λ}(h:(bc s)[j]?=σ x):x.length=s.length:=sd (x6 h)
theorem oT(h:aG .i64 w sv l)(I:ca l):
  ai x8 GS [.agg #[sv]] w λv w'=>v=Δ (aN l)/\Ext w w':=by
 refine az func95 ?_;refine bk λg w0 r f j=>?_;rw[aH bC.p 0 j rfl,aU an.u (h.ext f)];refine⟨λn t J=>Ext w J/\∃i:Nat,t=Δ i/\i<=l.length/\n=Δ (aN (l.take i)),λ_ t _=>l.length-(b0 t).toNat,⟨f,0,rfl,X8 _,rfl⟩,?_⟩;rintro _ _ J ⟨a,i,rfl,hi,rfl⟩;have s:=I.1;simp only[aR,aj];refine⟨λy=>?_,λz=>⟨?_,a⟩⟩
 .obtain⟨x,e⟩:=aF (l:=l) (i:=i) Ω;rw[bb an.u ah.i Ψ (h.ext a) e];have q:=prod_bound (I.take (i+1));rw[oS e]at q;simp only[gp,aL];rw[wrap_i64 Ω Ω,wrap_i64 Ω Ω,<-oS e];refine⟨⟨a,i+1,rfl,Ω,rfl⟩,?_⟩;simp only[b0];omega
 .have:i=l.length:=Ω
  rw[this,o8]
theorem I4{i:Nat}(h:aG .i64 w sv l)(I:ca l)(hi:i<l.length):
  ai x8 Ht [.agg #[sv],Δ i] w λv w'=>v=Δ (aN (l.drop (i+1)))/\Ext w w':=by
 have B:=I.1;refine az func154 ?_;refine bk λg w0 C f j=>?_;have a:=h.ext f;simp only[ct,aR,aj];refine⟨λE=>Ω,λ_=>?_⟩;rw[aH bC.p 0 j rfl,aU an.u a];simp only[cS,aj];refine⟨λG=>Ω,λ_=>?_⟩;rw[aH bC.p 0 j rfl];simp only[aL];have r:X9.wrap ((i:Int)+1)=((i+1:Nat):Int):=by rw[wrap_i64 Ω Ω];omega
 rw[r];have s:=a;obtain⟨_,b,o,base,cap,rfl,H,J,K,L⟩:=id a;rw[hX an.u ah.i (l:=i+1) (h:=l.length) (m:=cap) p8 jJ fG Ω Ω Ω];have e:=cd.part (l:=i+1) (h:=l.length) (m:=cap) s Ω Ω Ω Ω;generalize y:(x3.slice (if cap=i+1 then base else U2 (λx=>x.add ((i+1)*1)) base) (l.length-(i+1)) (cap-(i+1)))=q at e ⊢;have z:((ints .i64 l).drop ((i+1)*1)).take ((l.length-(i+1))*1)=ints .i64 (l.drop (i+1)):=by
  rw[j4 Ξ,U4,ints,<-List.map_drop]
 rw[z]at e;rw[dq (cs:=#[q]) (by subst y;kernel_rfl)];refine(oT (aG.of e) (I.drop (i+1))).mono ?_;rintro _ U _ ⟨rfl,A⟩;exact⟨rfl,f.trans A⟩
def k5(s t:Λ):x3:=match cj s t 0 with
 |some n=>.tuple #[Δ n,Δ 0]
 |none=>.tuple #[Δ 0,Δ 3]
theorem zT{s t:Λ}(h:aG .i64 w sv s)(q:aG .i64 w aO t)(I:ca s):
  ai x8 Hr [.agg #[sv],aO] w λv w'=>v=k5 s t/\Ext w w':=by
 have K:=I.1;refine az func151 ?_;refine bk λg w0 L e r=>?_;rw[aU an.u (q.ext e),aH bC.p 0 r rfl,aU an.u (h.ext e)];simp only[bN,aj];refine⟨λM=>⟨?_,e⟩,λz=>?_⟩
 .unfold k5;rw[vh _ _ _ Ω]
 .have z:s.length=t.length:=Ω
  rw[aU an.u (q.ext e)];refine⟨λ_ _ n c J=>Ext w0 J/\∃(i:Nat)(m:Int),c=Δ i/\i<=t.length/\n=Δ m/\0<=m/\m<aN (s.take i)/\cj s t 0=cj (s.drop i) (t.drop i) m,λ_ _ _ c _=>t.length-(b0 c).toNat,
   ⟨Ext.refl _,0,0,rfl,X8 _,rfl,Int.le_refl _,by simp[aN],rfl⟩,?_⟩
  rintro _ _ _ _ J ⟨j,i,m,rfl,hi,rfl,A,N,f⟩;have a:=e.trans j;simp only[aR,aj];refine⟨λO=>?_,λP=>⟨?_,a⟩⟩
  .obtain⟨v,B,C⟩:∃v,t[i]?=σ v/\t.drop i=v::t.drop (i+1):=⟨t[i],x7 Ω,W0 Ω⟩;obtain⟨k,hk,E⟩:∃k,s[i]?=σ k/\s.drop i=k::s.drop (i+1):=⟨s[i],x7 Ω,W0 Ω⟩;rw[C,E]at f;have G:=prod_bound (I.take (i+1));have Q:=prod_bound (I.take i);have R:=I.2 k (x6 hk);rw[oS hk]at G;have y:¬(0<=v/\v<k)->k5 s t= .tuple #[Δ 0,Δ 3]:=λH=>by unfold k5;rw[f];simp[cj,H]
   rw[bb an.u ah.i Ψ (q.ext a) B];simp only[ct,aR,aj,bQ];refine⟨λS=>⟨(y Ω).symm,a⟩,λU=>?_⟩;rw[aH bC.p 0 (r.ext j) rfl,bb an.u ah.i Ψ (h.ext a) hk];simp only[cS,aj];refine⟨λV=>⟨(y Ω).symm,a⟩,λW=>?_⟩;rw[aH bC.p 0 (r.ext j) rfl,bb an.u ah.i Ψ (h.ext a) hk];have X:0<=m*k/\m*k+k<=aN (s.take i)*k:=by
    constructor
    .exact Int.mul_nonneg A Ω
    .have:=Int.mul_le_mul_of_nonneg_right (show m+1<=aN (s.take i) by omega) (show 0<=k by omega);rw[Int.add_mul,Int.one_mul]at this;exact this
   simp only[gp,aL];rw[wrap_i64 (x:=m*k) Ω Ω,wrap_i64 (x:=m*k+v) Ω Ω,wrap_i64 (x:=(i:Int)+1) Ω Ω];refine⟨⟨j,i+1,m*k+v,rfl,Ω,rfl,Ω,by rw[oS hk];omega,?_⟩,?_⟩
   .rw[f];simp[cj,show 0<=v/\v<k from⟨Ω,Ω⟩]
   .simp only[b0];omega
  .have:i=t.length:=Ω
   rw[this,List.drop_of_length_le Ω,List.drop_of_length_le Ω]at f;unfold k5;rw[f];rfl
theorem I5{e:Nat}{a b:Λ}(h1:cd w 1 s1 e (ints .i64 a))(A:cd w 1 z j (ints .i64 b)):
  ai x8 zj [s1,z] w λv w'=>v= .bool (decide (a=b))/\Ext w w':=by
 have P:a.length=e:=by simpa using h1.1
 have Q:b.length=j:=by simpa using A.1
 have B:=h1.le;obtain⟨_,R,S,V,W,rfl,X,Y,G,H⟩:=h1;obtain⟨_,Z,aa,ab,ac,rfl,ad,ae,I,K⟩:=A;refine az func179 ?_;simp only[hW an.u,bN,aj];refine⟨λC=>⟨?_,Ext.refl _⟩,λE=>?_⟩
 .rw[decide_eq_false];rintro rfl;omega
 .have E:e=j:=Ω
  refine⟨λt4 p J=>Ext w J/\∃i:Nat,p=Δ i/\i<=e/\a.take i=b.take i,λ_ p _=>e-(b0 p).toNat,⟨Ext.refl _,0,rfl,X8 _,rfl⟩,?_⟩;rintro t4 _ J ⟨f,i,rfl,hi,q⟩;simp only[aR,aj,ef];refine⟨λr U L _ _=>?_,λaf=>⟨?_,f⟩⟩
  .have r:i<e:=Ω
   have f:=f.trans L;obtain⟨x,s⟩:=aF (l:=a) (i:=i) Ω;obtain⟨y,h⟩:=aF (l:=b) (i:=i) Ω;have M:=iM f (H i _ (k1 s));have N:=iM f (K i _ (k1 h));rw[eK an.u ah.i r G,U4,aD Ψ M,eK an.u ah.i (E▸r) I,U4,aD Ψ N];simp only[bN,aj,aL];refine⟨λC=>⟨?_,f⟩,λag=>⟨⟨f,i+1,?_,Ω,vf q s h Ω⟩,?_⟩⟩
   .rw[decide_eq_false];rintro rfl;rw[s]at h;cases h;exact C rfl
   .rw[wrap_i64 Ω (by simp only[maxLen]at B;omega)];rfl
   .rw[wrap_i64 Ω (by simp only[maxLen]at B;omega)];simp only[b0];omega
  .have O:i=e:=Ω
   subst O;rw[decide_eq_true];rw[j4 Ω,j4 Ω]at q;exact q
theorem I6{s:x3}{a:Λ}(h1:cd w 1 s n (ints .i64 a))(B:n<=1000000):
  ai x8 y5 [s] w λv w'=>Ext w w'/\∃g,w.heap.size<=g/\bX w' g ah 1 v n (ints .i64 a):=by
 have j:=h1;obtain⟨p,C,E,G,H,rfl,I,K,q,L⟩:=h1;refine az func87 ?_;simp only[r6 an.u,cg];refine⟨λf=>⟨Ext.refl _,w.heap.size,o6 _,?_⟩,λ_=>?_⟩
 .have:n=0:=by
   rcases Q5 n with h|h
   .exact h
   .rw[q h]at f;cases f
  subst this;have:ints .i64 a=[]:=c9 (by simpa using p);rw[this];exact bX.nil _ _ _ _
 .refine jK an.u ah.i Ω (cs:=#[]) Ψ ?_;intro g J M e x;refine nJ (g:=g) an.u an.u ah.i rfl (bX.full x rfl Ω) (j.ext e) (qa _ _) Ω (by simp only[maxLen];omega) ?_;intro N y U O z A;refine⟨e.then A (by rintro r P rfl;omega),y,?_,?_⟩
  .have:=e.size;omega
  .simpa using z
theorem I7{e:Nat}{a b:Λ}(h1:cd w 1 s1 e (ints .i64 a))(A:cd w 1 z j (ints .i64 b)):
  ai x8 yV [s1,z] w λv w'=>v= .bool (decide (a=b))/\Ext w w':=by
 have P:a.length=e:=by simpa using h1.1
 have Q:b.length=j:=by simpa using A.1
 have B:=h1.le;obtain⟨_,R,S,V,W,rfl,X,Y,G,H⟩:=h1;obtain⟨_,Z,aa,ab,ac,rfl,ad,ae,I,K⟩:=A;refine az func22 ?_;simp only[hW aq.u,bN,aj];refine⟨λC=>⟨?_,Ext.refl _⟩,λE=>?_⟩
 .rw[decide_eq_false];rintro rfl;omega
 .have E:e=j:=Ω
  refine⟨λt4 p J=>Ext w J/\∃i:Nat,p=Δ i/\i<=e/\a.take i=b.take i,λ_ p _=>e-(b0 p).toNat,⟨Ext.refl _,0,rfl,X8 _,rfl⟩,?_⟩;rintro t4 _ J ⟨f,i,rfl,hi,q⟩;simp only[aR,aj,ef];refine⟨λr U L _ _=>?_,λaf=>⟨?_,f⟩⟩
  .have r:i<e:=Ω
   have f:=f.trans L;obtain⟨x,s⟩:=aF (l:=a) (i:=i) Ω;obtain⟨y,h⟩:=aF (l:=b) (i:=i) Ω;have M:=iM f (H i _ (k1 s));have N:=iM f (K i _ (k1 h));rw[eK aq.u am.i r G,U4,aD Ψ M,eK aq.u am.i (E▸r) I,U4,aD Ψ N];simp only[bN,aj,aL];refine⟨λC=>⟨?_,f⟩,λag=>⟨⟨f,i+1,?_,Ω,vf q s h Ω⟩,?_⟩⟩
   .rw[decide_eq_false];rintro rfl;rw[s]at h;cases h;exact C rfl
   .rw[wrap_i64 Ω (by simp only[maxLen]at B;omega)];rfl
   .rw[wrap_i64 Ω (by simp only[maxLen]at B;omega)];simp only[b0];omega
  .have O:i=e:=Ω
   subst O;rw[decide_eq_true];rw[j4 Ω,j4 Ω]at q;exact q
theorem I8{s:x3}{a:Λ}(h1:cd w 1 s n (ints .i64 a))(B:n<=1000000):
  ai x8 zl [s] w λv w'=>Ext w w'/\∃g,w.heap.size<=g/\bX w' g am 1 v n (ints .i64 a):=by
 have j:=h1;obtain⟨p,C,E,G,H,rfl,I,K,q,L⟩:=h1;refine az func194 ?_;simp only[r6 aq.u,cg];refine⟨λf=>⟨Ext.refl _,w.heap.size,o6 _,?_⟩,λ_=>?_⟩
 .have:n=0:=by
   rcases Q5 n with h|h
   .exact h
   .rw[q h]at f;cases f
  subst this;have:ints .i64 a=[]:=c9 (by simpa using p);rw[this];exact bX.nil _ _ _ _
 .refine jK aq.u am.i Ω (cs:=#[]) Ψ ?_;intro g J M e x;refine nJ (g:=g) aq.u aq.u am.i rfl (bX.full x rfl Ω) (j.ext e) (qa _ _) Ω (by simp only[maxLen];omega) ?_;intro N y U O z A;refine⟨e.then A (by rintro r P rfl;omega),y,?_,?_⟩
  .have:=e.size;omega
  .simpa using z
theorem I9{e:x3}{a b:Λ}(h1:aG .i64 w s1 a)(f:aG .i64 w e b):
  ai x8 zj [s1,e] w λv w'=>v= .bool (decide (a=b))/\Ext w w':=I5 h1 f
theorem k6{s:x3}{a:Λ}(h1:aG .i64 w s a)(e:a.length<=1000000):
  ai x8 y5 [s] w λv w'=>Ext w w'/\∃g,w.heap.size<=g/\au .i64 ah w' g v a:=I6 h1 e
theorem vj{e:x3}{a b:Λ}(h1:aG .i64 w s1 a)(f:aG .i64 w e b):
  ai x8 yV [s1,e] w λv w'=>v= .bool (decide (a=b))/\Ext w w':=I7 h1 f
theorem vk{s:x3}{a:Λ}(h1:aG .i64 w s a)(e:a.length<=1000000):
  ai x8 zl [s] w λv w'=>Ext w w'/\∃g,w.heap.size<=g/\au .i64 am w' g v a:=I8 h1 e
theorem Ja{n:Int}(h:aG .i64 w sv l)(I:ca l)(x:0<=n)(X:n<aN l):
  ai x8 GU [.agg #[sv],Δ n] w λv w'=>Ext w w'/\∃aO g,v= .tuple #[aO,Δ 0]/\w.heap.size<=g/\au .i64 ah w' g aO (cN l n):=by
 have Y:=I.1;have Z:=prod_bound I;refine az func96 ?_;refine bk λg w0 aa y a=>?_;have ab:=h.cells;simp only[ct,aR,aj];refine⟨λad=>Ω,λ_=>?_⟩;rw[bE bC.p bC.i rfl a.range];refine(oT (h.ext y) I).mono ?_;rintro _ J _ ⟨rfl,f⟩;simp only[cS,aj];refine⟨λae=>Ω,λ_=>?_⟩;have j:=y.trans f;rw[aH bC.p 0 (a.ext f) rfl,aU an.u (h.ext j)];refine jL an.u ah.i Ω Ω ?_;intro E U af z L;simp only[hW an.u];have M:=j.trans z;have s0:=y.size;have s1:=f.size;have ag:=a.lt;refine⟨λt q=>Ext w q/\Ext w0 q/\∃i:Nat,t=Δ i/\i<=l.length/\ac q E ah (ints .i64 ((cN l n).take i++o5 (l.length-i) 0)),λt _=>l.length-(b0 t).toNat,
  ⟨M,f.trans z,0,rfl,X8 _,by simpa using L⟩,?_⟩
 rintro _ q ⟨A,B,i,rfl,hi,G⟩;simp only[aR,aj];refine⟨λC=>?_,λak=>?_⟩
 .have C:i<l.length:=Ω
  rw[bE bC.p bC.i rfl (a.ext B).range];refine(I4 (h.ext A) I C).mono ?_;rintro _ al _ ⟨rfl,N⟩;simp only[ef];intro am O _ _;have s:=N.trans O;have H:=A.trans s;obtain⟨k,hk⟩:∃k,l[i]?=σ k:=⟨l[i],x7 Ω⟩;have ao:=I.2 k (x6 hk);have ap:=prod_bound (I.drop (i+1));have P:0<=n / aN (l.drop (i+1)):=Int.ediv_nonneg x Ω;have aq:n / aN (l.drop (i+1))<=n:=Int.ediv_le_self _ x;rw[p6 Ω,Int.tdiv_eq_ediv_of_nonneg x,wrap_i64 Ω Ω,
   aH bC.p 0 ((a.ext B).ext s) rfl,bb an.u ah.i Ψ (h.ext H) hk,
   p7 Ω,Int.tmod_eq_emod_of_nonneg P,eK an.u ah.i C (λ_=>rfl),U4]
  refine bp ah.i rfl rfl (G.ext s) (by simp[jp];omega) ?_;intro av K aw Q;simp only[aL];rw[wrap_i64 Ω Ω];have ax:=z.size;have ay:=j.size;refine⟨⟨H.then K (by rintro r R rfl;omega),(B.trans s).then K (by rintro r R rfl;omega),i+1,rfl,Ω,?_⟩,?_⟩
  .have S:=zS (n:=n) hk;have e:(ints .i64 ((cN l n).take i++o5 (l.length-i) 0)).set (0+i) (Δ (n / aN (l.drop (i+1)) % k))=ints .i64 ((cN l n).take (i+1)++o5 (l.length-(i+1)) 0):=by
    have V:((cN l n).take i).length=i:=by rw[o7,jp];omega
    rw[X6,ints,<-U8];congr 1;rw[List.set_append,if_neg Ω,V,T2,show l.length-i=(l.length-(i+1))+1 by omega,List.replicate_succ,List.set_cons_zero,u9,S];simp
   rw[<-e];exact Q
  .simp only[b0];omega
 .have W:i=l.length:=Ω
  subst W;refine⟨A,_,E,rfl,by have:=j.size;omega,au.of (n:=l.length) (bX.full ?_ (by simp[ints,jp]) (by simp[maxLen];omega))⟩;have e:(cN l n).take l.length++o5 (l.length-l.length) 0=cN l n:=by rw[T2,j4 (by rw[jp];omega)];simp
  rw[<-e];exact G
def ip(x:Int):Prop:=1<=x/\x<=32
instance (x:Int):Decidable (ip x):=by unfold ip;infer_instance
theorem Jb{x:Int}:ai x8 r0 [Δ x] w λv w'=>v= .bool (decide (¬ip x))/\Ext w w':=by
 refine az func272 ?_;simp only[ct,aR,bS,aj];refine⟨λh=>⟨?_,Ext.refl _⟩,λh=>⟨?_,Ext.refl _⟩⟩
 .rw[decide_eq_true];intro a;have:=a.1;omega
 .congr 1;have:(32<x)=(¬ip x):=propext ⟨λe a=>by have:=a.2;omega,λe=>by
   by_cases f:32<x
   .exact f
   .exact absurd ⟨Ω,Ω⟩ e⟩
  simp only[this]
theorem Jc(h:aG .i64 w sv l):
  ai x8 uX [sv,.func (.func r0) #[] #[]] w λv w'=>Ext w w'/\∃n:Int,v=Δ n/\((0<=n)=¬∀x∈l,ip x):=by
 have z:=h.le;refine az func138 ?_;rw[aU an.u h];refine⟨λ_ t J=>Ext w J/\∃i:Nat,t=Δ i/\i<=l.length/\∀x∈l.take i,ip x,λ_ t _=>l.length-(b0 t).toNat,⟨Ext.refl _,0,rfl,X8 _,Ξ⟩,?_⟩;rintro _ _ J ⟨e,i,rfl,hi,f⟩;simp only[aR,aj];refine⟨λA=>?_,λB=>⟨e,-1,rfl,?_⟩⟩
 .obtain⟨x,j⟩:=aF (l:=l) (i:=i) Ω;rw[bb an.u ah.i Ψ (h.ext e) j];show ai x8 r0 [Δ x] J _;refine Jb.mono ?_;rintro _ U _ ⟨rfl,p⟩;simp only[aj,aL];refine⟨λq=>⟨e.trans p,i,rfl,?_⟩,λr=>?_⟩
  .exact propext ⟨λ_ s=>q (s x (x6 j)),λ_=>Ω⟩
  .rw[wrap_i64 Ω Ω];refine⟨⟨e.trans p,i+1,rfl,Ω,λy a=>?_⟩,?_⟩
   .rw[u9,j]at a;rcases j0.1 a with a|a
    .exact f y a
    .simp at a;subst a;exact X4.1 r
   .simp only[b0];omega
 .have:i=l.length:=Ω
  rw[this,o8]at f;exact propext ⟨λh=>Ω,λh=>absurd f h⟩
theorem Jd(h:aG .i64 w sv l):
  ai x8 u0 [sv,.func (.func r0) #[] #[]] w λv w'=>v= .bool (decide (¬∀x∈l,ip x))/\Ext w w':=by
 refine az func214 ?_;refine(Jc h).mono ?_;rintro _ J _ ⟨a,n,rfl,e⟩;simp only[cS];exact⟨by congr 1;simp only[e],a⟩
def Je(w:x4)(l:Λ)(v:x3)(w':x4):Prop:=
 Ext w w'/\
   (¬ca l->v= .tuple #[.agg #[.slice ν 0 0],Δ 1])/\
   (ca l->4096<aN l->v= .tuple #[.agg #[.slice ν 0 0],Δ 5])/\
   (ca l->aN l<=4096->∃g aO,v= .tuple #[.agg #[aO],Δ 0]/\w.heap.size<=g/\au .i64 ah w' g aO l)
theorem Jf(h:aG .i64 w sv l):ai x8 Il [sv] w (Je w l):=by
 refine az func239 ?_;refine bw bC.i λY J av a q=>?_;have aw:=q.lt;refine aW (λv U=>Ext w U/\Ext J U/\∃c:Bool,v= .bool c/\((c=true)=¬ca l)) ?_ ?_
 .rintro _ U ⟨s,x,c,rfl,H⟩;simp only[cg];refine⟨λZ=>?_,λab=>?_⟩
  .have K:¬ca l:=by rw[<-H];exact Z
   rw[dq (cs:=#[.slice ν 0 0]) Ψ];refine b1 (vs:=[.slice ν 0 0]) bC.i rfl rfl (by simp;rfl) (q.ext x) ?_;intro ay ad aA af;rw[fb bC.p bC.i rfl af.range];exact⟨s.then ad (by rintro r y rfl;omega),λ_=>rfl,λh=>absurd h K,λh=>absurd h K⟩
  .have e:ca l:=by
    have L:¬(c=true):=by simp[ab]
    rw[H]at L;exact Classical.not_not.1 L
   have aB:=e.1;refine(k6 (h.ext s) Ω).mono ?_;rintro aO M _ ⟨z,N,aC,hm⟩;have O:=hm.ls.cells;rw[dq (cs:=#[aO]) (by obtain⟨_,_,_,_,_,rfl,_⟩:=hm.ls;kernel_rfl)];refine bw bC.i λgs aD aE A ag=>?_;refine b1 (vs:=[aO]) bC.i rfl rfl (by intro u hu;simp at hu;subst hu;exact O.2) ag ?_;intro B P aF Q;rw[bE bC.p bC.i rfl Q.range];have aH:=z.size;have aI:=A.size;have aJ:=x.size;have aK:ae (λr=>r=gs) M B:=(A.aa _).trans P;have C:Ext M B:=A.then P (by rintro r y rfl;omega);have ak:=(s.trans z).trans C;have R:au .i64 ah B N aO l:=hm.ext C;refine(oT R.ls e).mono ?_;rintro _ al _ ⟨rfl,f⟩;have S:=ak.trans f;have V:ac al Y bC [.slice ν 0 0]:=q.ext (((x.trans z).trans C).trans f);simp only[bS,aj];refine⟨λam=>?_,λao=>?_⟩
   .rw[dq (cs:=#[.slice ν 0 0]) Ψ];refine b1 (vs:=[.slice ν 0 0]) bC.i rfl rfl (by simp;rfl) V ?_;intro ap j aq E;rw[fb bC.p bC.i rfl E.range];exact⟨S.then j (by rintro r y rfl;omega),λh=>absurd e h,λ_ _=>rfl,λ_ h=>Ω⟩
   .rw[bE bC.p bC.i rfl (Q.ext f).range];refine b1 (vs:=[aO]) bC.i rfl rfl (by intro u hu;simp at hu;subst hu;exact O.2) V ?_;intro ap j aq E;rw[fb bC.p bC.i rfl E.range];have aL:=a.size;exact⟨S.then j (by rintro r y rfl;omega),λh=>absurd e h,λ_ h=>Ω,λ_ _=>⟨N,aO,rfl,Ω,(R.ext f).aa j Ω⟩⟩
 .intro ax W;rw[aU an.u (h.ext a)];simp only[bS,aj];refine⟨λam=>W _ _ ⟨a,Ext.refl _,true,rfl,?_⟩,λao=>?_⟩
  .exact propext ⟨λ_ I=>by have:=I.1;omega,λ_=>rfl⟩
  .refine (Jd (h.ext a)).mono ?_;rintro _ U _ ⟨rfl,X⟩;refine W _ _ ⟨a.trans X,X,_,rfl,?_⟩;rw[decide_eq_true_eq];exact propext ⟨λG I=>G I.2,λG I=>G ⟨Ω,I⟩⟩
theorem vl{P:V1}(f:0<=a)(h1:a<4294967296):
  V P (aJ .and t cx cy (.int .u64 a) (.int .u64 4294967295)) w K=K (.int .u64 a):=V.of λw' _=>by
 obtain⟨n,rfl⟩:=U9 f;have q:n<4294967296:=Ω
 have e:(T4 64 (n:Int) &&& T4 64 4294967295).toNat=n:=by
  rw[BitVec.toNat_and,BitVec.toNat_ofInt,BitVec.toNat_ofInt];have h:((n:Int) % ((2 ^ 64:Nat):Int)).toNat=n:=Ω
  have j:((4294967295:Int) % ((2 ^ 64:Nat):Int)).toNat=2 ^ 32-1:=Φ
  rw[h,j,Nat.and_two_pow_sub_one_eq_mod];omega
 have p:(T4 T3.bits (n:Int) &&& T4 T3.bits 4294967295).toNat=n:=e;simp only[aJ,eqGuard,binOp,Op.intBits,p];rw[wrap_u64 Ω Ω];rfl
theorem qb{P:V1}(f:0<=a)(h1:a<4294967296):
  V P (aJ .shr t cx cy (.int .u64 a) (.int .u64 32)) w K=K (.int .u64 0):=V.of λw' _=>by
 have e:a.fdiv (2 ^ min 32 T3.bits)=0:=by
  have:(2:Int) ^ min 32 T3.bits=4294967296:=rfl;rw[this,Int.fdiv_eq_ediv_of_nonneg _ Ω];omega
 simp[aJ,eqGuard,binOp,Op.shift,e]
theorem Jg{x:Int}(f:0<=x/\x<65536)(e:0<=y/\y<65536):
  ai x8 ID [.int .u64 x,.int .u64 y] w λv w'=>v= .tuple #[.int .u64 0,.int .u64 (x*y)]/\Ext w w':=by
 have j:0<=x*y/\x*y<4294967296:=⟨Int.mul_nonneg f.1 e.1,by
  have:x*y<=65535*65535:=Int.mul_le_mul Ω Ω e.1 Ω;omega⟩
 refine az func273 ?_;refine ai.mono (K:=λv w'=>v= .tuple #[.int .u64 0,.int .u64 (x*y)]/\Ext w w') ?_ ?_
 .refine az func288 ?_;rw[vl Ω Ω,qb Ω Ω,vl Ω Ω,qb Ω Ω];simp only[gp,Int.zero_mul,Int.mul_zero];rw[wrap_u64 (x:=x*y) Ω Ω,show T3.wrap 0=0 from rfl,qb (a:=x*y) Ω Ω];simp only[aL,Int.add_zero];rw[show T3.wrap 0=0 from rfl,vl Ω Ω,qb Ω Ω];simp only[gp,aL,Int.zero_mul,Int.mul_zero,Int.add_zero,show T3.wrap 0=0 from rfl];rw[qb Ω Ω];simp only[gp,aL,Int.add_zero,show T3.wrap 0=0 from rfl];exact⟨trivial,Ext.refl _⟩
 .rintro _ J _ ⟨rfl,h⟩;rw[bx,bz];exact⟨rfl,h⟩
theorem zU{ei:x3}{c:Int}(h:aG .i64 w ei [c])(Y:n<65536):
  ai x8 Im [ei,Δ n] w λv w'=>Ext w w'/\∃g,w.heap.size<=g/\au .i64 am w' g v (o5 n c):=by
 refine az func240 ?_;refine dh (λJ=>w=J) ?_ ?_
 .rintro _ rfl;rw[aU aq.u h,fp ah.u oO.u,fp ah.u oO.u,wrap_u64 Ξ Ξ,wrap_u64 Ω Ω];refine(Jg (x:=([c].length:Int)) Ξ Ω).mono ?_;rintro _ U _ ⟨rfl,z⟩;rw[bx,bz];have G:(([c].length:Int)*n)=(n:Int):=Ξ
  rw[G];refine dh (λa=>U=a) ?_ ?_
  .rintro _ rfl;rw[fp oO.u ah.u,wrap_i64 Ω Ω];refine jL aq.u am.i Ω Ω ?_;intro g Z aa H I;have A:=z.trans H;have ab:=z.size;refine zG aq.u am.i I (o:=0) (λ_=>rfl) Ξ (h.ext A) (qa _ _) ?_;intro ad K ae B;have L:=A.then K (by rintro r M rfl;omega);have st:over (ints .i64 (o5 n 0)) 0 ((ints .i64 [c]).take n)=ints .i64 (o5 (min 1 n) c++o5 (n-min 1 n) 0):=by
    rcases Q5 n with rfl|e
    .simp[over]
    .rw[j4 Θ,mE Θ];have:min 1 n=1:=Ω
     simp[this,ints]
   rw[st]at B;refine⟨λt f=>Ext w f/\∃i:Nat,t=Δ i/\i<=n/\(0<n->0<i)/\ac f g am (ints .i64 (o5 i c++o5 (n-i) 0)),λt _=>n-(b0 t).toNat,
    ⟨L,min 1 n,Ξ,Ω,Ω,B⟩,?_⟩
   rintro _ f ⟨p,i,rfl,hi,af,q⟩;simp only[hW aq.u,aR,aj,ef];refine⟨λN O s _ _=>?_,λag=>?_⟩
   .have N:i<n:=Ω
    have C:=q.ext s;rw[hX aq.u am.i (l:=i) (h:=n) (m:=n) p8 jJ fG Ω Ω Ω,
     hX aq.u am.i (l:=0) (h:=i) (m:=n) jI p9 fG Ω Ω Ω]
    have P:cd O 1 (.slice (σ ⟨g,0,ν⟩) n n) n (ints .i64 (o5 i c++o5 (n-i) 0)):=(bX.full C (by simp<;>omega) (by simp[maxLen]<;>omega)).sl;have e:=P.part (l:=0) (h:=i) (m:=n) Ω Ω Ω Ω;have Q:((ints .i64 (o5 i c++o5 (n-i) 0)).drop (0*1)).take ((i-0)*1)=ints .i64 (o5 i c):=by
     simp[ints]
    rw[Q]at e;refine zG aq.u am.i C (o:=i) (λ_=>?_) (by simp<;>omega) e (qa _ _) ?_
    .rw[if_neg Ω];simp[T7]
    .intro ak R al E;have an:=p.size;have ao:=s.size;have S:over (ints .i64 (o5 i c++o5 (n-i) 0)) i ((ints .i64 (o5 i c)).take (n-i))=ints .i64 (o5 (i+min i (n-i)) c++o5 (n-(i+min i (n-i))) 0):=by
      apply Y9;intro j;rw[nH _ _ _ (by simp[ints]<;>omega)];simp only[ints,Z4,List.map_replicate,List.getElem?_append,List.getElem?_take,List.getElem?_replicate,o7,List.length_replicate]
      repeat' split
      all_goals first|rfl|omega
     rw[S]at E;have V:min (i-0) (n-i)=min i (n-i):=Ω
     simp only[aL,V];have W:X9.wrap ((i:Int)+((min i (n-i):Nat):Int))=((i+min i (n-i):Nat):Int):=by rw[wrap_i64 Ω Ω];omega
     rw[W];refine⟨⟨(p.trans s).then R (by rintro r M rfl;omega),_,rfl,Ω,Ω,E⟩,?_⟩;simp only[b0,r8];omega
   .have:i=n:=Ω
    subst this;rw[T2,List.replicate_zero,V3]at q;exact⟨p,g,Ω,au.of (n:=i) (bX.full q Ξ (by simp[maxLen];omega))⟩
  .intro ax y;refine aW (λv a=>v= .bool false/\U=a) ?_ ?_
   .rintro _ _ ⟨rfl,rfl⟩;rw[aY];exact y _ rfl
   .intro ap X;simp only[bS,aj];refine⟨λh=>Ω,λ_=>X _ _ ⟨?_,rfl⟩⟩;rw[decide_eq_false];omega
 .intro ax y;simp only[aR,aj];exact⟨λh=>Ω,λ_=>y _ rfl⟩
def leads(v:x3)(r:Nat):Prop:=∃a n c,v= .slice (σ a) n c/\a.block=r
theorem bR{g:Nat}(h:au k e w g v l){r:Nat}(f:leads v r):r=g/\g<w.heap.size:=by
 obtain⟨a,n,c,rfl,rfl⟩:=f;obtain⟨_,⟨h,_⟩|⟨cap,cs,h,j,_⟩⟩:=h
 .cases h
 .cases h;exact⟨rfl,j.lt⟩
theorem br{g:Nat}(h:au k e w g v l)(a:ae S w w')(f:∀r,leads v r->¬S r):au k e w' g v l:=by
 refine⟨h.1,h.2.imp id λ⟨cap,cs,h1,j,p⟩=>⟨cap,cs,h1,j.aa a (f g ⟨_,_,_,h1,rfl⟩),p⟩⟩
def dd(w:x4)(g a:Nat)(sv:x3)(ag:Λ)(k:Int)(cs:Λ):Prop:=
 (∃aZ gs,ac w g cZ [sv,Δ k,aZ]/\au .i64 ah w gs sv ag/\au .i64 am w a aZ cs)/\(g≠a/\¬leads sv a/\aN ag<=4096)/\ca ag/\cs.length=(aN ag).toNat
theorem dd.ext{g e:Nat}{k:Int}{cs:Λ}(h:dd w g e sv ag k cs)(a:Ext w w'):dd w' g e sv ag k cs:=by
 obtain⟨⟨aZ,gs,h1,f,j⟩,p⟩:=h;exact⟨⟨aZ,gs,h1.ext a,f.ext a,j.ext a⟩,p⟩
def zV(w:x4)(l:Λ)(k a:Int)(v:x3)(w':x4):Prop:=
 Ext w w'/\
  (¬ca l->v= .tuple #[.pointer ν,Δ 1])/\
  (ca l->4096<aN l->v= .tuple #[.pointer ν,Δ 5])/\
  (ca l->aN l<=4096->¬cA a k->v= .tuple #[.pointer ν,Δ 3])/\
  (ca l->aN l<=4096->cA a k->∃g e sv,v= .tuple #[Γ g,Δ 0]/\w.heap.size<=g/\w.heap.size<=e/\(∀r,leads sv r->w.heap.size<=r)/\
   dd w' g e sv l k (o5 (aN l).toNat a))
theorem vm{k A:Int}(h:aG .i64 w sv l):ai x8 HR [sv,Δ k,Δ A] w (zV w l k A):=by
 refine az func191 ?_;refine(Jf h).mono ?_;rintro v J _ ⟨L,Z,aa,ab⟩;obtain⟨aO,e,rfl,ac,he⟩:∃(aO:x3)(e:Int),v= .tuple #[.agg #[aO],Δ e]/\aO.oneCell'=true/\
   ((e=1/\¬ca l)\/(e=5/\ca l/\4096<aN l)\/(e=0/\ca l/\aN l<=4096/\∃g,w.heap.size<=g/\au .i64 ah J g aO l)):=by
  by_cases I:ca l
  .by_cases z:aN l<=4096
   .obtain⟨g,aO,rfl,h1,M⟩:=ab I z;exact⟨aO,0,rfl,M.ls.cells.2,.inr (.inr ⟨rfl,I,z,g,h1,M⟩)⟩
   .exact⟨_,_,aa I Ω,rfl,.inr (.inl ⟨rfl,I,Ω⟩)⟩
  .exact⟨_,_,Z I,rfl,.inl ⟨rfl,I⟩⟩
 rw[bx,bz];refine bw bC.i λaM U aP ad ae=>?_;refine b1 (vs:=[aO]) bC.i rfl rfl (by intro u hu;simp at hu;subst hu;exact ac) ae ?_;intro af ag aQ al;have N:Ext J af:=ad.then ag (by rintro r j rfl;omega);have O:=L.trans N;simp only[bN,aj];refine⟨λan=>⟨O,?_⟩,λaR=>?_⟩
 .rcases he with⟨rfl,B⟩|⟨rfl,I,z⟩|⟨rfl,_⟩
  .exact⟨λ_=>rfl,λh=>absurd h B,λh=>absurd h B,λh=>absurd h B⟩
  .exact⟨λh=>absurd I h,λ_ _=>rfl,λ_ h=>Ω,λ_ h=>Ω⟩
  .exact absurd rfl an
 .obtain⟨rfl,I,z,gs,aS,hm⟩:e=0/\ca l/\aN l<=4096/\∃g,w.heap.size<=g/\au .i64 ah J g aO l:=by
   rcases he with⟨rfl,B⟩|⟨rfl,I,z⟩|h
   .omega
   .omega
   .exact h
  have aT:=prod_bound I;refine jN.mono ?_;rintro _ aU _ ⟨rfl,E⟩;have P:=O.trans E;simp only[bJ,cg];refine⟨λao=>⟨P,λh=>absurd I h,λ_ h=>Ω,λ_ _ _=>rfl,λ_ _ h=>by simp[h]at ao⟩,λap=>?_⟩;have av:cA A k:=by simpa using ap
  simp only[ct,ef];intro Q G _ _;have aw:=P.trans G;have C:=(N.trans E).trans G;have R:=(al.ext E).ext G;rw[bE bC.p bC.i rfl R.range,bE bC.p bC.i rfl R.range];have s1:=L.size;have aV:=C.size;have S:((aN l).toNat:Int)=aN l:=Ω
  have W:∀{x:x4}{s:x3}{y:Nat},Ext Q x->Q.heap.size<=y->au .i64 am x y s (o5 (aN l).toNat A)->
    V x8 (Instr.build cZ #[(0,.agg #[aO]),(1,Δ k),(2,s)]) x λax=>aB x8 (Instr.box cZ ax) x λay X=>zV w l k A (.tuple #[ay,Δ 0]) X:=by
   intro x s y q Y j;rw[dq (cs:=#[aO,Δ k,s]) (by
    obtain⟨_,_,_,_,_,rfl,_⟩:=j.ls;obtain⟨_,_,_,_,_,rfl,_⟩:=hm.ls;kernel_rfl)]
   refine bk λg X aW H aA=>?_;have aX:=q.size;have aC:leads s y:=by
    obtain⟨aY,⟨_,aD⟩|⟨cap,cs,rfl,_⟩⟩:=j
    .simp at aD;omega
    .exact⟨_,_,_,rfl,rfl⟩
   have aZ:=(bR j aC).2;refine⟨(aw.trans q).trans H,λh=>absurd I h,λ_ h=>Ω,λ_ _ h=>absurd av h,λ_ _ _=>⟨g,y,aO,rfl,Ω,Ω,λr aE=>?_,⟨s,gs,aA,((hm.ext C).ext q).ext H,j.ext H⟩,⟨Ω,λaF=>?_,z⟩,I,Ξ⟩⟩
   .have:=(bR hm aE).1;omega
   .have:=bR hm aF;omega
  constructor
  .refine et aq.u am.i rfl λei ak aH aI a K=>⟨.inl a,?_⟩;refine(oT ((hm.ext C).ext a).ls I).mono ?_;rintro _ aJ _ ⟨rfl,f⟩;refine⟨.inl (a.trans f),?_⟩;rw[<-S];refine(zU (K.ext f).ls Ω).mono ?_;rintro s x _ ⟨q,y,Y,j⟩;have aK:=a.size;have aL:=f.size;exact⟨.inl ((a.trans f).trans q),W ((a.trans f).trans q) Ω j⟩
  .refine (oT (hm.ext C).ls I).mono ?_;rintro _ aH _ ⟨rfl,a⟩;refine⟨.inl a,?_⟩;refine et aq.u am.i rfl λei ak aJ aI f K=>⟨.inl (a.trans f),?_⟩;rw[<-S];refine(zU K.ls Ω).mono ?_;rintro s x _ ⟨q,y,Y,j⟩;have aK:=a.size;have aL:=f.size;exact⟨.inl ((a.trans f).trans q),W ((a.trans f).trans q) Ω j⟩
theorem nN{g:Nat}{a:List x3}{o:Nat}(h:ac w g e cs)(f:∀j v,a[j]?=σ v->cs[o+j]?=σ v):w.rangeAt g o a:=λj v p=>h.cell (f j v p)
theorem zW{g f:Nat}{t:Λ}{k:Int}{cs:Λ}(h:dd w g f sv ag k cs)(q:aG .i64 w aO t):
  ai x8 Iq [Γ g,aO] w λv w'=>v=k5 ag t/\Ext w w':=by
 obtain⟨⟨aZ,gs,r,hm,s⟩,_,I,_⟩:=h;refine az func245 ?_;rw[dc eV.u];simp only[Z6,aY];rw[bY,aS cZ.p rfl,bE (cs:=[sv]) bC.p bC.i rfl (nN r (by
  intro j v a
  match j,a with
  |0,a=>exact a))]
 refine(zT hm.ls q I).mono ?_;rintro _ J _ ⟨rfl,e⟩;unfold k5;cases cj ag t 0 with
 |none=>rw[bx,bz];exact⟨rfl,e⟩
 |some n=>rw[bx,bz];exact⟨rfl,e⟩
def oU(ag t cs:Λ):x3:=match cj ag t 0 with
 |some n=>.tuple #[Δ (cs.getD n.toNat 0),Δ 0]
 |none=>.tuple #[Δ 0,Δ 3]
theorem zX{t cs:Λ}{n:Int}(I:ca ag)(a:cs.length=(aN ag).toNat)(h:cj ag t 0=σ n):n=(n.toNat:Int)/\n.toNat<cs.length:=by
 have:=k4 I.2 h;simp only[Int.zero_mul,Int.zero_add,Int.one_mul]at this;omega
theorem vn{g f:Nat}{t:Λ}{k:Int}{cs:Λ}(h:dd w g f sv ag k cs)(j:aG .i64 w aO t):
  ai x8 Ii [Γ g,aO] w λv w'=>v=oU ag t cs/\Ext w w':=by
 refine az func230 ?_;refine(zW h j).mono ?_;rintro _ J _ ⟨rfl,a⟩;obtain⟨⟨aZ,gs,q,hm,r⟩,_,I,s⟩:=h.ext a;unfold k5 oU;cases hi:cj ag t 0 with
 |none=>
  rw[bx,bz];simp only[bN,aj];exact⟨λ_=>⟨trivial,a⟩,λh=>by simp at h⟩
 |some n=>
  obtain⟨x,e⟩:=zX I s hi;rw[bx,bz];simp only[bN,aj];refine⟨λh=>absurd rfl h,λ_=>?_⟩;rw[aP cZ.p 2 q rfl,
   fq x aq.u am.i Ψ r.ls (x7 e)]
  refine⟨?_,a⟩;rw[u4,x7 e];rfl
def se(ag t:Λ)(k c:Int)(cs:Λ):Λ:=match cj ag t 0 with
 |some n=>if cA c k then cs.set n.toNat c else cs
 |none=>cs
def zY(ag t:Λ)(k c:Int):Int:=match cj ag t 0 with
 |some _=>if cA c k then 0 else 3
 |none=>3
theorem Jh{g f:Nat}{t:Λ}{k c:Int}{cs:Λ}(h:dd w g f sv ag k cs)(C:aG .i64 w aO t):
  ai x8 HT [Γ g,aO,Δ c] w λv w'=>v=Δ (zY ag t k c)/\ae (λr=>r=f) w w'/\dd w' g f sv ag k (se ag t k c cs):=by
 refine az func193 ?_;refine(zW h C).mono ?_;rintro _ J _ ⟨rfl,a⟩;have h1:=h.ext a;obtain⟨⟨aZ,gs,e,hm,j⟩,_,I,q⟩:=h1;unfold k5 zY se;cases hi:cj ag t 0 with
 |none=>
  rw[bx,bz];simp only[bN,aj];exact⟨λ_=>⟨trivial,a.aa _,h.ext a⟩,λh=>by simp at h⟩
 |some n=>
  obtain⟨P,Q⟩:=zX I q hi;rw[bx,bz];simp only[bN,aj];refine⟨λh=>absurd rfl h,λ_=>?_⟩;rw[aP cZ.p 1 e rfl];refine jN.mono ?_;rintro _ U _ ⟨rfl,s⟩;have y:=(h.ext a).ext s;by_cases z:cA c k
  .simp only[z,decide_true,bJ,X3,aY,if_true];obtain⟨⟨aZ,gs,e,hm,j⟩,⟨E,A⟩,I,q⟩:=y;have R:=j;obtain⟨S,⟨rfl,V⟩|⟨cap,full,rfl,G,H,K,L,B⟩⟩:=j
   .omega
   .rw[aP cZ.p 2 e rfl,
     zC (i:=n) aq.u am.i Ω Ω (λ_=>rfl)]
    refine bp am.i rfl rfl G Ω ?_;intro W x X M;refine⟨trivial,((a.trans s).aa _).trans x,⟨_,gs,e.aa x Ω,br hm x (λr N O=>A.1 (O▸N)),?_⟩,⟨E,A⟩,I,by simp[q]⟩;refine⟨Ξ,.inr ⟨cap,full.set (0+n.toNat*1) (Δ c),?_,M,by simpa using H,K,by simpa using L,?_⟩⟩
    .simp
    .simp only[Z9,X6,U4]at B ⊢;rw[List.take_set,B,ints,ints,U8]
  .simp only[z,decide_false,bJ,W3,bQ,if_false];exact⟨trivial,(a.trans s).aa _,y⟩
def cB(b:Int):Bool:=decide (b=32\/b=9\/b=10\/b=13)
def bO(b:Int):Bool:=decide (33<=b/\b<=126)
def nO:Nat->Λ->List (Λ)×Bool
 |0,_=>([],true)
 |n+1,p=>
  match p.dropWhile cB with
  |[]=>([],true)
  |b::q=>
   if bO b then
    match(b::q).dropWhile bO with
    |[]=>([(b::q).takeWhile bO],true)
    |c::r=>if cB c then(((b::q).takeWhile bO)::(nO n (c::r)).1,(nO n (c::r)).2)else([],false)
   else([],false)
def lex(p:Λ):List (Λ)×Bool:=nO (p.length+1) p
theorem oV(f:Int->Bool):∀(l:Λ),(l.dropWhile f).length<=l.length
 |[]=>o6 _
 |x::l=>by
  rw[List.dropWhile_cons];split
  .exact Y7 (oV f l) (Nat.le_succ _)
  .exact o6 _
theorem sf{f:Int->Bool}{x:Int}(h:f x=true):((x::l).dropWhile f).length<=l.length:=by
 rw[List.dropWhile_cons,if_pos h];exact oV f l
theorem zZ:∀{n m:Nat}{p:Λ},p.length<n->p.length<m->nO n p=nO m p
 |n+1,m+1,p,j,hm=>by
  unfold nO;have h1:=oV cB p;cases f:p.dropWhile cB with
  |nil=>rfl
  |cons b q=>
   rw[f]at h1;simp only;by_cases a:bO b=true
   .rw[if_pos a,if_pos a];have e:=sf (l:=q) a;cases h:(b::q).dropWhile bO with
    |nil=>rfl
    |cons c r=>
     rw[h]at e;simp only[Z2]at h1 e;simp only;rw[zZ (n:=n) (m:=m) (p:=c::r) (by rw[Z2];omega) (by rw[Z2];omega)]
   .rw[if_neg a,if_neg a]
theorem kq(p:Λ):lex p=match p.dropWhile cB with
  |[]=>([],true)
  |b::q=>
   if bO b then
    match(b::q).dropWhile bO with
    |[]=>([(b::q).takeWhile bO],true)
    |c::r=>if cB c then(((b::q).takeWhile bO)::(lex (c::r)).1,(lex (c::r)).2)else([],false)
   else([],false):=by
 unfold lex
 conv=>lhs;unfold nO
 have h1:=oV cB p;cases f:p.dropWhile cB with
 |nil=>rfl
 |cons b q=>
  rw[f]at h1;simp only;by_cases a:bO b=true
  .rw[if_pos a,if_pos a];have e:=sf (l:=q) a;cases h:(b::q).dropWhile bO with
   |nil=>rfl
   |cons c r=>
    rw[h]at e;simp only[Z2]at h1 e;simp only;rw[zZ (n:=p.length) (m:=(c::r).length+1) (p:=c::r) (by rw[Z2];omega) Ω]
  .rw[if_neg a,if_neg a]
theorem qc:∀(n:Nat)(p:Λ),p.length<=n->(lex p).1.length<=p.length
 |n,p,s=>by
  rw[kq];have h1:=oV cB p;cases h:p.dropWhile cB with
  |nil=>simp
  |cons b q=>
   rw[h]at h1;simp only;by_cases a:bO b=true
   .rw[if_pos a];have e:=sf (l:=q) a;cases j:(b::q).dropWhile bO with
    |nil=>simp only[Z2,List.length_nil]at h1 ⊢;omega
    |cons c r=>
     rw[j]at e;simp only[Z2]at h1 e;simp only;by_cases f:cB c=true
     .rw[if_pos f]
      match n with
      |0=>omega
      |n+1=>
       have:=qc n (c::r) (by rw[Z2];omega);simp only[Z2]at this ⊢;omega
     .rw[if_neg f];simp
   .rw[if_neg a];simp
theorem sg:∀(n:Nat)(p:Λ),p.length<=n->∀w∈(lex p).1,w≠[]/\(∀b∈w,bO b=true)/\w.length<=p.length
 |n,p,B,w,hw=>by
  rw[kq]at hw;have h1:=oV cB p;cases e:p.dropWhile cB with
  |nil=>rw[e]at hw;simp at hw
  |cons b q=>
   rw[e]at h1 hw;simp only at hw;have z:(b::q).length<=p.length:=h1;by_cases a:bO b=true
   .rw[if_pos a]at hw;have f:=sf (l:=q) a;have j:(b::q).takeWhile bO≠[]/\(∀x∈(b::q).takeWhile bO,bO x=true)/\((b::q).takeWhile bO).length<=p.length:=
     ⟨by rw[List.takeWhile_cons,if_pos a];simp,λx A=>List.all_takeWhile (l:=b::q) (p:=bO) |> List.all_eq_true.1 |> λh=>h x A,Y7 (List.takeWhile_sublist _).length_le z⟩
    cases s:(b::q).dropWhile bO with
    |nil=>
     rw[s]at hw;simp only[j6]at hw;subst hw;exact j
    |cons c r=>
     rw[s]at f hw;simp only[Z2]at h1 f;simp only at hw;by_cases y:cB c=true
     .rw[if_pos y]at hw;rcases V4.1 hw with rfl|hw
      .exact j
      .match n with
       |0=>omega
       |n+1=>
        have:=sg n (c::r) (by rw[Z2];omega) w hw;exact⟨this.1,this.2.1,Y7 this.2.2 (by rw[Z2];omega)⟩
     .rw[if_neg y]at hw;simp at hw
   .rw[if_neg a]at hw;simp at hw
def av:Int:=4611686018427387904
def gu(b:Int):Bool:=decide (48<=b/\b<=57)
def e2(n b:Int):Int:=min av (10*n+(b-48))
def kr:Λ->Option Int
 |[]=>ν
 |l=>if l.all gu then σ (l.foldl e2 0)else ν
def gv:Λ->Option Int
 |45::l=>(kr l).map λn=>-n
 |l=>kr l
theorem Ji{n b:Int}(e:0<=n)(a:gu b=true):0<=e2 n b/\e2 n b<=av:=by
 have a:=of_decide_eq_true a;unfold e2 av;omega
theorem sh:∀{l:Λ}{n:Int},l.all gu=true->0<=n/\n<=av->0<=l.foldl e2 n/\l.foldl e2 n<=av
 |[],n,_,a=>a
 |b::l,n,h,a=>by
  rw[List.all_cons,U3]at h;exact sh (l:=l) h.2 (Ji a.1 h.1)
structure aE where
 toks:List (Λ)
 told:Int
 big:Bool
 shared:List (Λ×List (Λ×Int))
deriving DecidableEq
def dU(s:aE):Option (Λ×aE):=match s.toks with
 |[]=>ν
 |w::l=>σ (w,{s with toks:=l})
def bd(lo hi:Int)(s:aE):Option (Int×aE):=match dU s with
 |none=>ν
 |some (w,s)=>match gv w with
  |none=>ν
  |some n=>if lo<=n/\n<=hi then σ (n,s)else ν
def a8(b:Bool)(s:aE):aE:={s with big:=s.big||b}
def cO{α:Type}(f:List α->aE->Option (α×aE)):Nat->List α->aE->Option (List α×aE)
 |0,acc,s=>σ (acc,s)
 |n+1,acc,s=>match f acc s with
  |none=>ν
  |some (a,s)=>cO f n (acc++[a]) s
def e3(n:Int)(a:Nat)(s:aE):Option (Λ×aE):=cO (λacc s=>match bd 0 (n-1) s with
 |none=>ν
 |some (v,s)=>if v∈acc then ν else σ (v,s)) a [] s
def iP:Λ->Λ->aE->Option (Λ×aE)
 |[],acc,s=>σ (acc,s)
 |k::l,acc,s=>match bd 0 (k-1) s with
  |none=>ν
  |some (v,s)=>iP l (acc++[v]) s
def dV(sizes:Λ)(acc:List (Λ×Int))(s:aE):Option ((Λ×Int)×aE):=match iP sizes [] s with
 |none=>ν
 |some (t,s)=>match bd 0 av s with
  |none=>ν
  |some (c,s)=>if t∈acc.map (·.1)then ν else σ ((t,c),s)
def dW(sizes:Λ)(s:aE):Option (List (Λ×Int)×aE):=match bd (-av) av s with
 |none=>ν
 |some (n,s)=>
  if n<0 then match s.shared[(-n-1).toNat]? with
   |none=>ν
   |some (z,l)=>if z=sizes then σ (l,s)else ν
  else cO (dV sizes) n.toNat [] (a8 (decide (16384<min (s.told+n) av)) {s with told:=min (s.told+n) av})
def dt(sizes:Λ):Bool:=decide (4096<aN (sizes.map λk=>min k 4097))
structure cv where
 scope:Λ
 sizes:Λ
 other:Int
 lines:List (Λ×Int)
deriving DecidableEq
def da(all:Λ)(s:aE):Option (cv×aE):=match bd (-av) av s with
 |none=>ν
 |some (a,s)=>match e3 all.length a.natAbs s with
  |none=>ν
  |some (scope,s)=>
   let sizes:=scope.map λv=>all.getD v.toNat 0
   match bd 0 av (a8 (decide (6<a.natAbs)||dt sizes) s)with
   |none=>ν
   |some (other,s)=>match dW sizes s with
    |none=>ν
    |some (lines,s)=>σ (⟨scope,sizes,other,lines⟩,if a<0 then{s with shared:=s.shared++[(sizes,lines)]}else s)
def fV(most:Int)(_:Λ)(s:aE):Option (Int×aE):=match bd 1 most s with
 |none=>ν
 |some (z,s)=>σ (z,a8 (decide (32<z)) s)
structure cb where
 name:Λ
 k:Int
 sizes:Λ
 funs:List cv
deriving DecidableEq
def hZ(s:aE):Option (cb×aE):=match dU s with
 |none=>ν
 |some (name,s)=>match bd 1 av (a8 (decide (64<name.length)) s)with
  |none=>ν
  |some (n,s)=>match bd 1 av (a8 (decide (64<n)) s)with
   |none=>ν
   |some (most,s)=>match bd 0 av s with
    |none=>ν
    |some (a,s)=>match bd 1 av (a8 (decide (256<a)) s)with
     |none=>ν
     |some (k,s)=>match cO (fV most) n.toNat [] (a8 (decide (2147483648<k)) s)with
      |none=>ν
      |some (sizes,s)=>match cO (λ_ s=>da sizes s) a.toNat [] s with
       |none=>ν
       |some (funs,s)=>σ (⟨name,k,sizes,funs⟩,s)
def gw(p:Λ):Option cb:=if 65536<p.length then ν else match hZ ⟨(lex p).1,0,false,[]⟩with
 |none=>ν
 |some (f,s)=>if s.toks=[]/\(lex p).2=true/\s.big=false then σ f else ν
def mI(n:Int)(a:Bool)(v:Int):Prop:=0<=n/\n<=4611686018427387909/\(a=true->v=av)/\(a=false->v=min av n)
theorem Jj{n b v:Int}{a:Bool}(h:mI n a v)(q:48<=b/\b<=57):
  mI (if a=true\/461168601842738790<n then n else 10*n+(b-48)) (a||decide (461168601842738790<n)) (e2 v b):=by
 obtain⟨h1,f,j,p⟩:=h;unfold e2 mI av at*;cases a with
 |true=>
  have:=j rfl;rw[if_pos (.inl rfl)];exact⟨h1,f,λ_=>Ω,λh=>by cases h⟩
 |false=>
  have:=p rfl;by_cases e:461168601842738790<n
  .rw[if_pos (.inr e),decide_eq_true e];exact⟨h1,f,λ_=>Ω,λh=>by cases h⟩
  .rw[if_neg (by simp[e]),decide_eq_false e];exact⟨Ω,Ω,(λh=>by cases h),λ_=>Ω⟩
theorem Jk:mI 0 false 0:=by unfold mI av;exact⟨Ω,Ω,(λh=>by cases h),λ_=>Ω⟩
theorem Jl{n v:Int}{a:Bool}(h:mI n a v):v=if a=true\/4611686018427387904<n then 4611686018427387904 else n:=by
 obtain⟨h1,p,f,j⟩:=h;unfold av at*;cases a with
 |true=>rw[if_pos (.inl rfl)];exact f rfl
 |false=>
  have:=j rfl;by_cases e:4611686018427387904<n
  .rw[if_pos (.inr e)];omega
  .rw[if_neg (by simp[e])];omega
structure Cell where
 v:Int
 st:Nat
structure k7 where
 i:Nat
 c:Cell
structure si where
 olds:Nat
 cells:Nat
 st:Nat
structure ay where
 cells:List Cell
 olds:List k7
 marks:List si
 iq:Nat
def ay.bV(t:ay):Λ:=t.cells.map (·.v)
def ay.set(t:ay)(i:Nat)(x:Int):ay:=match t.cells[i]? with
 |none=>t
 |some c=>match t.marks.getLast? with
  |none=>{t with cells:=t.cells.set i ⟨x,c.st⟩}
  |some m=>if c.st<m.st/\i<m.cells then{t with olds:=t.olds++[⟨i,c⟩],cells:=t.cells.set i ⟨x,m.st⟩}else{t with cells:=t.cells.set i ⟨x,c.st⟩}
def ay.grow(t:ay)(n:Nat):ay:={t with cells:=t.cells++o5 n ⟨0,0⟩}
def back(os:List k7)(cs:List Cell):List Cell:=os.foldr (λo cs=>cs.set o.i o.c) cs
theorem qd:∀(os:List k7)(cs:List Cell),(back os cs).length=cs.length
 |[],_=>rfl
 |o::os,cs=>by
  have:=qd os cs;show((back os cs).set o.i o.c).length=_;rw[Z9,this]
theorem back_append(a b:List k7)(cs:List Cell):back (a++b) cs=back a (back b cs):=by unfold back;rw[List.foldr_append]
theorem vo:∀{os:List k7}{cs:List Cell}{n:Nat},(back os cs).take n=back (os.filter λo=>decide (o.i<n)) (cs.take n)
 |[],cs,n=>rfl
 |o::os,cs,n=>by
  show((back os cs).set o.i o.c).take n=_;by_cases h:o.i<n
  .rw[List.filter_cons_of_pos (by simpa using h),List.take_set,vo];rfl
  .rw[List.filter_cons_of_neg (by simpa using h),List.take_set_of_le Ω,vo]
theorem z1{os:List k7}{cs:List Cell}(h:∀o∈os,o.i<n):(back os cs).take n=back os (cs.take n):=by
 rw[vo,List.filter_eq_self.2 λo a=>by simpa using h o a]
theorem z6:∀{os:List k7}{cs a:List Cell}{i:Nat},cs.length=a.length->(∃o∈os,o.i=i)->(back os cs)[i]?=(back os a)[i]?
 |[],_,_,_,_,⟨_,h,_⟩=>by cases h
 |o::os,cs,a,i,f,hm=>by
  show((back os cs).set o.i o.c)[i]?=((back os a).set o.i o.c)[i]?;rw[X1,X1];by_cases h:o.i=i
  .rw[if_pos h,if_pos h,qd,qd,f]
  .rw[if_neg h,if_neg h];obtain⟨x,e,he⟩:=hm;rcases V4.1 e with rfl|e
   .exact absurd he h
   .exact z6 f ⟨x,e,he⟩
theorem z7:∀{os:List k7}{cs a:List Cell}{i:Nat},cs[i]?=a[i]? ->cs.length=a.length->(back os cs)[i]?=(back os a)[i]?
 |[],_,_,_,h,_=>h
 |o::os,cs,a,i,h,e=>by
  show((back os cs).set o.i o.c)[i]?=((back os a).set o.i o.c)[i]?;rw[X1,X1,qd,qd,e,z7 h e]
def hC:ay->List ay->Prop
 |t,[]=>t.marks=[]/\t.olds=[]/\(∀c∈t.cells,c.st<=t.iq)/\t.iq<=1000000
 |t,s::h=>hC s h/\(∀c∈t.cells,c.st<=t.iq)/\∃m new,t.marks=s.marks++[m]/\m.olds=s.olds.length/\m.cells=s.cells.length/\t.olds=s.olds++new/\m.cells<=t.cells.length/\(back new t.cells).take m.cells=s.cells/\
   (∀c∈s.cells,c.st<m.st)/\(∀c∈t.cells,c.st<=m.st)/\(∀(i:Nat)c,i<m.cells->t.cells[i]?=σ c->c.st=m.st->∃o∈new,o.i=i)/\(∀o∈new,o.i<m.cells)/\m.st<=t.iq/\s.iq<=t.iq
theorem hC.grow{h:List ay}{t:ay}(hk:hC t h):hC (t.grow n) h:=by
 cases h with
 |nil=>
  refine⟨hk.1,hk.2.1,λc a=>?_,hk.2.2.2⟩;rcases j0.1 a with a|a
  .exact hk.2.2.1 c a
  .rw[(List.mem_replicate.1 a).2];exact X8 _
 |cons s h=>
  obtain⟨h1,j,m,new,p,q,a3,a4,a5,r,w,x,a9,e,y,z⟩:=hk;have f:∀{b:Nat},(∀c∈t.cells,c.st<=b)->∀c∈(t.grow n).cells,c.st<=b:=λA c a=>by
   rcases j0.1 a with a|a
   .exact A c a
   .rw[(List.mem_replicate.1 a).2];exact X8 _
  refine⟨h1,f j,m,new,p,q,a3,a4,by show m.cells<=(t.cells++_).length;rw[o4];omega,?_,w,f x,λi c hi a he=>?_,e,y,z⟩
  .show (back new (t.cells++_)).take m.cells=_;rw[z1 e,List.take_append_of_le_length a5,<-z1 e];exact r
  .have a:(t.cells++o5 n ⟨0,0⟩)[i]?=σ c:=a;rw[Y3 Ω]at a;exact a9 i c hi a he
theorem Jm{s:ay}{m:si}{l:List si}(h:l=s.marks++[m]):l.getLast? =σ m:=by rw[h,List.getLast?_concat]
theorem hC.set{h:List ay}{t:ay}{i:Nat}{x:Int}(hk:hC t h):hC (t.set i x) h:=by
 unfold ay.set;cases q:t.cells[i]? with
 |none=>exact hk
 |some c=>
  have F:=(x5.1 q).1;have y:=x6 q;have r:∀{b st:Nat},(∀c∈t.cells,c.st<=b)->st<=b->∀d∈t.cells.set i ⟨x,st⟩,d.st<=b:=λM B d a=>by
   rcases W7 a with a|rfl
   .exact M d a
   .exact B
  cases h with
  |nil=>
   obtain⟨h1,w,G,N⟩:=hk;simp only[h1,List.getLast?_nil];exact⟨rfl,w,r G (G c y),N⟩
  |cons s h=>
   obtain⟨h1,w,m,new,C,H,a3,a4,a5,I,J,z,a9,K,E,L⟩:=hk;simp only[Jm C];by_cases A:c.st<m.st/\i<m.cells
   .rw[if_pos A];refine⟨h1,r w E,m,new++[⟨i,c⟩],C,H,a3,by show t.olds++_=_;rw[a4,Y6],by show m.cells<=(t.cells.set i _).length;rw[Z9];exact a5,?_,J,r z (o6 _),λj d e a he=>?_,λo p=>?_,E,L⟩
    .show (back (new++[⟨i,c⟩]) (t.cells.set i _)).take m.cells=_;rw[back_append];have:back [⟨i,c⟩] (t.cells.set i ⟨x,m.st⟩)=t.cells:=by
      show(t.cells.set i _).set i c=_;rw[List.set_set];refine Y9 λj=>?_;rw[X1];by_cases e:i=j
      .subst e;rw[if_pos rfl,if_pos F,q]
      .rw[if_neg e]
     rw[this];exact I
    .have a:(t.cells.set i ⟨x,m.st⟩)[j]?=σ d:=a;by_cases f:i=j
     .exact⟨⟨i,c⟩,Ξ,f⟩
     .rw[X1,if_neg f]at a;obtain⟨o,p,he⟩:=a9 j d e a he;exact⟨o,List.mem_append_left _ p,he⟩
    .rcases j0.1 p with p|p
     .exact K o p
     .rw[j6.1 p];exact A.2
   .rw[if_neg A];refine⟨h1,r w (w c y),m,new,C,H,a3,a4,by show m.cells<=(t.cells.set i _).length;rw[Z9];exact a5,?_,J,r z (z c y),λj d e a he=>?_,K,E,L⟩
    .rw[<-I];show(back new (t.cells.set i _)).take m.cells=_;refine Y9 λj=>?_;by_cases e:j<m.cells
     .rw[Y0 e,Y0 e];by_cases f:i=j
      .subst f;have B:c.st=m.st:=by
        have:=z c y;have:¬c.st<m.st:=λap=>A ⟨ap,e⟩;omega
       exact z6 (by rw[Z9]) (a9 i c e q B)
      .exact z7 (by rw[X1,if_neg f]) (by rw[Z9])
     .rw[Y2 (by rw[o7];omega),Y2 (by rw[o7];omega)]
    .have a:(t.cells.set i ⟨x,c.st⟩)[j]?=σ d:=a;by_cases f:i=j
     .subst f;rw[X1,if_pos rfl,if_pos F]at a;cases a;exact a9 i c e q he
     .rw[X1,if_neg f]at a;exact a9 j d e a he
theorem ay.qe{t:ay}{i:Nat}{x:Int}:(t.set i x).bV=t.bV.set i x:=by
 unfold ay.set ay.bV;cases a:t.cells[i]? with
 |none=>rw[List.set_eq_of_length_le (by rw[u7];exact List.getElem?_eq_none_iff.1 a)]
 |some c=>
  simp only;cases t.marks.getLast? with
  |none=>simp only;rw[U8]
  |some m=>simp only;split<;>rw[U8]
theorem ay.Jn{t:ay}:(t.grow n).bV=t.bV++o5 n 0:=by
 unfold ay.grow ay.bV;rw[Z4,List.map_replicate]
end Go.Proofs.YtikkpokkcdocoaaGreatDoor
namespace Go.Vc
open Go Go.RowKit
section
variable{P:V1}{w:x4}{m:Bool}{S R:af}
theorem sj{b k l:Nat}{low high:Option x3}(p:P.underlying t=σ (.slice e))(hi:aQ P e k b z)(a:cd w k v n cs)(h1:lX low l)(q:lY high n h)(f:l<=h)(ap:h<=n)(r:∀j,cd w k j (h-l) ((cs.drop (l*k)).take ((h-l)*k))->K j):
  V P (U1 t v low high ν) w K:=by
 have s:=a;obtain⟨_,x,o,base,cap,rfl,y,_⟩:=a;rw[hX p hi h1 q fG f Ω (o6 _)];exact r _ (cd.part s f ap Ω (o6 _))
theorem Jo{b i:Nat}(j:y=(i:Int))(p:P.underlying t=σ (.slice e))(hi:aQ P e 1 b z)(h:aG k w v l)(q:i<=l.length)(r:∀a,aG k w a (l.drop i)->K a):V P (U1 t v (σ (.int f y)) ν ν) w K:=by
 refine sj p hi h (nF i y j) jJ q (o6 _) λa h'=>r a (aG.of (n:=l.length-i) ?_);have s:((ints k l).drop (i*1)).take ((l.length-i)*1)=ints k (l.drop i):=by
  rw[j4 Ξ,U4,ints,<-List.map_drop]
 rw[s]at h';exact h'
theorem Jp{b i:Nat}(j:y=(i:Int))(p:P.underlying t=σ (.slice e))(hi:aQ P e 1 b z)(h:aG k w v l)(q:i<=l.length)(r:∀a,aG k w a (l.take i)->K a):V P (U1 t v ν (σ (.int f y)) ν) w K:=by
 refine sj p hi h jI (nG i y j) (X8 _) q λa h'=>r a (aG.of (n:=i) ?_);have s:((ints k l).drop (0*1)).take ((i-0)*1)=ints k (l.take i):=by
  simp[ints,List.map_take]
 rw[s]at h';exact h'
theorem vp{b:Nat}{parts:Array (Nat×x3)}{K:x3->x4->Prop}(a:P.underlying t=σ (.slice e))(hi:aQ P e 1 b (Δ 0))(x:n<=100000)(f:l.length=n)(h:Instr.fill (λj=>σ (j*1,1)) ((Array.range (n*1)).map ((if n*1=0 then#[]else(V8 .i64 0).cells)[·% (if n*1=0 then#[]else(V8 .i64 0).cells).size]!)) parts.toList=σ (ints .i64 l).toArray)(p:∀v g w',g=w.heap.size->Ext w w'->au .i64 e w' g v l->K v w'):aB P (Y8 t n parts) w K:=
 jK a hi Ω h λg w' q r s=>p _ g w' q r (au.of (n:=n) (bX.full (by simpa using s) (by simp[f]) (by simp[maxLen];omega)))
end
section
variable{P:V1}{w:x4}
theorem Jq{h p:r9}{q kn:n9}{b k cap:Nat}{base:Option Addr}{K:x3->x4->Prop}(x:y=(k:Int))(A:P.underlying t=σ (.slice e))(B:P.underlying h=σ (.int kn))(hi:aQ P e 1 b z)(C:z.cells= #[z])(I:cd w 1 (.slice base n cap) n xs)(E:0<k)(r:cap<n+k)(F:(n+k)*b<=140737488355328)(G:n+k<=9223372036854775807)(H:∀v g w',g=w.heap.size->Ext w w'->bX w' g e 1 v (n+k) (xs++o5 k z)->K v w'):aB P (Z3 #[t,h] p #[.slice base n cap,.int q y]) w K:=by
 subst x;obtain⟨i,hi,J,rfl,L⟩:=hi;obtain⟨f,W,o,X,Y,he,M,Z,N,O⟩:=I;cases he;have Q:(Z5.firstCells i.size n (.slice base n cap)).run P w.drew= .ok xs.toArray w.drew:=by
  rcases Q5 n with rfl|R
  .have:xs=[]:=c9 (by simpa using f);subst this;cases base with
   |none=>exact run_firstCells_none w.drew i.size 0 0 cap
   |some a=>exact run_firstCells_some w.drew i.size 0 a 0 cap [] Ξ Ξ
  .have:=N R;subst this;refine run_firstCells_some w.drew i.size n _ n cap xs (by rw[J];exact f) λj u hu=>?_;rw[T7];exact O j u hu
 have S:k*i.bytes<=281474976710656:=by
  have:k*i.bytes<=(n+k)*i.bytes:=X0 _ Ω;omega
 have T:=Lib.run_append_grow_zeros (P:=P) w t h p e i z q kn A B hi L base n cap xs Q k E Ω r Ω S (growslice_fits r F);have U:n+k<=grownCap w (n+k) cap e:=grownCap_ge w _ _ _;have V:grownCap w (n+k) cap e<=maxLen:=grownCap_le_maxLen w (n+k) cap e (by simpa[maxLen]using G);have s:∀m,Z5.zeroCells z.cells m=(o5 m z).toArray:=λm=>by
  rw[C];apply Array.ext
  .simp[size_zeroCells]
  .intro j h1 M;simp[Z5.zeroCells,Nat.mod_one]
 refine .of T ((pK w _ (Nat.le_succ _)).trans (pM _ _)) (H _ w.heap.size _ rfl ((rr w _).trans (pL _ _)) ⟨by simp at f;simp[f],.inr ⟨_,xs++o5 k z++o5 (grownCap w (n+k) cap e-(n+k)) z,rfl,?_,U,V,?_,?_⟩⟩)
 .rw[s,s];have:=heap_alloc_new w.drew (.cells (xs.toArray++(o5 k z).toArray++(o5 (grownCap w (n+k) cap e-(n+k)) z).toArray) e);rw[List.append_toArray,List.append_toArray]at this ⊢;exact this
 .simp at f;simp[f];omega
 .simp at f;rw[List.take_append_of_le_length (by simp[f]),j4 (by simp[f])]
theorem z8{a:r9}{base:Option Addr}(f:P.underlying t=σ (.slice e)):
  V P (Z5.cap_ #[t] a #[.slice base n c]) w K=K (Δ c):=V.of λw' _=>by simp[Z5.cap_,run_underlying f,goInt]
theorem Jr{g o k:Nat}(h:ac w g e cs)(hk:o+k<=cs.length)(f:k<=c)(p:c<=maxLen):cd w 1 (.slice (σ ⟨g,o,ν⟩) k c) k ((cs.drop o).take k):=by
 refine⟨Θ,g,o,_,c,rfl,f,p,λ_=>rfl,λj v a=>?_⟩;have q:=(x5.1 a).1;simp at q;rw[Y0 Ω,S5]at a;exact h.cell a
theorem Aa{h p:r9}{q g o cap:Nat}{K:x3->x4->Prop}(s:P.underlying t=σ (.slice e))(hi:aQ P e 1 q z)(x:z.cells= #[z])(h1:z.oneCell'=true)(a:ac w g p cs)(y:0<n)(F:o+n<=cs.length)(A:∀w',ae (λr=>r=g) w w'->w'.heap.size=w.heap.size->ac w' g p (over cs o (o5 n z))->K (.tuple #[]) w'):aB P (Z5.clear_ #[t] h #[.slice (σ ⟨g,o,ν⟩) n cap]) w K:=by
 obtain⟨i,hi,G,rfl,B⟩:=hi;have C:=Lib.run_clear_slice (P:=P) w t e h z s (λw=>by simp[zeroValue,typeInfo,hi,B]) x h1 g o n cap y
  (λj H=>by rw[a.cell (x7 (show o+j<cs.length by omega))];rfl) (λj _=>a.frozen _ _)
 obtain⟨E,f⟩:=nI (o5 n z) cs o w a;exact .of C (f.cr a) (A _ f.aa f.size E)
end
section
variable{P:V1}{w:x4}
theorem h0{a:r9}{i b g:Nat}(j:y=(i:Int))(p:P.underlying t=σ (.slice e))(hi:aQ P e 1 b z)(h:au k a w g v l)(q:i<l.length):V P (j9 t v (.int f y)) w K=K (.pointer (σ ⟨g,i,ν⟩)):=by
 subst j;obtain⟨_,⟨_,r⟩|⟨cap,cs,rfl,_⟩⟩:=h
 .omega
 .rw[eK p hi q (λ_=>rfl)];simp
theorem qf{i b:Nat}{x:Int}(j:y=(i:Int))(p:P.underlying t=σ (.slice e))(hi:aQ P e 1 b z)(h:aG k w v l)(a:l[i]?=σ x)(q:∀b o,w.cell? ⟨b,o,ν⟩=σ (.int k x)->K (.pointer (σ ⟨b,o,ν⟩))):V P (j9 t v (.int f y)) w K:=by
 subst j;have r:=(x5.1 a).1;obtain⟨_,_,_,_,_,rfl,_,_,s,A⟩:=h;rw[eK p hi r s,U4];exact q _ _ (A i _ (k1 a))
theorem h2{a:r9}{i b g:Nat}{x:Int}{K:Unit->x4->Prop}(hi:aQ P e 1 b z)(h:au k a w g v l)(E:i<l.length)(p:∀w',ae (λr=>r=g) w w'->w'.heap.size=w.heap.size->au k a w' g v (l.set i x)->K () w'):aB P (o9 e (.pointer (σ ⟨g,i,ν⟩)) (.int k x)) w K:=by
 obtain⟨F,⟨_,G⟩|⟨cap,full,rfl,q,s,y,f,j⟩⟩:=h
 .omega
 .have A:i<full.length:=by simp at f;omega
  refine bp hi rfl rfl q A λw' B I C=>p w' B I ⟨Ξ,.inr ⟨cap,full.set i (.int k x),Ξ,C,by simpa using s,y,by simpa using f,?_⟩⟩;simp only[Z9,U4]at j ⊢;rw[List.take_set,j,ints,ints,U8]
theorem l3{b o:Nat}(a:jH P t=true)(h:w.cell? ⟨b,o,ν⟩=σ v):bZ P (u5 t (.pointer (σ ⟨b,o,ν⟩))) v w:=λw' e=>by
 have h':=iM e h;unfold jH at a;cases hu:P.underlying t with
 |none=>rw[hu]at a;cases a
 |some d=>
  rw[hu]at a;cases d<;>first|(cases a;done)|simp[u5,Instr.sureAddr,loadVar,isAgg,run_underlying hu,h']
theorem h3{S:af}(h:aG k w v l)(p:ae S w w')(q:∀r,S r->∀a n c,v= .slice (σ a) n c->a.block≠r):aG k w' v l:=by
 obtain⟨h1,b,o,base,cap,rfl,s,x,e,y⟩:=h;refine⟨h1,b,o,base,cap,rfl,s,x,e,?_⟩;rcases Q5 l.length with f|f
 .intro j u hu;have:=(x5.1 hu).1;simp at this;omega
 .have z:=e f;subst z;exact hA p (λh=>q _ h _ _ _ rfl rfl) y
end
end Go.Vc
namespace Go.Vc
open Go Go.RowKit Go.ChangeShapes Go.WideShapes
structure mJ(P:V1)(t:r9)(α:Type)[al α](G:α->Prop):Prop where
 op:∀{H:Type}{enc:r9×x3->H}{w:x4}{base:Nat}{spare:Nat->Bool}{held:Bool}{fuel:Nat}{cs:List x3}{x:DataW H×List MemPlace},
  DataW.trod enc P w base spare held fuel t cs=σ x->∃a:α,Seen fc w cs a/\G a
section
variable{P:V1}{α β:Type}[al α][al β]
theorem Ab{n:Int}(h:(Lit.int k n).wf=true):k.min<=n/\n<=k.max:=by simpa[Lit.wf]using h
theorem Js(a:P.underlying t=σ (.int k)):mJ P t (l1 k) λn=>k.min<=n.val/\n.val<=k.max:=⟨λh=>by
 obtain⟨n,rfl,_,hw⟩:=DataW.trod_int a h;exact⟨(n:Int),rfl,Ab hw⟩⟩
theorem sk(a:P.underlying t=σ (.int .i64)):mJ P t Int λn=>X9.min<=n/\n<=X9.max:=⟨λh=>by
 obtain⟨n,rfl,_,hw⟩:=DataW.trod_int a h;exact⟨n,rfl,Ab hw⟩⟩
theorem Jt(a:Addr)(m n:Nat):(a.add m).add n=a.add (m+n):=by
 unfold Addr.add;by_cases hm:m=0<;>by_cases e:n=0<;>simp[hm,e,R7]
theorem Ju{base:Nat}{a:Addr}(h:w.cells? base a n=σ cs):cs.length=n/\∀j v,cs[j]?=σ v->w.cell? (a.add j)=σ v:=by
 unfold x4.cells? at h;split at h
 .have f:cs.length=n:=by
   have:=mapM_some_length h;simpa using this
  refine⟨f,λj v e=>?_⟩;have p:=(x5.1 e).1;have:=mapM_some_get h j j (List.getElem?_range Ω);rw[this,e]
 .cases h
theorem Jv{G:α->Prop}(M:P.underlying t=σ (.slice e))(he:mJ P e α G)(N:P.cellsOf e=al.n α)(V:0<al.n α):mJ P t (List α) λl=>∀a∈l,G a:=by
 constructor;intro H enc w base spare held fuel cs x h;rcases DataW.trod_slice M h with⟨rfl,_⟩|⟨a,len,cap,W,rest,n,_,rfl,rfl,X,Y,hm,Z,O,_,_⟩
 .exact⟨[],fU,λ_ h=>by cases h⟩
 .
  have K:∀i,i<len->∃(c:List x3)(y:α),c.length=al.n α/\(∀j v,c[j]?=σ v->w.cell? (a.add (i*al.n α+j))=σ v)/\Seen fc w c y/\G y:=by
   intro i hi;have h1:=O i hi;rw[x7 Ω,N,Option.bind_eq_some_iff]at h1;obtain⟨c,r,s⟩:=h1;obtain⟨B,C⟩:=Ju r;obtain⟨y,E,Q⟩:=he.op s;exact⟨c,y,B,λj v q=>by have:=C j v q;rwa [Jt]at this,E,Q⟩
  have all:∀m,m<=len->∃(vs:List (List x3))(l:List α),vs.length=m/\l.length=m/\(∀c∈vs,c.length=al.n α)/\(∀(j:Nat)(v:x3),vs.flatten[j]?=σ v->w.cell? (a.add j)=σ v)/\
    (∀(i:Nat)(c:List x3)(y:α),vs[i]?=σ c->l[i]?=σ y->Seen fc w c y)/\∀y∈l,G y:=by
   intro m;induction m with
   |zero=>exact λ_=>⟨[],[],rfl,rfl,(λ_ h=>by cases h),(λj v h=>by simp at h),(λi c y h=>by simp at h),(λ_ h=>by cases h)⟩
   |succ m R=>
    intro hm;obtain⟨vs,l,h1,r,s,B,C,E⟩:=R Ω;obtain⟨c,y,g1,F,S,T⟩:=K m Ω;refine⟨vs++[c],l++[y],by simp[h1],by simp[r],λd f=>?_,λj v q=>?_,λi d z f p=>?_,λz p=>?_⟩
    .rcases j0.1 f with f|f
     .exact s d f
     .simp at f;subst f;exact g1
    .have A:=ko s;rw[h1]at A;rw[List.flatten_append]at q;by_cases U:j<m*al.n α
     .rw[Y3 Ω]at q;exact B j v q
     .rw[Y5 Ω,A]at q;simp at q;have:=F _ v q;rwa [show m*al.n α+(j-m*al.n α)=j by omega]at this
    .by_cases hi:i<m
     .rw[Y3 Ω]at f p;exact C i d z f p
     .have I:=(x5.1 f).1;simp[h1]at I;have I:i=m:=Ω
      subst I;rw[Y5 Ω,h1]at f;rw[Y5 Ω,r]at p;simp at f p;subst f p;exact S
    .rcases j0.1 p with p|p
     .exact E z p
     .simp at p;subst p;exact T
  obtain⟨vs,l,h1,r,s,B,C,E⟩:=all len (o6 _);have A:=ko s;rw[h1]at A;have L:0<len->a=⟨a.block,a.off,ν⟩:=λJ=>by
   obtain⟨c,y,g1,F,_⟩:=K 0 Ω;have:=F 0 c[0] (x7 Ω);rw[Nat.zero_mul]at this;exact vg this
  refine⟨l,⟨_,rfl,vs,0,λ_ _=>False,⟨λ_ _ h=>h.elim,(λh=>by cases h),(λh=>by cases h)⟩,⟨Ω,C⟩,⟨by rw[A,r],a.block,a.off,σ a,cap,by rw[r],Ω,hm,λJ=>congrArg σ (L Ω),λ_=>.inr trivial,λj v q=>?_⟩,λh=>by cases h⟩,E⟩;have:=B j v q;have U:=(x5.1 q).1;have J:0<len:=by
   rcases Q5 len with h|h
   .rw[h,Nat.zero_mul]at A;omega
   .exact h
  rw[L J,T7]at this;exact this
structure sm(P:V1)(fs:List Field)(off:Nat)(α:Type)[al α](G:α->Prop):Prop where
 op:∀{H:Type}{enc:r9×x3->H}{w:x4}{base:Nat}{spare:Nat->Bool}{held:Bool}{n:Nat}{cs:List x3},cs.length=off+al.n α->
  (∀f∈fs,∃x,DataW.trod enc P w base spare held n f.type ((cs.drop f.offset).take (P.cellsOf f.type))=σ x)->∃a:α,Seen fc w (cs.drop off) a/\G a
theorem Jw{f:Field}{G:α->Prop}(h:mJ P f.type α G)(e:f.offset=off)(j:P.cellsOf f.type=al.n α):sm P [f] off α G:=by
 constructor;intro H enc w base spare held n cs s p;obtain⟨x,q⟩:=p f (.head _);obtain⟨a,h1,r⟩:=h.op q;rw[e,j,j4 Θ]at h1;exact⟨a,h1,r⟩
theorem sn{f:Field}{e:List Field}{G:α->Prop}{j:β->Prop}(h:mJ P f.type α G)(r:f.offset=off)(s:P.cellsOf f.type=al.n α)(y:sm P e (off+al.n α) β j):
  sm P (f::e) off (α×β) λp=>G p.1/\j p.2:=by
 constructor;intro H enc w base spare held n cs F q;obtain⟨x,z⟩:=q f (.head _);obtain⟨a,h1,A⟩:=h.op z;rw[r,s]at h1;have I:al.n (α×β)=al.n α+al.n β:=rfl;obtain⟨b,B,C⟩:=y.op Ω λg E=>q g (.tail _ E);refine⟨(a,b),⟨(cs.drop off).take (al.n α),cs.drop (off+al.n α),λ_=>False,λ_=>False,?_,λ_ h=>h,λ_ h=>h,(λh=>by cases h),h1,B⟩,A,C⟩;rw[<-List.drop_drop,List.take_append_drop]
theorem Jx{a:List Field}{G:α->Prop}(e:P.underlying t=σ (.struct a.toArray))(j:sm P a 0 α G)(y:P.cellsOf t=al.n α):mJ P t α G:=by
 constructor;intro H enc w base spare held fuel cs x h;obtain⟨xs,n,_,rfl,z,p,q⟩:=DataW.trod_struct e h;have:=j.op (enc:=enc) (w:=w) (base:=base) (spare:=spare) (held:=held) (n:=n) (cs:=cs) Ω λf r=>by
  obtain⟨i,hi,rfl⟩:=List.mem_iff_getElem.1 r;have s:i<xs.length:=by simpa[p]using hi
  have:=q i a[i] (by simp[hi]);rw[x7 s]at this;exact⟨_,this⟩
 simpa using this
end
end Go.Vc
namespace Go.Vc
open Go Go.RowKit
set_option maxRecDepth 100000
theorem Jy:(⟨#[]⟩:ByteArray)=strOfNums []:=rfl
theorem Ac{ax:x3->x3->x3->x4->Prop}{B:(x3->x3->x3->x4->Prop)->Prop}(G:x3->x3->x3->x4->Prop)(h1:∀t u v w,G t u v w->ax t u v w)(e:∀a:x3->x3->x3->x4->Prop,(∀t u v w,G t u v w->a t u v w)->B a):ct ax B:=e ax h1
theorem Ad{ax:x3->x3->x3->x3->x4->Prop}{B:(x3->x3->x3->x3->x4->Prop)->Prop}(G:x3->x3->x3->x3->x4->Prop)(h1:∀s t u v w,G s t u v w->ax s t u v w)(e:∀a:x3->x3->x3->x3->x4->Prop,(∀s t u v w,G s t u v w->a s t u v w)->B a):ct ax B:=e ax h1
abbrev bT(l:Λ):x3:=.string (strOfNums l)
def Bytes(l:Λ):Prop:=∀b∈l,0<=b/\b<256
theorem mK(l:Λ):(strOfNums l).size=l.length:=strOfNums_size l
theorem Jz(h:Bytes l){i:Nat}{b:Int}(hi:l[i]?=σ b):(strOfNums l)[i]?=σ (UInt8.ofNat b.toNat)/\((UInt8.ofNat b.toNat).toNat:Int)=b:=by
 have f:=h b (x6 hi);have e:=x5.1 hi;refine⟨?_,by rw[UInt8.toNat_ofNat'];omega⟩;have I:i<(strOfNums l).size:=by rw[mK];exact e.1
 rw[getElem?_pos (strOfNums l) i I];congr 1;show(strOfNums l).data[i]=_;have a:(strOfNums l).data.toList[i]?=σ (UInt8.ofNat b.toNat):=by rw[strOfNums_data,v8,hi];rfl
 rw[R3]at a;exact(j5.1 a).2
theorem str_inj{a b:Λ}(e:Bytes a)(f:Bytes b)(h:strOfNums a=strOfNums b):a=b:=by
 have h1:(strOfNums a).data.toList=(strOfNums b).data.toList:=by rw[h]
 rw[strOfNums_data,strOfNums_data]at h1;have key:∀{l:Λ},Bytes l->(l.map λn=>UInt8.ofNat n.toNat).map (λu=>((u.toNat:Nat):Int))=l:=λ{l}j=>by
  rw[R6]
  conv=>rhs;rw[<-List.map_id l]
  refine List.map_congr_left λx p=>?_;have:=j x p;show(((UInt8.ofNat x.toNat).toNat:Nat):Int)=x;rw[UInt8.toNat_ofNat'];omega
 rw[<-key e,<-key f,h1]
theorem JA(a b:Λ):strOfNums a++strOfNums b=strOfNums (a++b):=by
 apply ByteArray.ext;rw[ByteArray.data_append];simp[strOfNums]
theorem JB(l:Λ)(i j:Nat):(strOfNums l).extract i j=strOfNums ((l.take j).drop i):=by
 apply ByteArray.ext;rw[ByteArray.data_extract];apply Array.toList_inj.1;rw[Array.toList_extract];simp[strOfNums,List.extract_eq_take_drop,List.map_drop,List.map_take,List.drop_take]
theorem Ae(l:Λ):(strOfNums l).toList=l.map λn=>UInt8.ofNat n.toNat:=by
 rw[ByteArray.toList_eq];exact strOfNums_data l
theorem Af{a b:Λ}(e:Bytes a)(f:Bytes b):((strOfNums a).toList == (strOfNums b).toList)=decide (a=b):=by
 rw[V7,beq_iff_eq,decide_eq_true_eq,Ae,Ae];refine⟨λh=>str_inj e f ?_,λh=>by rw[h]⟩;unfold strOfNums;rw[h]
section
variable{P:V1}{w:x4}
theorem nP{a:r9}(e:P.underlying t=σ .string):V P (W9 #[t] a #[bT l]) w K=K (Δ l.length):=V.of λw' _=>by
 simp[W9,run_underlying e,goInt,mK]
theorem qg{b:Int}{i:Nat}(a:y=(i:Int))(f:P.underlying t=σ .string)(h:Bytes l)(hi:l[i]?=σ b):V P (Instr.index t (bT l) (.int k y)) w K=K (.int .u8 b):=V.of λw' _=>by
 subst a;obtain⟨h1,j⟩:=Jz h hi;have e:(0:Int)<=(i:Int):=Ω
 simp only[Instr.index,asIntOf,W8,V6,V0,run_underlying f];rw[if_pos e,r8,h1];simp only[V6,j]
theorem vq{a b:Λ}(h:a.length+b.length<=9223372036854775807):V P (aJ .add t cx cy (bT a) (bT b)) w K=K (bT (a++b)):=V.of λw' _=>by
 have:=run_string_add_sum (P:=P) (w:=w') (strOfNums a) (strOfNums b) (by rw[mK,mK];exact h);simp only[aJ,eqGuard,binOp];simp[this,JA]
theorem Ag{a b:Λ}(e:Bytes a)(f:Bytes b):V P (aJ .eql t cx cy (bT a) (bT b)) w K=K (.bool (decide (a=b))):=V.of λw' _=>by
 simp[aJ,eqGuard,binOp,Op.stringOp,Af e f]
theorem JC{a b:Λ}(e:Bytes a)(f:Bytes b):V P (aJ .neq t cx cy (bT a) (bT b)) w K=K (.bool (decide (a≠b))):=V.of λw' _=>by
 simp[aJ,eqGuard,binOp,Op.stringOp,Af e f]
theorem Ah{i:Nat}(a:y=(i:Int))(f:P.underlying t=σ .string)(hi:i<=l.length):V P (U1 t (bT l) (σ (.int k y)) ν ν) w K=K (bT (l.drop i)):=V.of λw' _=>by
 have j:=r7 (P:=P) w' (sl:=false) (n:=(strOfNums l).size) (c:=(strOfNums l).size) (low:=σ (.int k y)) (high:=ν) (mx:=ν) (l:=i) (h:=(strOfNums l).size) (m:=(strOfNums l).size) (nF i y a) jJ fG (by rw[mK];exact hi) (o6 _) (o6 _);have e:(strOfNums l).extract i (strOfNums l).size=strOfNums (l.drop i):=by rw[JB,mK,o8]
 simp[U1,Instr.slice,run_underlying f,j,e]
theorem vr{s:r9}(I:P.underlying s=σ (.slice e))(he:P.underlying e=σ (.int .u8))(f:P.underlying t=σ .string)(h:aG .u8 w v l):V P (convert s t v) w K=K (bT l):=V.of λw' r=>by
 obtain⟨p,b,o,base,cap,rfl,_,_,x,y⟩:=h.ext r;have p:l.length=l.length*1:=by simpa using p
 by_cases z:0<l.length
 .rw[x z];refine run_convert_bytes_arg w' s e I he b o l.length cap l rfl (λi hi=>?_) t f;have q:l[i]?=σ l[i]:=x7 hi;rw[u4,q];exact y i _ (k1 q)
 .have A:l=[]:=c9 Ω;subst A;cases base with
  |none=>
   rw[run_convert_bytes_nil w' s e I he _ _ t f];rfl
  |some a=>
   rw[run_convert_bytes_string w' s t e _ _ _ I he f];have:=run_bytesToString (P:=P) w' a 0 cap [] (by have:=run_loadCells_list (P:=P) w' a [] (λj v B=>by simp at B);simpa using this);simp only[List.length_nil];rw[this];rfl
theorem vt{s:r9}{u:TypeDesc}{K:x3->x4->Prop}(I:P.underlying s=σ u)(y:P.underlying t=σ (.slice e))(he:P.underlying e=σ (.int .u8))(z:Bytes l)(hm:l.length<=1000000000)(A:∀v w',Ext w w'->aG .u8 w' v l->(∀r,(∃a n c,v= .slice (σ a) n c/\a.block=r)->w.heap.size<=r)->K v w'):aB P (convert s t (bT l)) w K:=by
 have B:=Lib.bytesWorld_at_new w e (strOfNums l);have q:=λj f=>Lib.bytesWorld_at_old w e (strOfNums l) j f;have C:=Lib.bytesWorld_size w e (strOfNums l);refine .of (Lib.run_convert_string_bytes w s t e (strOfNums l) I y he) ⟨rfl,⟨rfl,Nat.le_succ _⟩,rfl,Ω,λr o h _=>?_⟩ (A _ _ ⟨Ω,λr o h _=>?_⟩ ?_ ?_)
 .rw[q r (j5.1 h).1];exact h
 .rw[q r (j5.1 h).1];exact h
 .rw[mK];refine⟨Ξ,w.heap.size,0,_,_,rfl,?_,?_,λ_=>rfl,λj v p=>?_⟩
  .exact grownCap_ge w _ _ _
  .exact grownCap_le_maxLen w _ _ _ (by simp[maxLen];omega)
  .have f:j<l.length:=by have:=(x5.1 p).1;simpa using this
   have x:l[j]?=σ l[j]:=x7 f;rw[X6,Lib.bytesWorld_cell w e (strOfNums l) j (by rw[mK];exact f)];rw[k1 x]at p;rw[<-Z0 p,strOfNums_data,u4,v8,x];have:=z l[j] (S4 f);simp only[Z7,V5];congr 2;rw[UInt8.toNat_ofNat'];omega
 .rintro r ⟨a,n,c,h1,rfl⟩;cases h1;exact o6 _
end
end Go.Vc
