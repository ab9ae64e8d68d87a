/- own texts, made small by a tool (wip/ holds them as they were written): no statement of the seat. -/
import Derived.RangeFuncNested
import Derived.RangeFuncLeaves
import Derived.OrdersIn
import Derived.KernelRfl
import Derived.Deep.Upon
import Derived.RangeFuncBound
import Derived.Deep.MidRow
import Derived.Laws.Cover3
import Derived.Laws.Pointers
import Derived.Laws.StructEq
import Derived.Laws.Tables
import Derived.Below
import Derived.Laws.MakeOwn
import Derived.Lib.Overlaps
import Derived.Lib.AppendZerosOnto
import Derived.Lib.SliceRun
import Derived.OpenShut
import Derived.Lib.ConvBytes
import Derived.Laws.BytesArg
import Derived.Laws.Concat
import Derived.MapKept
import Derived.Carry
import Derived.WideKeyArr
import Derived.WideKeyMaps
import Derived.Laws.IdiomRangeMap
import Derived.Shelf.SlSortCmp.NoneTotal
import Derived.Shelf.SlSortCmp.WholeK
import Derived.Ground.SlsfProg
import Derived.Ground.NamesProg
import Derived.WideKeyEntry
import Derived.WalkKit
import Derived.Shelf.Sort.AssemblyIn
import Derived.Shelf.Slices.In.SortNone
import Derived.Sort.EveryDepth
import Derived.Test.YtkcigodpbndobaaGreatDoorProg
import Derived.Test.YtkcigodpbndobaaGreatDoorChecked
set_option linter.unusedVariables false
set_option linter.unusedSimpArgs false
set_option linter.unnecessarySimpa false
open Array renaming getElem?_eq_some_iff→Z5
open BitVec renaming ofInt→U6
open Bool renaming false→rs,true→ro,not_true→Y6,not_false→X4,and_eq_true→V9,eq_iff_iff→T1
open Decidable renaming not_not→Z6
open Go renaming Value→x1,World→x3,TypeId→r9,IntKind→o5,Builtin→j9,Program→X5,Oper→U9,Operand→S0,Addr→Q0,FuncId→Q2
open Go.Addr renaming add_mid→W5
open Go.Builtin renaming append_→j6,len_→W0,zeroCells→S8
open Go.Instr renaming loadAt→u4,fieldAt→u6,storeAt→o7,indexAt→j4,extract→c8,buildSlice→Y1,sliceAt→V4,alloc→S5
open Go.IntKind renaming i64→Y7,u64→U2
open Go.Proofs.Tryz renaming prog→x7
open Go.Result renaming andThen→W3
open Go.Sem renaming run_bind→X8,run_pure→W9
open Go.Sort renaming Holds→S6
open Go.Value renaming int→X2,cells→T9
open Go.World renaming putObj_heap_other→Q3
open Int renaming toNat_natCast→u9,mul_le_mul_of_nonneg_right→V6,eq_ofNat_of_zero_le→T0,le_refl→R6
open List renaming getElem?_eq_some_iff→x4,mem_of_getElem?→x5,getElem?_eq_getElem→x6,getElem?_map→x8,getD_eq_getElem?_getD→u5,take_add_one→u7,replicate→r8,length_append→p8,length_map→o4,take_length→o6,mem_map→o8,mem_append→o9,take_of_length_le→n9,map_append→l7,ext_getElem?→j5,length_take→c7,mem_singleton→b8,eq_nil_of_length_eq_zero→Z0,range→Z2,length_cons→Y3,getElem?_set→Y4,getElem?_take_of_lt→Y5,getElem?_append_right→Y9,drop_eq_getElem_cons→X1,length_eq_one_iff→X6,getElem?_append_left→W8,append_nil→V1,map_congr_left→V2,map_set→V3,mem_range→V7,mem_of_mem_take→U1,length_set→U4,mem_cons→T5,map_map→S4,map_take→S7,set_append_right→Q1,getElem_mem→Q4
open Nat renaming le_refl→p9,le_trans→Y2,zero_le→X7,zero_add→W7,mul_one→V0,mul_le_mul_right→V5,sub_self→U5,add_mul→T7,beq→R4
open Option renaming toList_some→l9,isNone_some→j0,some→b9,map_some→Z4,map→W6
open Option.some renaming inj→Z7,injEq→Y8
open Prod.mk renaming injEq→T2
set_option maxHeartbeats 16000000
open Option renaming some→σ,none→ν
abbrev Λ:=List Int
namespace Go
theorem _root_.Eq.F{α:Sort _}{a b c:α}(h:a=b)(g:b=c):a=c:=h.trans g
theorem _root_.Iff.F{a b c:Prop}(h:a<->b)(g:b<->c):a<->c:=h.trans g
theorem _root_.List.Perm.F{α:Type _}{a b c:List α}(h:a.Perm b)(g:b.Perm c):a.Perm c:=h.trans g
set_option linter.defProp false in
def _root_.Go.Calls.X:=@Calls.mono
theorem _root_.m3{c:Prop}{h:Decidable c}(hc:c){α:Sort _}{t e:α}:ite c t e=t:=if_pos hc
theorem _root_.m5{c:Prop}{h:Decidable c}(hnc:¬c){α:Sort _}{t e:α}:ite c t e=e:=if_neg hnc
theorem _root_.m6{a b:Prop}(h:a)(g:¬a):b:=absurd h g
theorem _root_.m7{p:Prop}[Decidable p](h:p):decide p=true:=decide_eq_true h
theorem _root_.ms{p:Prop}[Decidable p](h:¬p):decide p=false:=decide_eq_false h
theorem _root_.pl{p:Prop}[Decidable p]:(decide p=true)=p:=decide_eq_true_eq
theorem _root_.rc{p:Prop}[Decidable p](h:decide p=true):p:=of_decide_eq_true h
theorem Ω{p:Prop}(h:p:=by omega):p:=h
theorem Ψ{p:Prop}(h:p:=by kernel_rfl):p:=h
theorem Φ{p:Prop}(h:p:=by decide):p:=h
theorem Ξ{p:Prop}(h:p:=by simp):p:=h
theorem Θ{p:Prop}(h:p:=by simp;omega):p:=h
abbrev Γ(n:Nat):Value:=.pointer (some ⟨n,0,none⟩)
abbrev Δ:Int→Value:=Value.int .i64
end Go
variable{a y:Int}{c cap h j n off:Nat}{I w:x3}{S:Nat->Prop}{aN s1 s2 sv v z:x1}{args cs news vs xs:List x1}{K:x1->Prop}{l szs:Λ}{D:List Nat}{f k:o5}{e t:r9}{cx cy:Bool}
namespace Go.Vc
open Go Go.RowKit
def fK:Obj->Bool
 | .loop _=>rs
 | .deferred _=>rs
 | .mapIter ..=>rs
 |_=>ro
def book:Obj->Bool
 | .loop _=>ro
 | .deferred _=>ro
 |_=>rs
theorem Am{o:Obj}(h:book o=ro):fK o=rs:=by cases o<;>first|rfl|cases h
def tN:Obj->Bool
 | .mapIter ..=>ro
 |_=>rs
theorem HM{o:Obj}(h:tN o=ro):fK o=rs:=by cases o<;>first|rfl|cases h
structure Ext(w I:x3):Prop where
 size:w.heap.size<=I.heap.size
 aZ:∀(r:Nat)(o:Obj),w.heap[r]?=σ o->fK o=ro->I.heap[r]?=σ o
theorem Ext.refl(w:x3):Ext w w:=⟨p9 _,λ_ _ h _=>h⟩
theorem Ext.F{a b c:x3}(h:Ext a b)(k:Ext b c):Ext a c:=
 ⟨Y2 h.size k.size,λr o e U=>k.aZ r o (h.aZ r o e U) U⟩
structure af(S:Nat->Prop)(w I:x3):Prop where
 size:w.heap.size<=I.heap.size
 aZ:∀(r:Nat)(o:Obj),w.heap[r]?=σ o->fK o=ro->¬S r->I.heap[r]?=σ o
theorem Ext.aa(S:Nat->Prop)(h:Ext w I):af S w I:=⟨h.size,λr o a U _=>h.aZ r o a U⟩
theorem af.W(h:af S w I)(e:∀r,r<w.heap.size->¬S r):Ext w I:=
 ⟨h.size,λr o a U=>h.aZ r o a U (e r (Z5.1 a).1)⟩
theorem af.refl(S:Nat->Prop)(w:x3):af S w w:=⟨p9 _,by grind⟩
theorem af.F{a b c:x3}(h:af S a b)(k:af S b c):af S a c:=
 ⟨Y2 h.size k.size,λr o f U e=>k.aZ r o (h.aZ r o f U e) U e⟩
theorem af.X{T:Nat->Prop}{a b:x3}(h:af S a b)(f:∀r,r<a.heap.size->S r->T r):af T a b:=
 ⟨h.size,λr o e U j=>h.aZ r o e U λp=>j (f r (Z5.1 e).1 p)⟩
theorem Ext.then{a b c:x3}(h:Ext a b)(k:af S b c)(f:∀r,r<a.heap.size->¬S r):Ext a c:=
 ⟨Y2 h.size k.size,λr o e U=>k.aZ r o (h.aZ r o e U) U (f r (Z5.1 e).1)⟩
def k5(w I:x3):Prop:=I.tape=w.tape/\w.drawn<=I.drawn
theorem k5.lK(h:I.tape=w.tape:=by rfl)(k:I.drawn=w.drawn:=by rfl):k5 w I:=⟨h,Nat.le_of_eq k.symm⟩
theorem k5.F{a b c:x3}(k:k5 b c)(h:k5 a b):k5 a c:=⟨k.1.F h.1,Y2 h.2 k.2⟩
structure cC(w I:x3):Prop where
 os:I.os=w.os
 tape:k5 w I
 output:I.output=w.output
 size:w.heap.size<=I.heap.size
 aZ:∀(r:Nat)(o:Obj),w.heap[r]?=σ o->fK o=rs->I.heap[r]?=σ o
structure cL(n:Nat)(w I:x3):Prop where
 os:I.os=w.os
 tape:k5 w I
 output:I.output=w.output
 size:w.heap.size<=I.heap.size
 aZ:∀(r:Nat)(o:Obj),w.heap[r]?=σ o->book o=ro->I.heap[r]?=σ o
 old:∀(r:Nat)(o:Obj),r<n->w.heap[r]?=σ o->fK o=rs->I.heap[r]?=σ o
theorem cC.b(h:cC w I):cL n w I:=⟨h.os,h.tape,h.output,h.size,λr o a U=>h.aZ r o a (Am U),λr o _ a U=>h.aZ r o a U⟩
theorem cL.refl(n:Nat)(w:x3):cL n w w:=⟨rfl,.lK,rfl,p9 _,λ_ _ h _=>h,by grind⟩
theorem cL.F{a b c:x3}(h:cL n a b)(k:cL n b c):cL n a c:=
 ⟨k.os.F h.os,k.tape.F h.tape,k.output.F h.output,Y2 h.size k.size,λr o e U=>k.aZ r o (h.aZ r o e U) U,λr o f e U=>k.old r o f (h.old r o f e U) U⟩
theorem cL.cD(h:cL n w I)(e:w.heap.size<=n):cC w I:=
 ⟨h.os,h.tape,h.output,h.size,λr o a U=>h.old r o (Nat.lt_of_lt_of_le (Z5.1 a).1 e) a U⟩
structure fL(n:Nat)(w I:x3):Prop where
 os:I.os=w.os
 tape:k5 w I
 output:I.output=w.output
 size:w.heap.size<=I.heap.size
 old:∀(r:Nat)(o:Obj),r<n->w.heap[r]?=σ o->fK o=rs->I.heap[r]?=σ o
theorem cL.o(h:cL n w I):fL n w I:=⟨h.os,h.tape,h.output,h.size,h.old⟩
theorem cC.o(h:cC w I):fL n w I:=⟨h.os,h.tape,h.output,h.size,λr o _ a U=>h.aZ r o a U⟩
theorem fL.X{m:Nat}(h:fL n w I)(hm:m<=n):fL m w I:=⟨h.os,h.tape,h.output,h.size,λr o a=>h.old r o (Nat.lt_of_lt_of_le a hm)⟩
theorem cL.An{m:Nat}{a b c:x3}(h:cL n a b)(k:fL m b c)(hm:a.heap.size<=m):cL n a c:=
 ⟨k.os.F h.os,k.tape.F h.tape,k.output.F h.output,Y2 h.size k.size,
  λr o e U=>k.old r o (Nat.lt_of_lt_of_le (Z5.1 e).1 hm) (h.aZ r o e U) (Am U),
  λr o f e U=>k.old r o (Nat.lt_of_lt_of_le (Z5.1 e).1 hm) (h.old r o f e U) U⟩
def fc(w I:x3):Prop:=∀(r:Nat)(o:Obj),w.heap[r]?=σ o->tN o=ro->I.heap[r]?=σ o
theorem fc.refl(w:x3):fc w w:=λ_ _ h _=>h
theorem fc.F{a b c:x3}(h:fc a b)(k:fc b c):fc a c:=λr o e U=>k r o (h r o e U) U
theorem cC.lL(h:cC w I):fc w I:=λr o a U=>h.aZ r o a (HM U)
abbrev fM:=Bool×Nat
theorem cC.refl(w:x3):cC w w:=⟨rfl,.lK,rfl,p9 _,λ_ _ h _=>h⟩
theorem cC.F{a b c:x3}(h:cC a b)(k:cC b c):cC a c:=
 ⟨k.os.F h.os,k.tape.F h.tape,k.output.F h.output,Y2 h.size k.size,λr o e U=>k.aZ r o (h.aZ r o e U) U⟩
theorem r3(w:x3)(n:Nat):Ext w {w with drawn:=n}:=⟨p9 _,λ_ _ h _=>h⟩
theorem qG(w:x3)(n:Nat)(h:w.drawn<=n):cC w {w with drawn:=n}:=⟨rfl,⟨rfl,h⟩,rfl,p9 _,λ_ _ h _=>h⟩
theorem qH(w:x3)(o:Obj):Ext w {w with heap:=w.heap.push o}:=
 ⟨Ξ,λr o' h _=>by
  grind⟩
theorem qI(w:x3)(o:Obj):cC w {w with heap:=w.heap.push o}:=
 ⟨rfl,.lK,rfl,Ξ,λr o' h _=>by
  grind⟩
inductive eM where
 |v (x:x1)
 |b (c:Bool)
 |u
def eM.val:eM->x1
 | .v x=>x
 | .b c=>.bool c
 | .u=>undef
def eM.ofConst:x1->eM
 | .bool c=>.b c
 |x=>.v x
theorem eM.HN(x:x1):(eM.ofConst x).val=x:=by cases x<;>rfl
abbrev Env:=List (Nat×eM)
def look:Env->Nat->Option eM
 |[],_=>ν
 |(s,x)::r,t=>bif R4 s t then σ x else look r t
def eZ(e:Env):S0->Option eM
 | .tmp t=>look e t
 | .const x=>σ (eM.ofConst x)
 | .global g=>σ (.v (Γ g))
 | .func f=>σ (.v (.func (.func f) #[] #[]))
def c6(e:Env)(x:S0):x1:=
 match eZ e x with
 |some y=>y.val
 |none=>undef
def known(e:Env):List S0->Bool
 |[]=>ro
 |x::r=>(eZ e x).isSome&&known e r
def S6(N:Nat)(e:Env)(a:Act):Prop:=
 a.tmps.size=N/\∀t x,look e t=σ x->a.tmps.getD t undef=x.val
theorem S6.eZ{N:Nat}{e:Env}{a:Act}(h:S6 N e a){x:S0}{y:eM}(j:Vc.eZ e x=σ y):a.eval x=y.val:=by
 cases x with
 |tmp t=>exact h.2 t y j
 |const v=>simp[Vc.eZ]at j;subst j;simp[Act.eval,eM.HN]
 |global g=>simp[Vc.eZ]at j;subst j;rfl
 |func f=>simp[Vc.eZ]at j;subst j;rfl
theorem S6.eval{N:Nat}{e:Env}{a:Act}(h:S6 N e a){x:S0}(j:(Vc.eZ e x).isSome=ro):a.eval x=c6 e x:=by
 obtain⟨y,f⟩:=Option.isSome_iff_exists.1 j;rw[h.eZ f];simp[c6,f]
theorem Ao{e:Env}:∀{l:List S0},known e l=ro->∀x∈l,(eZ e x).isSome=ro
 :=by
 intro a;induction a<;>grind [known]
def eh(e:Env)(d:Option Tmp)(x:eM):Env:=
 match d with
 |some t=>(t,x)::e
 |none=>e
def k6(N:Nat)(d:Option Tmp):Bool:=
 match d with
 |some t=>Nat.blt t N
 |none=>ro
theorem S6.put{N:Nat}{e:Env}{a:Act}(h:S6 N e a){d:Option Tmp}(r:k6 N d=ro){x:eM}(p:x.val=v):
  S6 N (eh e d x) (a.put d v):=by
 cases d with
 |none=>exact h
 |some t=>
  have q:t<N:=by grind [k6,Nat.blt_eq]
  refine⟨by simp[Act.put,h.1],λs y U=>?_⟩;simp only[eh,look]at U;cases f:R4 t s with
  |true=>
   have j:=Nat.eq_of_beq_eq_true f;subst j;simp only[f,cond_true,Y8]at U;subst U;simp[Act.put,h.1,q,p]
  |false=>
   have j:=Nat.ne_of_beq_eq_false f;simp only[f,cond_false]at U;have:=h.2 s y U;simp only[Act.put,Array.getD_eq_getD_getElem?]at this ⊢
   grind
def eN(r:Option Nat):Fence:={Fence.wide with round:=r}
theorem wR(r:Option Nat)(n:Nat):(eN r).depth.isSome=ro->1<=n:=by grind [eN,Fence.wide]
theorem Ap{r:Option Nat}{P:X5}{f:Q2}{args:Array x1}{R:Ending->x3->Prop}(h:Calls P f args w R):CallsIn (eN r) n P f args w R:=by
 have:=(callsIn_wide (n:=n)).2 h;exact this
section
variable(P:X5)
def aC{α:Type}(s:Sem α)(w:x3)(K:α->x3->Prop):Prop:=∃v I,s.run P w= .ok v I/\cC w I/\K v I
def tO{α:Type}(free:fM)(s:Sem α)(w:x3)(K:α->x3->Prop):Prop:=∃v I,s.run P w= .ok v I/\(free.1=rs->cL free.2 w I)/\K v I
def Split(x:x1)(A B:Prop):Prop:=∃c,x= .bool c/\(c=ro->A)/\(c=rs->B)
def a1:Bool->S0
 |true=>.const (.bool ro)
 |false=>.tmp 0
def qJ:S0->Bool
 | .const _=>ro
 |_=>rs
theorem HO(op:BinOp)(t:r9)(x y:S0)(a b:x1):eqGuard op t x y a b=eqGuard op t (a1 (qJ x)) (a1 (qJ y)) a b:=by
 cases x<;>cases y<;>rfl
def aO(op:BinOp)(t:r9)(cx cy:Bool)(a b:x1):Sem x1:=do eqGuard op t (a1 cx) (a1 cy) a b;binOp op t a b
def tP(s:Sem Next):Sem x1:=do
 match <-s with
 | .value v=>pure v
 |_=>stuck "no value"
def bQ(x:x1):Sem x1:=tP (execOp (λ_=>x) {dst:=ν,op:=.nilCheck (.tmp 0),type:=0,pos:= "",after:=#[],guard:=ν})
def bO(a:S0->x1):List S0->List x1
 |[]=>[]
 |x::r=>a x::bO a r
theorem tQ(a:S0->x1):∀l,bO a l=l.map a
 |[]=>rfl
 |x::r=>by simp[bO,tQ a r]
theorem wS(a:S0->x1)(l:Array S0):(bO a l.toList).toArray=l.map a:=by
 grind [tQ]
def partsOf(a:S0->x1):List (Nat×S0)->List (Nat×x1)
 |[]=>[]
 |x::r=>(x.1,a x.2)::partsOf a r
theorem Aq(a:S0->x1):∀l,partsOf a l=l.map λ(i,x)=>(i,a x)
 |[]=>rfl
 |x::r=>by simp[partsOf,Aq a r]
theorem HP(a:S0->x1)(l:Array (Nat×S0)):(partsOf a l.toList).toArray=l.map λ(i,x)=>(i,a x):=by
 grind [Aq]
def opsOf:Op->List S0
 | .alloc _| .ready _| .waits _=>[]
 | .move x| .assign x| .box _ x| .load _ x| .nilCheck x| .unOp _ _ x| .convert _ _ x| .sliceToArrayPointer _ x| .makeInterface _ x
 | .makeChan _ x| .fieldAddr _ x _| .field _ x _| .range _ x| .next x _| .entry x| .typeAssert x _ _ _| .extract x _| .panic x| .recv _ x _=>[x]
 | .pick c a b=>[c,a,b]
 | .build _ e| .buildSlice _ _ e=>e.toList.map (·.2)
 | .store _ a v| .binOp _ _ a v _| .makeSlice _ a v| .indexAddr _ a v| .index _ a v| .lookup _ a v _| .mapEntry _ a v| .send a v=>[a,v]
 | .makeFunc _ first j=>first.toList++j.toList
 | .makeMap _ r=>match r with
  |some x=>[x]
  |none=>[]
 | .slice _ x l h m=>x::((match l with
  |some y=>[y]
  |none=>[])++((match h with
  |some y=>[y]
  |none=>[])++(match m with
  |some y=>[y]
  |none=>[])))
 | .mapUpdate _ m k v| .entryStore _ m k v| .insert _ m k v=>[m,k,v]
 | .call c=>match c.callee with
  | .value f=>f::c.args.toList
  | .invoke r _=>r::c.args.toList
  | .builtin _=>c.args.toList
 | .go _| .defer _| .select ..=>[]
theorem HQ{op:Op}(h1:∀c,op≠ .go c)(e:∀c,op≠ .defer c)(f:∀cs b,op≠ .select cs b):∀x∈op.operands,x∈opsOf op:=by
 intro x a;cases op<;>simp only[Op.operands,opsOf]at a ⊢<;>try (first|(simp at a;done)|(simp at a ⊢;exact a))
 all_goals grind [Call.operands]
def r4(e:S0->x1):Op->Option (Sem x1)
 | .pick c a b=>σ (do pure (if <-asBool (e c)then e a else e b))
 | .alloc j=>σ (S5 j ro (.tuple #[]))
 | .box j x=>σ (Instr.box j (e x))
 | .build t parts=>σ (Instr.build t (partsOf e parts.toList).toArray)
 | .buildSlice t len parts=>σ (Y1 t len (partsOf e parts.toList).toArray)
 | .load t a=>σ (u4 t (e a))
 | .nilCheck x=>σ (bQ (e x))
 | .binOp op jx x y _=>σ (aO op jx (qJ x) (qJ y) (e x) (e y))
 | .unOp op _ x=>σ (Op.unary op (e x))
 | .convert src dst x=>σ (convert src dst (e x))
 | .makeInterface jx x=>σ (Instr.makeInterface jx (e x))
 | .makeFunc fn first p=>σ (Instr.makeFunc fn (bO e first.toList).toArray (bO e p.toList).toArray)
 | .makeMap t r=>σ (Instr.makeMap t (r.map e))
 | .makeSlice t l c=>σ (Instr.makeSlice t (e l) (e c))
 | .slice t x lo hi mx=>σ (V4 t (e x) (lo.map e) (hi.map e) (mx.map e))
 | .fieldAddr s x f=>σ (u6 s (e x) f)
 | .field jx x f=>σ (Instr.field jx (e x) f)
 | .indexAddr t x h=>σ (j4 t (e x) (e h))
 | .index jx x h=>σ (Instr.index jx (e x) (e h))
 | .lookup jx x h ok=>σ (Instr.lookup jx (e x) (e h) ok)
 | .mapEntry t m k=>σ (Instr.mapEntry t (e m) (e k))
 | .range jx x=>σ (Instr.range jx (e x))
 | .entry q=>σ (Instr.entry (e q))
 | .typeAssert x jx w ok=>σ (Instr.typeAssert (e x) jx w ok)
 | .extract t h=>σ (c8 (e t) h)
 |_=>ν
def wT(e:S0->x1):Op->Option (Sem Unit)
 | .store t a x=>σ (o7 t (e a) (e x))
 | .mapUpdate t m k x=>σ (Instr.mapUpdate t (e m) (e k) (e x))
 | .insert t m k x=>σ (Instr.mapUpdate t (e m) (e k) (e x))
 | .entryStore t m s x=>σ (Instr.entryStore t (e m) (e s) (e x))
 |_=>ν
def qK(b:j9)(ats:Array r9)(a:r9)(args:Array x1):Option (Sem x1):=
 match b with
 | .append=>σ (j6 ats a args)
 | .cap=>σ (j9.cap_ ats a args)
 | .clear=>σ (j9.clear_ ats a args)
 | .copy=>σ (j9.copy_ ats a args)
 | .delete=>σ (j9.delete_ ats a args)
 | .len=>σ (W0 ats a args)
 | .max=>σ (j9.max_ ats a args)
 | .min=>σ (j9.min_ ats a args)
 |_=>ν
theorem HR{s:Sem Next}(h:(tP s).run P w= .ok v I):s.run P w= .ok (.value v) I:=by
 unfold tP at h;rw[X8]at h;cases U:s.run P w with
 |halt x J=>grind [W3]
 |ok x J=>
  rw[U]at h;cases x<;>simp_all [W3,stuck,W9]
theorem HS(x:x1)(b:Bool)(t:r9):Instr.next x b 0=Instr.next x b t:=rfl
theorem wU{f:S0->x1}{o:U9}{s:Sem x1}(h:r4 f o.op=σ s)(a:s.run P w= .ok v I):
  (execOp f o).run P w= .ok (.value v) I:=by
 cases e:o.op with
 |nilCheck x=>
  rw[e]at h;cases h;have:=HR P a
  grind [execOp]
 |pick c x y=>
  rw[e]at h;cases h;unfold execOp;simp only[e,X8,W9]at a ⊢;cases j:(asBool (f c)).run P w<;>grind [W3]
 |binOp op jx x y p=>
  rw[e]at h;cases h;unfold execOp;simp only[e];unfold aO at a;rw[<-HO]at a;simp only[X8,W9]at a ⊢;rw[a];rfl
 |_=>
  rw[e]at h
  first
   |(cases h;done)
   |(cases h;simp only[wS,HP]at a;grind [execOp,X8,W3,W9])
   |(cases h;unfold execOp;simp only[e,X8,a,W3,W9])
theorem HT{a:S0->x1}{o:U9}{s:Sem Unit}(h:wT a o.op=σ s){v:Unit}(f:s.run P w= .ok v I):
  (execOp a o).run P w= .ok .skip I:=by
 cases e:o.op with
 |_=>
  rw[e]at h
  first
   |(cases h;done)
   |(cases h;grind [execOp,X8,W3,W9])
def Enters(f:Q2):Prop:=∀args w,(callFunc f args).run P w= .ok (.enter f args) w
inductive aj(f:Q2)(args:List x1)(w:x3)(K:x1->x3->Prop):Prop
 |code (h1:Enters P f) (h2:Calls P f args.toArray w λe I=>∃v,e= .returned v/\cC w I/\K v I)
 |ext (v:x1) (I:x3) (h1:(callFunc f args.toArray).run P w= .ok (.value v) I) (h2:cC w I) (h3:K v I)
inductive gT(f:Q2)(args:List x1)(w:x3)(K:x1->x3->Prop):Prop
 |code (h1:Enters P f) (h2:Calls P f args.toArray w λe I=>∃v,e= .returned v/\K v I)
 |ext (v:x1) (I:x3) (h1:(callFunc f args.toArray).run P w= .ok (.value v) I) (h3:K v I)
theorem gT.calls{f:Q2}{K:x1->x3->Prop}(h:gT P f args w K)(a:Enters P f):Calls P f args.toArray w λe I=>∃v,e= .returned v/\K v I:=by
 cases h with
 |code _ h=>exact h
 |ext v I h1=>rw[a]at h1;cases h1
def jg(l:Nat)(args:List x1)(w:x3)(K:x1->x3->Prop):Prop:=
 YieldAt Fence.wide 0 P l args.toArray w λe I=>∃v,e= .returned v/\K v I
theorem jg.X{P:X5}{l:Nat}{K a:x1->x3->Prop}(h:jg P l args w K)(e:∀v I,K v I->a v I):jg P l args w a:=by
 obtain⟨fn,tmps,f,body,j,p⟩:=h;exact⟨fn,tmps,f,body,j,RoundIn.mono p λ_ I ⟨v,h1,q⟩=>⟨v,h1,e v I q⟩⟩
def tR(free:Bool)(f:x1)(args:List x1)(w:x3)(K:x1->x3->Prop):Prop:=
 match f with
 | .func (.func g) first cap=>bif free then gT P g (first.toList++args++cap.toList) w K else aj P g (first.toList++args++cap.toList) w K
 | .func (.yield l) first _=>bif free then free=ro/\jg P l (first.toList++args) w K else jg P l (first.toList++args) w λv I=>cC w I/\K v I
 |_=>False
def ab(s:Sem x1)(w:x3)(K:x1->Prop):Prop:=∃v,(∀I,Ext w I->s.run P I= .ok v I)/\K v
def HU:List (Nat×Nat):=[(9,23),(23,23)]
def HV(s d:Nat):Bool:=HU.any λp=>R4 p.1 s&&R4 p.2 d
def lM(o:U9):Bool:=
 match o.op with
 | .convert s d _=>!HV s d
 | .move _| .assign _| .pick .. | .load .. | .nilCheck _| .binOp .. | .unOp .. | .makeInterface .. | .makeFunc .. | .slice .. | .fieldAddr .. | .field ..
 | .indexAddr .. | .index .. | .lookup .. | .extract .. | .build .. | .typeAssert ..=>ro
 | .call c=>
  match c.callee with
  | .builtin .len| .builtin .cap| .builtin .min| .builtin .max=>ro
  |_=>rs
 |_=>rs
def cE(s:Sem x1)(v:x1)(I:x3):Prop:=∀a,Ext I a->s.run P a= .ok v a
def nt(o:U9)(e:Env)(w:x3)(K:Env->(x3->Prop)->Prop):Prop:=
 bif known e (opsOf o.op)then
  match o.op with
  | .move x| .assign x=>
   match eZ e x with
   |some y=>K (eh e o.dst y) (λ_=>True)
   |none=>False
  | .pick c a b=>
   match eZ e c with
   |some (.b ro)=>(match eZ e a with|some y=>K (eh e o.dst y) (λ_=>True)|none=>False)
   |some (.b rs)=>(match eZ e b with|some y=>K (eh e o.dst y) (λ_=>True)|none=>False)
   |some (.v x)=>Split x (K (eh e o.dst (.v (c6 e a))) (λ_=>True)) (K (eh e o.dst (.v (c6 e b))) (λ_=>True))
   |some .u=>False
   |none=>False
  | .call c=>
   match c.callee with
   | .builtin b=>
    match qK b c.argTypes o.type (bO (c6 e) c.args.toList).toArray with
    |some s=>ab P s w λv=>K (eh e o.dst (.v v)) (cE P s v)
    |none=>False
   |_=>False
  |op=>
   match r4 (c6 e) op with
   |some s=>ab P s w λv=>K (eh e o.dst (.v v)) (cE P s v)
   |none=>False
 else False
def wV(free:fM)(o:U9)(e:Env)(w:x3)(K:Env->x3->Prop):Prop:=
 bif known e (opsOf o.op)then
  match o.op with
  | .call c=>
   match c.callee with
   | .builtin b=>
    match qK b c.argTypes o.type (bO (c6 e) c.args.toList).toArray with
    |some s=>aC P s w λv I=>K (eh e o.dst (.v v)) I
    |none=>False
   | .value (.func f)=>
    bif free.1 then gT P f (bO (c6 e) c.args.toList) w λv I=>K (eh e o.dst (.v v)) I
    else aj P f (bO (c6 e) c.args.toList) w λv I=>K (eh e o.dst (.v v)) I
   | .value x=>tR P free.1 (c6 e x) (bO (c6 e) c.args.toList) w λv I=>K (eh e o.dst (.v v)) I
   | .invoke _ _=>False
  | .next x str=>tO P free (Instr.next (c6 e x) str 0) w λv I=>K (eh e o.dst (.v v)) I
  |op=>
   match r4 (c6 e) op with
   |some s=>aC P s w λv I=>K (eh e o.dst (.v v)) I
   |none=>
    match wT (c6 e) op with
    |some s=>aC P s w λ_ I=>K (eh e o.dst (.v undef)) I
    |none=>False
 else False
def qL(free:fM)(o:U9)(e:Env)(w:x3)(K:Env->x3->Prop):Prop:=
 bif lM o then nt P o e w (λa _=>K a w)else wV P free o e w K
theorem Enters.of{f:Q2}{fn:Func}{c:Code}(a:P.funcs[f]?=σ fn)(e:fn.body=σ c)(h:(fn.name == "runtime.NumGoroutine")=rs):Enters P f:=by
 intro args w
 grind [callFunc,X8,program,Sem.run,W3,W9]
variable{P}
variable{N:Nat}{r:Option Nat}{o:U9}{e:Env}{a:Act}{w:x3}
theorem lN(f:S6 N e a)(hk:known e (opsOf o.op)=ro)(U:∀cs b,o.op≠ .select cs b)(h:∀c,o.op≠ .go c:=by simp_all)(j:∀c,o.op≠ .defer c:=by simp_all):
  execOp a.eval o=execOp (c6 e) o:=
 execOp_congr o U λx p=>f.eval (by grind [Ao,HQ])
theorem r5{next:Act->x3->Prop}{Q:Exit->Act->x3->Prop}(f:S6 N e a)(hk:known e (opsOf o.op)=ro)(U:∀cs b,o.op≠ .select cs b)(j:∀c,o.op≠ .defer c){v:x1}{I:x3}(p:(execOp (c6 e) o).run P w= .ok (.value v) I)(h:next (a.put o.dst v) I)(q:∀c,o.op≠ .go c:=by simp_all):o.wpIn (eN r) 0 P a w next Q:=by
 refine⟨λ_ _=>trivial,?_⟩
 grind [U9.semAt_eq,lN,U9.uponIn_value]
theorem HW{next:Act->x3->Prop}{Q:Exit->Act->x3->Prop}(f:S6 N e a)(hk:known e (opsOf o.op)=ro)(U:∀cs b,o.op≠ .select cs b)(j:∀c,o.op≠ .defer c){I:x3}(p:(execOp (c6 e) o).run P w= .ok .skip I)(h:next (a.put o.dst undef) I)(q:∀c,o.op≠ .go c:=by simp_all):o.wpIn (eN r) 0 P a w next Q:=by
 refine⟨λ_ _=>trivial,?_⟩
 grind [U9.semAt_eq,lN,U9.uponIn_skip]
def fA(N:Nat)(free:fM)(K:Env->x3->Prop)(o:U9)(a:Act)(w:x3)(a':Act)(I:x3):Prop:=
 ∃e v,K e I/\S6 N e a'/\a'=a.put o.dst v/\(free.1=rs->cL free.2 w I)
theorem fA.of{free:fM}{K:Env->x3->Prop}{x:eM}(f:K (eh e o.dst x) I)(h:S6 N e a)(j:k6 N o.dst=ro)(p:x.val=v)(q:free.1=rs->cL free.2 w I):fA N free K o a w (a.put o.dst v) I:=⟨_,v,f,h.put j p,rfl,q⟩
theorem Ar{free:fM}{K:Env->x3->Prop}{Q:Exit->Act->x3->Prop}{f:Q2}{args:Array x1}(p:S6 N e a)(q:k6 N o.dst=ro)(h:Calls P f args w λj I=>∃v,j= .returned v/\(free.1=rs->cL free.2 w I)/\K (eh e o.dst (.v v)) I):
  o.uponIn (eN r) 0 P a (fA N free K o a w) Q (.ok (.enter f args) w):=by
 rw[U9.uponIn_enter];refine⟨wR _ _,CallsIn.mono (Ap h) ?_⟩;rintro j I ⟨v,rfl,s,x⟩;exact fA.of x p q rfl s
theorem nu{x:S0}{y:eM}(h:eZ e x=σ y):c6 e x=y.val:=by simp[c6,h]
theorem As{l:List S0}{x:S0}(hk:known e l=ro)(a:x∈l):∃y,eZ e x=σ y:=Option.isSome_iff_exists.1 (Ao hk x a)
theorem Au{K:Env->(x3->Prop)->Prop}(h:nt P o e w K)(r:S6 N e a)(J:k6 N o.dst=ro):
  ∃v,∃st:x3->Prop,(∀I,Ext w I->(execOp a.eval o).run P I= .ok (.value v) I)/\(∃B,K B st/\S6 N B (a.put o.dst v))/\(∀c,o.op≠ .defer c)/\
   (∀I,st I->∀p,Ext I p->(execOp a.eval o).run P p= .ok (.value v) p):=by
 unfold nt at h;cases hk:known e (opsOf o.op)with
 |false=>grind
 |true=>
  rw[hk]at h;simp only[cond_true]at h;have put:∀{x:eM}{v:x1}{st:x3->Prop},K (eh e o.dst x) st->x.val=v->∃B,K B st/\S6 N B (a.put o.dst v):=λh1 C=>⟨_,h1,r.put J C⟩;cases f:o.op with
  |move x=>
   rw[f]at h;simp only at h;cases A:eZ e x with
   |none=>grind
   |some y=>
    rw[A]at h;have all:∀I:x3,(execOp a.eval o).run P I= .ok (.value y.val) I:=λI=>by
     rw[lN r hk (by simp[f])]
     grind [execOp,W9,nu]
    exact⟨y.val,_,by grind,put h rfl,Ξ,by grind⟩
  |assign x=>
   rw[f]at h;simp only at h;cases A:eZ e x with
   |none=>grind
   |some y=>
    rw[A]at h;have all:∀I:x3,(execOp a.eval o).run P I= .ok (.value y.val) I:=λI=>by
     rw[lN r hk (by simp[f])]
     grind [execOp,W9,nu]
    exact⟨y.val,_,by grind,put h rfl,Ξ,by grind⟩
  |pick c x y=>
   rw[f]at h;simp only at h;have F:=hk;rw[f]at F;obtain⟨R,A⟩:=As F (x:=x) (by simp[opsOf]);obtain⟨S,H⟩:=As F (x:=y) (by simp[opsOf]);have E:∀(t:Bool)(I:x3),c6 e c= .bool t->(execOp a.eval o).run P I= .ok (.value (if t=ro then c6 e x else c6 e y)) I:=by
    grind [lN,execOp,asBool,W9]
   cases j:eZ e c with
   |none=>grind
   |some L=>
    rw[j]at h;cases L with
    |b t=>
     cases t with
     |true=>
      simp only[A]at h;exact⟨_,_,λI _=>E ro I (nu j),put h (by simp[nu A]),Ξ,λ_ _ I _=>E ro I (nu j)⟩
     |false=>
      simp only[H]at h;exact⟨_,_,λI _=>E rs I (nu j),put h (by simp[nu H]),Ξ,λ_ _ I _=>E rs I (nu j)⟩
    |v z=>
     obtain⟨t,M,O,Q⟩:=h;have q:=λI=>E t I (by rw[nu j];exact M);cases t with
     |true=>exact⟨_,_,λI _=>q I,put (O rfl) rfl,Ξ,by grind⟩
     |false=>exact⟨_,_,λI _=>q I,put (Q rfl) rfl,Ξ,by grind⟩
    |u=>exact h.elim
  |call c=>
   rw[f]at h;simp only at h;cases j:c.callee with
   |builtin b=>
    rw[j]at h;simp only at h;rw[wS]at h;cases U:qK b c.argTypes o.type (c.args.map (c6 e))with
    |none=>grind
    |some s=>
     rw[U]at h;obtain⟨v,q,G⟩:=h;have all:∀I:x3,s.run P I= .ok v I->(execOp a.eval o).run P I= .ok (.value v) I:=λI q=>by
      rw[lN r hk (by simp[f])];unfold execOp;cases b<;>simp only[qK]at U<;>first|(cases U;done)|(cases U;simp[f,j,resolve,invoke,builtin,q,W3])
     exact⟨v,_,by grind,put G rfl,Ξ,λI h1 p C=>all p (h1 p C)⟩
   |value x=>grind
   |invoke x m=>grind
  |_=>
   rw[f]at h
   first
    |(simp only[r4]at h;done)
    |(obtain⟨v,q,G⟩:=h
      refine⟨v,_,λI hw=>?_,put G rfl,Ξ,λI h1 p C=>?_⟩
      .rw[lN r hk (by simp[f])];exact wU P (by rw[f];rfl) (q I hw)
      .rw[lN r hk (by simp[f])];exact wU P (by rw[f];rfl) (h1 p C))
theorem HX{free:fM}{K:Env->x3->Prop}{Q:Exit->Act->x3->Prop}(h:wV P free o e w K)(p:S6 N e a)(C:k6 N o.dst=ro):
  o.wpIn (eN r) 0 P a w (fA N free K o a w) Q:=by
 unfold wV at h;cases hk:known e (opsOf o.op)with
 |false=>grind
 |true=>
  rw[hk]at h;simp only[cond_true]at h;cases j:o.op with
  |call c=>
   rw[j]at h;simp only at h;cases F:c.callee with
   |builtin b=>
    rw[F]at h;simp only at h;rw[wS]at h;cases U:qK b c.argTypes o.type (c.args.map (c6 e))with
    |none=>grind
    |some s=>
     rw[U]at h;obtain⟨v,I,z,A,q⟩:=h;refine r5 p hk (by simp[j]) (by simp[j]) (v:=v) ?_ (fA.of q p C rfl λ_=>A.b);unfold execOp;cases b<;>simp only[qK]at U<;>first|(cases U;done)|(cases U;simp[j,F,resolve,invoke,builtin,z,W3])
   |value x=>
    rw[F]at h;have step:∀(d:Deferred)(y:x1),c6 e x=y->Deferred.ofValue y (c.args.map (c6 e))=pure d->
      (invoke d.target d.args).run P w=(execOp (c6 e) o).run P w:=by
     grind [execOp,resolve]
    have G:∀(g:Q2)(first cap:Array x1),c6 e x= .func (.func g) first cap->
      (execOp (c6 e) o).run P w=(callFunc g (first.toList++bO (c6 e) c.args.toList++cap.toList).toArray).run P w:=by
     intro g first cap B
     rw[<-step {target:=.fn (.func g) cap,args:=first++c.args.map (c6 e)} _ B rfl];simp only[invoke];have H:first++c.args.map (c6 e)++cap=(first.toList++bO (c6 e) c.args.toList++cap.toList).toArray:=by grind [tQ]
     rw[H]
    have enter:∀(g:Q2)(first cap:Array x1),c6 e x= .func (.func g) first cap->Enters P g->
      (execOp (c6 e) o).run P w= .ok (.enter g (first.toList++bO (c6 e) c.args.toList++cap.toList).toArray) w:=by
     intro g first cap B E
     rw[G g first cap B,E]
    have go:∀(g:Q2)(first cap:Array x1),c6 e x= .func (.func g) first cap->
      (bif free.1 then gT P g (first.toList++bO (c6 e) c.args.toList++cap.toList) w λv I=>K (eh e o.dst (.v v)) I
       else aj P g (first.toList++bO (c6 e) c.args.toList++cap.toList) w λv I=>K (eh e o.dst (.v v)) I)->
      o.wpIn (eN r) 0 P a w (fA N free K o a w) Q:=by
     intro g first cap B h
     obtain⟨fr,M⟩:=free;cases fr with
     |true=>
      rcases h with⟨E,L⟩|⟨v,I,z,q⟩
      .refine⟨λ_ _=>trivial,?_⟩
       grind [U9.semAt_eq,lN,Ar]
      .rw[<-G g first cap B]at z;exact r5 p hk (by simp[j]) (by simp[j]) z (fA.of q p C rfl (by grind))
     |false=>
      rcases h with⟨E,L⟩|⟨v,I,z,A,q⟩
      .refine⟨λ_ _=>trivial,?_⟩;rw[U9.semAt_eq _ _ _ (by simp[j]),lN p hk (by simp[j])];rw[enter g first cap B E];exact Ar p C (L.X (by grind [cC.b]))
      .rw[<-G g first cap B]at z;exact r5 p hk (by simp[j]) (by simp[j]) z (fA.of q p C rfl λ_=>A.b)
    have J:tR P free.1 (c6 e x) (bO (c6 e) c.args.toList) w (λv I=>K (eh e o.dst (.v v)) I)->
      o.wpIn (eN r) 0 P a w (fA N free K o a w) Q:=by
     intro h;unfold tR at h;split at h
     .grind
     .rename_i l first cap B
      obtain⟨fn,tmps,O,body,R,S⟩:jg P l (first.toList++bO (c6 e) c.args.toList) w λv I=>(free.1=rs->cL free.2 w I)/\K (eh e o.dst (.v v)) I:=by
       obtain⟨fr,M⟩:=free;cases fr with
       |true=>exact jg.X h.2 (by grind)
       |false=>exact jg.X h λv I hk=>⟨λ_=>hk.1.b,hk.2⟩
      refine⟨λ_ _=>trivial,?_⟩;rw[U9.semAt_eq _ _ _ (by simp[j]),lN p hk (by simp[j])];have:(execOp (c6 e) o).run P w= .ok (.round l fn tmps O body) w:=by
       rw[<-step {target:=.fn (.yield l) cap,args:=first++c.args.map (c6 e)} _ B rfl,<-R];have H:(first.toList++bO (c6 e) c.args.toList).toArray=first++c.args.map (c6 e):=by grind [tQ]
       rw[H];rfl
      rw[this,U9.uponIn_round];refine⟨wR _ _,?_⟩;have T:=S;refine RoundIn.mono T ?_;rintro V I ⟨v,rfl,A,q⟩;exact fA.of q p C rfl A
     grind
    cases x with
    |func f=>exact go f #[] #[] rfl (by simpa using h)
    |tmp t=>exact J h
    |const v=>exact J h
    |global g=>exact J h
   |invoke x m=>grind
  |next x str=>
   rw[j]at h;obtain⟨v,I,z,A,q⟩:=h;refine r5 p hk (by simp[j]) (by simp[j]) (v:=v) ?_ (fA.of q p C rfl A)
   grind [HS,execOp,X8,W3,W9]
  |_=>
   rw[j]at h
   first
    |(simp only[r4,wT]at h;done)
    |(obtain⟨v,I,z,A,q⟩:=h
      exact r5 p hk (by simp[j]) (by simp[j]) (wU P (by rw[j];rfl) z) (fA.of q p C rfl λ_=>A.b))
    |(obtain⟨v,I,z,A,q⟩:=h
      exact HW p hk (by simp[j]) (by simp[j]) (HT P (by rw[j];rfl) z) (fA.of q p C rfl λ_=>A.b))
theorem tS{free:fM}{K:Env->x3->Prop}{Q:Exit->Act->x3->Prop}(h:qL P free o e w K)(j:S6 N e a)(p:k6 N o.dst=ro):
  o.wpIn (eN r) 0 P a w (fA N free K o a w) Q:=by
 unfold qL at h;cases q:lM o with
 |false=>grind [HX]
 |true=>
  rw[q]at h;have h:nt P o e w (λf _=>K f w):=h;obtain⟨v,st,s,⟨f,x,y⟩,z,_⟩:=Au h j p;refine⟨λ_ _=>trivial,?_⟩;rw[U9.semAt_eq _ _ _ z,s w (Ext.refl _),U9.uponIn_value];exact⟨f,v,x,y,rfl,λ_=>cL.refl _ _⟩
end
section
variable{P:X5}
def Still{α:Type}(P:X5)(s:Sem α):Prop:=∀w v J,s.run P w= .ok v J->J=w/\∀I,s.run P I= .ok v I
theorem Still.pure{α:Type}(a:α):Still P (Pure.pure a:Sem α):=λw v J h=>by
 rw[W9]at h;cases h;exact⟨rfl,λI=>by rw[W9]⟩
theorem Still.bind{α β:Type}{s:Sem α}{f:α->Sem β}(U:Still P s)(j:∀a,Still P (f a)):Still P (s >>= f):=λw v J h=>by
 rw[X8]at h;cases e:s.run P w with
 |halt x V=>grind [W3]
 |ok a V=>
  rw[e]at h;obtain⟨rfl,p⟩:=U w a V e;obtain⟨rfl,q⟩:=j a _ v J h;exact⟨rfl,λI=>by rw[X8,p I];exact q I⟩
theorem Still.never{α:Type}{s:Sem α}(h:∀w v J,s.run P w≠ .ok v J):Still P s:=λw v J bi=>m6 bi (h w v J)
theorem Still.stuck{α:Type}(m:String):Still P (stuck m:Sem α):=.never λw v J h=>by simp[Go.stuck]at h
theorem Still.unsupported{α:Type}(m):Still P (unsupported m:Sem α):=.never λw v J h=>by simp[Go.unsupported]at h
theorem Still.program:Still P program:=λw v J h=>by cases h;exact⟨rfl,λ_=>rfl⟩
theorem Still.underlying(t:r9):Still P (underlying t):=Still.bind .program (by grind [Still.pure,Still.stuck])
theorem Still.typeInfo(t:r9):Still P (typeInfo t):=Still.bind .program λp=>by
 grind [Still.pure,Still.stuck]
theorem Still.sizeOf(t:r9):Still P (sizeOf t):=Still.bind (.typeInfo t) λ_=>Still.pure _
theorem Still.boundsPanic{α:Type}(k:o5)(x y:Int)(c:BoundsCode):Still P (boundsPanic k x y c:Sem α):=.never λw v J h=>by
 have e:∀(s:Sem Bool)(w:x3)(v:α)(J:x3),(s >>= λb=>(runtimePanic (.bounds (Y7.wrap x) y b c):Sem α)).run P w≠ .ok v J:=by
  intro s w v J h;rw[X8]at h;cases f:s.run P w with
  |halt x V=>rw[f]at h;simp[W3]at h
  |ok a V=>rw[f]at h;simp[W3,Go.runtimePanic,Go.goPanic]at h
 unfold Go.boundsPanic at h;dsimp only at h;split at h
 .exact e _ _ _ _ h
 .exact e _ _ _ _ h
theorem Still.asIntOf(v:x1):Still P (asIntOf v):=by
 unfold Go.asIntOf;split
 .exact Still.pure _
 .exact Still.unsupported _
 .exact Still.stuck _
theorem Still.sureAddr(v:x1):Still P (Instr.sureAddr v):=by
 unfold Instr.sureAddr
 grind [Still.pure,Still.stuck]
theorem Still.extract(v:x1)(i:Nat):Still P (c8 v i):=by
 unfold c8
 grind [Still.pure,Still.stuck]
theorem Still.indexAt(t:r9)(x i:x1):Still P (j4 t x i):=by
 have tail:∀(t:r9)(k:o5)(i:Int)(base:Option Q0)(len:Nat)(e:r9),Still P (do
   let f:=len<=1&&(match <-Go.underlying t with| .array ..=>ro|_=>rs)
   match base with
   |some a=>
    if 0<=i/\i<len then Pure.pure (x1.pointer (σ (a.add (i.toNat*(<-Go.sizeOf e)))))
    else if f then Go.unsupported (.noEntry "op/indexAddr.an index out of range at an array of length 0 or 1 (ledger 616)")
    else Go.boundsPanic k i len .index
   |none=>Go.boundsPanic k i 0 .index):=by
  intro t k i base len e;refine .bind (.underlying t) λd=>?_;cases base with
  |none=>grind [Still.boundsPanic]
  |some a=>
   dsimp only;split
   .exact .bind (.sizeOf e) λ_=>.pure _
   grind [Still.unsupported,Still.boundsPanic]
 unfold j4;refine .bind (.asIntOf i) λh=>?_;refine .bind (.underlying t) λd=>?_;split
 .refine .bind (.sureAddr _) λb=>?_;refine .bind (.pure _) λy=>?_;exact tail _ _ _ _ _ _
 .refine .bind (.pure _) λy=>?_;exact tail _ _ _ _ _ _
 .refine .bind (.stuck _) λy=>?_;exact tail _ _ _ _ _ _
end
section
variable(P:X5)
def tT(free:fM)(ops:Array U9)(o:U9)(e:Env)(w:x3)(K:Env->x3->Prop):Prop:=
 match o.guard with
 |none=>qL P free o e w K
 |some (j,b)=>
  match(ops[j]?).bind (·.dst)with
  |none=>False
  |some s=>
   match look e s with
   |some (.b c)=>bif xor c b then K (eh e o.dst .u) w else qL P free o e w K
   |some (.v x)=>
    Split x (bif b then qL P free o ((s,.b ro)::e) w K else K (eh ((s,.b ro)::e) o.dst .u) w)
     (bif b then K (eh ((s,.b rs)::e) o.dst .u) w else qL P free o ((s,.b rs)::e) w K)
   |some .u=>K (eh e o.dst .u) w
   |none=>False
def qM(free:fM)(ops:Array U9):List U9->Env->x3->(Env->x3->Prop)->Prop
 |[],e,w,K=>K e w
 |o::l,e,w,K=>tT P free ops o e w λa I=>qM free ops l a I K
def wW(ops:Array U9)(o:U9)(e:Env)(w:x3)(K:Env->(x3->Prop)->Prop):Prop:=
 match o.guard with
 |none=>nt P o e w K
 |some (j,b)=>
  match(ops[j]?).bind (·.dst)with
  |none=>False
  |some s=>
   match look e s with
   |some (.b c)=>bif xor c b then K (eh e o.dst .u) (λ_=>True)else nt P o e w K
   |some (.v x)=>
    Split x (bif b then nt P o ((s,.b ro)::e) w K else K (eh ((s,.b ro)::e) o.dst .u) (λ_=>True))
     (bif b then K (eh ((s,.b rs)::e) o.dst .u) (λ_=>True)else nt P o ((s,.b rs)::e) w K)
   |some .u=>K (eh e o.dst .u) (λ_=>True)
   |none=>False
def nv(o:U9):Bool:=
 match o.op with
 | .move _| .assign _| .extract .. | .indexAddr ..=>ro
 |_=>rs
def ot(ops:Array U9):List Nat->Option Nat
 |[]=>ν
 |i::r=>match ops[i]? with
  |some o=>bif lM o then σ i else ot ops r
  |none=>ot ops r
def wX(p:Nat->Prop):List Nat->Prop
 |[]=>True
 |[i]=>p i
 |i::r=>p i/\wX p r
def mw(a:Array Nat)(j k:Nat):Bool:=!(R4 k j)&&(!((a.getD j 0).testBit k)&& !((a.getD k 0).testBit j))
def tU(same:Bool)(q:Nat)(w:x3)(st:x3->Prop)(a:List (x3×List (Nat×(x3->Prop)))):List (x3×List (Nat×(x3->Prop))):=
 match same,a with
 |true,g::r=>(g.1,(q,st)::g.2)::r
 |_,a=>(w,[(q,st)])::a
def r6(a:Array Nat)(j:Nat):List (Nat×(x3->Prop))->Bool
 |[]=>rs
 |x::r=>mw a j x.1||r6 a j r
def r7(a:Array Nat)(j:Nat)(I:x3):List (Nat×(x3->Prop))->Prop
 |[]=>True
 |x::r=>bif mw a j x.1 then x.2 I/\r7 a j I r else r7 a j I r
def pp(a:Array Nat)(j:Nat)(I:x3)(C:Prop):List (x3×List (Nat×(x3->Prop)))->Prop
 |[]=>C
 |g::r=>bif r6 a j g.2 then(Ext g.1 I\/r7 a j I g.2)/\pp a j I C r else pp a j I C r
def ou(free:fM)(ops:Array U9)(f:Array Nat):Nat->Array Bool->Bool->List (x3×List (Nat×(x3->Prop)))->Env->x3->(Env->x3->Prop)->Prop
 |0,a,_,_,e,w,K=>match Region.ready .any ops a with|[]=>K e w|_=>False
 |fuel+1,a,same,h,e,w,K=>
  match Region.ready .any ops a with
  |[]=>K e w
  |i::r=>
   match ot ops (i::r)with
   |some q=>
    bif Region.free .any ops a q then
     match ops[q]? with
     |some o=>wW P ops o e w λp st=>
       bif nv o then ou free ops f fuel (a.setIfInBounds q ro) same h p w K
       else ou free ops f fuel (a.setIfInBounds q ro) ro (tU same q w st h) p w K
     |none=>False
    else False
   |none=>
    wX (λj=>match ops[j]? with
     |some o=>tT P free ops o e w λp I=>pp f j I (ou free ops f fuel (a.setIfInBounds j ro) rs h p I K) h
     |none=>False) (i::r)
def wY(free:fM)(ops:Array U9)(e:Env)(w:x3)(K:Env->x3->Prop):Prop:=
 bif Region.noSelect ops then ou P free ops (Region.before ops) ops.size (Array.replicate ops.size rs) rs [] e w K else False
end
section
variable{P:X5}{N:Nat}{r:Option Nat}{free:fM}{ops:Array U9}
theorem HY{e:Env}{a:Act}(f:S6 N e a){s:Nat}{c:Bool}(q:(ops[j]?).bind (·.dst)=σ s){x:eM}(U:look e s=σ x)(p:x.val= .bool c):
  yielded ops a.tmps j=σ c:=by
 have h:=f.2 s x U;rw[p]at h;have r:a.tmps[s]?=σ (.bool c):=by
  rw[Array.getD_eq_getD_getElem?]at h
  grind [undef]
 grind [yielded]
theorem tV{e:Env}{a:Act}(f:S6 N e a){o:U9}{s:Nat}{b c:Bool}(h:o.guard=σ (j,b))(p:(ops[j]?).bind (·.dst)=σ s){x:eM}(U:look e s=σ x)(q:x.val= .bool c):Region.wanted o (yielded ops a.tmps)= !(xor c b):=by
 simp only[Region.wanted,h,HY f p U q]
 grind
theorem Av{e:Env}{a:Act}(f:S6 N e a){o:U9}{s:Nat}{b:Bool}(p:o.guard=σ (j,b))(q:(ops[j]?).bind (·.dst)=σ s)(U:look e s=σ .u):Region.wanted o (yielded ops a.tmps)=rs:=by
 have h:=f.2 s .u U;have r:yielded ops a.tmps j=ν:=by
  rw[Array.getD_eq_getD_getElem?]at h
  grind [yielded,eM.val,undef]
 grind [Region.wanted]
theorem S6.lit{e:Env}{a:Act}(h:S6 N e a){s:Nat}{x:eM}{c:Bool}(U:look e s=σ x)(p:x.val= .bool c):S6 N ((s,.b c)::e) a:=by
 refine⟨h.1,λt y f=>?_⟩;simp only[look]at f;cases j:R4 s t with
 |true=>
  have:s=t:=Nat.eq_of_beq_eq_true j;subst this;simp only[j,cond_true,Y8]at f;subst f;rw[h.2 s x U,p];rfl
 |false=>simp only[j,cond_false]at f;exact h.2 t y f
theorem Aw{o:U9}{e:Env}{a:Act}{K:Env->x3->Prop}{Q:Exit->Act->x3->Prop}(h:tT P free ops o e w K)(f:S6 N e a)(p:k6 N o.dst=ro):
  (Region.wanted o (yielded ops a.tmps)=ro/\o.wpIn (eN r) 0 P a w (fA N free K o a w) Q)\/
  (Region.wanted o (yielded ops a.tmps)=rs/\fA N free K o a w (a.put o.dst undef) w):=by
 unfold tT at h;cases q:o.guard with
 |none=>grind [Region.wanted,tS]
 |some E=>
  obtain⟨j,b⟩:=E;rw[q]at h;simp only at h;cases z:(ops[j]?).bind (·.dst)with
  |none=>grind
  |some s=>
   rw[z]at h;simp only at h;cases U:look e s with
   |none=>grind
   |some x=>
    rw[U]at h;cases x with
    |b c=>
     simp only at h;have hw:=tV f q z U rfl;cases F:xor c b with
     |true=>
      rw[F]at h hw;exact .inr ⟨hw,fA.of h f p rfl λ_=>cL.refl _ _⟩
     |false=>
      grind [tS]
    |v y=>
     simp only at h;obtain⟨c,rfl,A,B⟩:=h;have hw:=tV f q z U rfl;have C:=f.lit U rfl;cases c with
     |true=>
      have A:=A rfl;cases b with
      |true=>grind [tS]
      |false=>exact .inr ⟨hw,fA.of A C p rfl λ_=>cL.refl _ _⟩
     |false=>
      have B:=B rfl;cases b with
      |true=>exact .inr ⟨hw,fA.of B C p rfl λ_=>cL.refl _ _⟩
      |false=>grind [tS]
    |u=>exact .inr ⟨Av f q z U,fA.of h f p rfl λ_=>cL.refl _ _⟩
def gU(D:List Nat)(a a':Act):Prop:=a'.defers=a.defers/\∀t,t∉D->a'.tmps.getD t undef=a.tmps.getD t undef
theorem gU.refl(D:List Nat)(a:Act):gU D a a:=⟨rfl,λ_ _=>rfl⟩
theorem gU.F{a b c:Act}(h:gU D a b)(k:gU D b c):gU D a c:=⟨k.1.F h.1,λt e=>(k.2 t e).F (h.2 t e)⟩
theorem gU.put(a:Act){d:Option Tmp}(v:x1)(e:∀t,d=σ t->t∈D):gU D a (a.put d v):=by
 cases d with
 |none=>exact gU.refl _ _
 |some s=>
  refine⟨rfl,λt f=>?_⟩;have h:s≠t:=by grind
  simp only[Act.put,Array.getD_eq_getD_getElem?]
  grind
def ov(N:Nat)(free:fM)(K:Env->x3->Prop)(D:List Nat)(a:Act)(w:x3)(a':Act)(I:x3):Prop:=
 ∃e,K e I/\S6 N e a'/\gU D a a'/\(free.1=rs->cL free.2 w I)
theorem ov.step{K:Env->x3->Prop}{a e a':Act}{J:x3}(h:ov N free K D e J a' I)(hk:gU D a e)(j:free.1=rs->cL free.2 w J):
  ov N free K D a w a' I:=by
 obtain⟨p,h1,q,r,s⟩:=h;exact⟨p,h1,q,hk.F r,λf=>(j f).F (s f)⟩
def pq(N:Nat)(l:List U9):Bool:=l.all λo=>k6 N o.dst
theorem HZ{K:Env->x3->Prop}{Q:Exit->Act->x3->Prop}(M:∀o∈ops.toList,∀t,o.dst=σ t->t∈D)(O:pq N ops.toList=ro):
  ∀(l:List U9)(k:Nat)(e:Env)(a:Act)(w:x3),(∀j,l[j]?=ops[k+j]?)->qM P free ops l e w K->S6 N e a->
   (∀a' I,ov N free K D a w a' I->Q .normal a' I)->wpOpsIn (eN r) 0 P ops Q (List.range' k l.length) a w:=by
 intro l;induction l with
 |nil=>
  intro k e a w _ h f p;exact p a w ⟨e,h,f,gU.refl _ _,λ_=>cL.refl _ _⟩
 |cons o l z=>
  intro k e a w x h f p;have y:=x 0;simp only[List.getElem?_cons_zero,Nat.add_zero]at y;have R:o∈ops.toList:=by
   grind
  have A:k6 N o.dst=ro:=by
   grind [pq]
  have B:∀j,l[j]?=ops[k+1+j]?:=λj=>by
   have:=x (j+1)
   grind
  have next:∀q J,fA N free (λC I=>qM P free ops l C I K) o a w q J->wpOpsIn (eN r) 0 P ops Q (List.range' (k+1) l.length) q J:=by
   rintro q J ⟨E,v,F,G,rfl,H⟩;refine z (k+1) E _ J B F G λa' I L=>p a' I (L.step (by grind [gU.put]) H)
  simp only[qM]at h;show wpOpsIn (eN r) 0 P ops Q (k::List.range' (k+1) l.length) a w;unfold wpOpsIn;rw[<-y];simp only;rcases Aw h f A with⟨hw,s⟩|⟨hw,s⟩
  .rw[m3 hw];exact U9.wpIn_mono next s
  .rw[hw];exact⟨λ_ _=>trivial,next _ _ s⟩
theorem H0{K:Env->x3->Prop}{Q:Exit->Act->x3->Prop}{id:Nat}{e:Env}{a:Act}(f:∀o∈ops.toList,∀t,o.dst=σ t->t∈D)(j:pq N ops.toList=ro)(h:qM P free ops ops.toList e w K)(p:S6 N e a)(q:∀a' I,ov N free K D a w a' I->Q .normal a' I):
  (Code.region id ops rs).wpIn (eN r) 0 P Q a w:=by
 refine wpIn_region ?_;have:=HZ (r:=r) f j ops.toList 0 e a w (by grind) h p q
 grind [List.range_eq_range']
end
section
variable{P:X5}{N:Nat}{r:Option Nat}{free:fM}{ops:Array U9}{Q:Exit->Act->x3->Prop}
theorem H1(e:Option Nat)(o:U9)(U:∀cs b,o.op≠ .select cs b)(a:Act)(d:Option Tmp)(v:x1)(h:∀t,d=σ t->t∉o.looksAt ops):
  o.semAt e (a.put d v).eval=o.semAt e a.eval:=by
 have he:=execOp_put o U a d v h;unfold U9.semAt;split
 .rename_i l c p;have:resolve (a.put d v).eval c o.type=resolve a.eval c o.type:=resolve_congr c o.type λx q=>Act.eval_put λt f j=>h t f (by
   subst j;refine List.mem_append_left _ (List.mem_filterMap.2 ⟨.tmp t,?_,rfl⟩)
   grind [Op.operands])
  rw[this]
 .exact he
def ow(o:U9)(w0:x3)(st:x3->Prop)(I:x3):Prop:=nv o=ro\/Ext w0 I\/∃J,st J/\Ext J I
theorem ow.W{o:U9}{w0:x3}{st:x3->Prop}(h:ow o w0 st w)(k:Ext w I):ow o w0 st I:=by
 rcases h with h|h|⟨J,h1,a⟩
 .exact .inl h
 .exact .inr (.inl (h.F k))
 .exact .inr (.inr ⟨J,h1,a.F k⟩)
theorem H2{o:U9}(hm:nv o=ro){e:S0->x1}(h:(execOp e o).run P w= .ok (.value v) w):(execOp e o).run P I= .ok (.value v) I:=by
 unfold nv at hm;split at hm
 .grind [execOp,W9]
 .grind [execOp,W9]
 .rename_i x i a;unfold execOp at h ⊢;simp only[a]at h ⊢;exact((Still.bind (Still.extract _ _) λ_=>Still.pure _) _ _ _ h).2 _
 .rename_i t x i a;unfold execOp at h ⊢;simp only[a]at h ⊢;exact((Still.bind (Still.indexAt _ _ _) λ_=>Still.pure _) _ _ _ h).2 _
 .cases hm
def jy(P:X5)(ops:Array U9)(o:U9)(v:x1)(a:Act)(w0:x3->Prop):Prop:=
 (Region.wanted o (yielded ops a.tmps)=ro/\(∀c,o.op≠ .defer c)/\∀I,w0 I->(execOp a.eval o).run P I= .ok (.value v) I)\/
 (Region.wanted o (yielded ops a.tmps)=rs/\v=undef)
theorem jy.put{o e:U9}{a:Act}{w0:x3->Prop}(f:jy P ops o v a w0)(U:∀cs b,o.op≠ .select cs b)(h:∀t,e.dst=σ t->t∉o.looksAt ops)(u:x1):
  jy P ops o v (a.put e.dst u) w0:=by
 unfold jy at*;rw[execOp_put o U a e.dst u h,wanted_put o a e.dst u h];exact f
theorem jy.go{i:Nat}{e:U9}{a:Act}{w0:x3->Prop}(hi:ops[i]?=σ e)(f:jy P ops e v a w0)(hw:w0 w){K:Act->x3->Prop}(h:K (a.put e.dst v) w):
  wpOpIn (eN r) 0 P ops Q i K a w:=by
 unfold wpOpIn;simp only[hi];rcases f with⟨h1,j,p⟩|⟨h1,rfl⟩
 .rw[m3 h1];refine⟨λ_ _=>trivial,?_⟩
  grind [U9.semAt_eq,U9.uponIn_value]
 .rw[h1];exact⟨λ_ _=>trivial,h⟩
theorem H3{e f:U9}(q:ops[j]?=σ f)(s:e.apart ops f=ro)(y:∀cs b,e.op≠ .select cs b)(z:∀cs b,f.op≠ .select cs b)(C:∀c a w,¬Q (.panic c) a w){K:Act->x3->Prop}{a:Act}{w:x3}{w0:x3->Prop}(p:jy P ops e v a w0)(h:wpOpIn (eN r) 0 P ops Q j K (a.put e.dst v) w):
  wpOpIn (eN r) 0 P ops Q j (λa' I=>jy P ops e v a' w0/\K (a'.put e.dst v) I) a w:=by
 obtain⟨h1,E,A⟩:=U9.apart_spec s;have aZ:∀(a:Act),jy P ops e v a w0->∀u,jy P ops e v (a.put f.dst u) w0:=λa p u=>p.put y A u;have F:∀d,jy P ops e v {a with defers:=d::a.defers} w0:=λd=>p;unfold wpOpIn at*;simp only[q]at*;rw[wanted_put f a e.dst v h1]at h;split
 .rename_i hw;simp only[hw,if_true]at h;obtain⟨_,h⟩:=h;refine⟨λ_ _=>trivial,?_⟩;rw[H1 _ f z a e.dst v h1]at h;generalize (f.semAt (eN r).round a.eval).run P w=B at*;cases B with
  |ok n I=>
   cases n<;>simp only[U9.uponIn]at h ⊢
   all_goals grind [Act.put_comm,Act.put_defers]
  |halt x I=>
   cases x<;>simp only[U9.uponIn]at h ⊢
   grind
 .rename_i hw;simp only[hw]at h;exact⟨λ_ _=>trivial,aZ a p _,by grind [Act.put_comm]⟩
def nw(ops:Array U9)(a:Array Nat):Bool:=
 (Z2 ops.size).all λj=>(Z2 ops.size).all λk=>!((a.getD j 0).testBit k)||
  (match ops[j]? with
   |some o=>o.after.any λe=>Region.binds .any e&&Nat.blt e.on j&&(R4 e.on k||(a.getD e.on 0).testBit k)
   |none=>rs)
def Down(ops:Array U9)(a:Array Bool):Prop:=
 ∀(x:Nat)(o:U9),ops[x]?=σ o->a.getD x rs=ro->∀e∈o.after,Region.binds .any e=ro->a.getD e.on rs=ro
theorem Ax{a:Array Nat}(f:nw ops a=ro){k:Nat}(p:j<ops.size)(hk:k<ops.size)(h:(a.getD j 0).testBit k=ro):
  ∃o,ops[j]?=σ o/\∃e∈o.after,Region.binds .any e=ro/\e.on<j/\(e.on=k\/(a.getD e.on 0).testBit k=ro):=by
 simp only[nw,List.all_eq_true,V7]at f
 grind [Nat.blt_eq,Nat.eq_of_beq_eq_true]
theorem H4{f:Array Nat}{a:Array Bool}(p:nw ops f=ro)(q:Down ops a):∀(j k:Nat),j<ops.size->k<ops.size->a.getD j rs=ro->
  (f.getD j 0).testBit k=ro->a.getD k rs=ro:=by
 intro j;induction j using Nat.strongRecOn with
 |_ j y=>
  intro k r hk s h;obtain⟨o,w,e,he,x,z,h⟩:=Ax p r hk h;have A:=q j o w s e he x
  grind
theorem H5{e:Array Nat}{a:Array Bool}(p:nw ops e=ro)(q:Down ops a){k:Nat}(hk:k<ops.size)(f:j∈Region.ready .any ops a)(h:(e.getD j 0).testBit k=ro):a.getD k rs=ro:=by
 obtain⟨_,o,r,s⟩:=mem_ready.1 f
 grind [Ax,H4]
theorem Down.set{a:Array Bool}(h:Down ops a){i:Nat}(r:i∈Region.ready .any ops a):Down ops (a.setIfInBounds i ro):=by
 intro x o j f e he p;by_cases q:x=i
 .grind [mem_ready,getD_set_true]
 .rw[getD_set_ne rs (Ne.symm q)]at f;exact getD_set_true (h x o j f e he p)
def pr(ops:Array U9)(i:Nat):Bool:=match ops[i]? with
 |some o=>lM o
 |none=>rs
def ox(a:Array Nat)(e:List (x3×List (Nat×(x3->Prop))))(j:Nat)(I:x3):Prop:=∀g∈e,∀x∈g.2,mw a j x.1=ro->Ext g.1 I\/x.2 I
theorem wZ{e:Array Nat}{j:Nat}{I:x3}:∀{l:List (Nat×(x3->Prop))},r7 e j I l->∀x∈l,mw e j x.1=ro->x.2 I
 |[],_,_,h,_=>by cases h
 |y::l,h,x,a,f=>by
  unfold r7 at h;cases p:mw e j y.1 with
  |true=>
   rw[p]at h;cases a with
   |head=>exact h.1
   |tail _ a=>exact wZ h.2 x a f
  |false=>
   rw[p]at h;cases a with
   |head=>grind
   |tail _ a=>exact wZ (by grind) x a f
theorem H6{e:Array Nat}:∀{l:List (Nat×(x3->Prop))},r6 e j l=rs->∀x∈l,mw e j x.1=rs
 :=by
 intro a;induction a<;>grind [r6]
theorem w1{e:Array Nat}{j:Nat}{I:x3}{C:Prop}:∀{w:List (x3×List (Nat×(x3->Prop)))},pp e j I C w->C/\ox e w j I
 |[],h=>⟨h,λg z=>by cases z⟩
 |g::r,h=>by
  unfold pp at h;cases y:r6 e j g.2 with
  |true=>
   rw[y]at h;obtain⟨h1,f⟩:=w1 h.2;refine⟨h1,λp a x q s=>?_⟩;cases a with
   |head=>grind [wZ]
   |tail _ a=>exact f p a x q s
  |false=>
   rw[y]at h;obtain⟨h1,f⟩:=w1 (show pp e j I C r from h);refine⟨h1,λp a x q s=>?_⟩;cases a with
   |head=>grind [H6]
   |tail _ a=>exact f p a x q s
def w2(ops:Array U9)(a:Array Nat)(e:List (x3×List (Nat×(x3->Prop))))(j:Nat)(w I:x3):Prop:=(pr ops j=ro->Ext w I)/\(pr ops j=rs->ox a e j I)
def jT(r:Option Nat)(P:X5)(ops:Array U9)(f:Array Nat)(Q:Exit->Act->x3->Prop):Nat->Array Bool->List (x3×List (Nat×(x3->Prop)))->Act->x3->Prop
 |0,e,_,a,w=>Region.ready .any ops e=[]/\Q .normal a w
 |fuel+1,e,h,a,w=>(Region.ready .any ops e=[]->Q .normal a w)/\
  ∀i∈Region.ready .any ops e,wpOpIn (eN r) 0 P ops Q i (λa' I=>w2 ops f h i w I/\jT r P ops f Q fuel (e.setIfInBounds i ro) h a' I) a w
theorem jT.any{f:Array Nat}:∀(fuel:Nat)(e:Array Bool)(h:List (x3×List (Nat×(x3->Prop))))(a:Act)(w:x3),jT r P ops f Q fuel e h a w->wpAnyIn (eN r) 0 P .any ops Q fuel e a w
 :=by
 intro a;induction a<;>grind [wpOpIn_mono,jT,wpAnyIn]
theorem H7{e:Array Nat}{a:Array Bool}(h:nw ops e=ro)(p:Down ops a){i:Nat}{f:U9}(hi:ops[i]?=σ f)(q:i∈Region.ready .any ops a)(r:j∈Region.ready .any ops a)(s:j≠i):mw e j i=ro:=by
 grind [mem_ready,mw,Nat.eq_of_beq_eq_true,H5]
theorem jT.take{p:Array Nat}(N:nw ops p=ro)(O:Region.noSelect ops=ro)(R:∀c a w,¬Q (.panic c) a w){i:Nat}{q:U9}(hi:ops[i]?=σ q)(ac:lM q=ro){w0:x3}{A B:List (x3×List (Nat×(x3->Prop)))}(F:∀j I,ox p B j I->ox p A j I){st:x3->Prop}(S:nv q=rs->∀j I,mw p j i=ro->ox p B j I->Ext w0 I\/st I):
  ∀(fuel:Nat)(f:Array Bool)(a:Act)(w:x3),Down ops f->
   (∀j y,ops[j]?=σ y->j≠i->f.getD j ro=rs->(∀e∈y.after,Region.binds .any e=ro->e.on≠i)->q.apart ops y=ro)->
   i∈Region.ready .any ops f->jy P ops q v a (ow q w0 st)->ow q w0 st w->
   jT r P ops p Q fuel (f.setIfInBounds i ro) B (a.put q.dst v) w->jT r P ops p Q (fuel+1) f A a w:=by
 have ad:=Region.noSelect_spec O;have T:pr ops i=ro:=by grind [pr]
 have jU:∀(fuel:Nat)(f:Array Bool)(a:Act)(w:x3),jT r P ops p Q fuel f B a w->jT r P ops p Q fuel f A a w:=by
  intro fuel;induction fuel with
  |zero=>intro f a w h;exact h
  |succ fuel G=>intro f a w h;exact⟨h.1,λj s=>wpOpIn_mono (λa' I bi=>⟨⟨bi.1.1,λE=>F _ _ (bi.1.2 E)⟩,by grind⟩) (h.2 j s)⟩
 have ae:∀w,w2 ops p A i w w:=λw=>⟨λ_=>Ext.refl _,λh=>by rw[T]at h;cases h⟩;intro fuel;induction fuel with
 |zero=>
  intro f a w _ _ J C hw H;refine⟨by grind,λj s=>?_⟩;by_cases x:j=i
  .subst x;exact C.go hi hw (by grind)
  .have:=ready_mono s x;rw[H.1]at this;cases this
 |succ fuel G=>
  intro f a w K U J C hw H;refine⟨by grind,λj s=>?_⟩;by_cases x:j=i
  .subst x;exact C.go hi hw (by grind)
  .have h1:=H.2 j (ready_mono s x);have V:=H7 N K hi J s x;obtain⟨af,y,W,ag⟩:=mem_ready.1 s;have ah:∀e∈y.after,Region.binds .any e=ro->e.on≠i:=by grind [mem_ready]
   have X:=H3 W (by grind) (by grind) (by grind) R C h1;have Y:∀k ok,ops[k]?=σ ok->k≠i->(f.setIfInBounds j ro).getD k ro=rs->
     (∀e∈ok.after,Region.binds .any e=ro->e.on≠i)->q.apart ops ok=ro:=λk ok hk Z L aa=>by
    refine U k ok hk Z ?_ aa;by_cases ab:j=k
    .grind
    .rw[getD_set_ne ro ab]at L;exact L
   refine wpOpIn_mono (λa' I z=>⟨⟨z.2.1.1,λE=>F _ _ (z.2.1.2 E)⟩,G (f.setIfInBounds j ro) a' I (K.set s) Y (by grind [ready_mono]) z.1 ?_ ?_⟩) X
   .cases hm:nv q with
    |true=>exact .inl hm
    |false=>
     cases M:pr ops j with
     |true=>exact hw.W (z.2.1.1 M)
     |false=>exact .inr ((S hm j I V (z.2.1.2 M)).imp id (by grind [Ext.refl]))
   grind [Array.setIfInBounds_comm]
theorem Ay{p:Nat->Prop}:∀{l:List Nat},wX p l->∀i∈l,p i
 |[],_,_,h=>by cases h
 |[i],h,j,a=>by cases a with
  |head=>exact h
  |tail _ h=>cases h
 |i::k::l,h,j,a=>by
  obtain⟨h1,e⟩:=h;cases a with
  |head=>exact h1
  |tail _ a=>exact Ay e j a
theorem H8:∀{l:List Nat}{q:Nat},ot ops l=σ q->q∈l/\∃o,ops[q]?=σ o/\lM o=ro
 :=by
 intro a;induction a<;>grind [ot]
theorem H9{o:U9}{e:Env}{a:Act}{K:Env->(x3->Prop)->Prop}(h:wW P ops o e w K)(p:S6 N e a)(z:k6 N o.dst=ro):
  ∃v st,jy P ops o v a (ow o w st)/\∃f,K f st/\S6 N f (a.put o.dst v):=by
 unfold wW at h;have F:∀{e:Env},S6 N e a->nt P o e w K->Region.wanted o (yielded ops a.tmps)=ro->∃v st,jy P ops o v a (ow o w st)/\∃f,K f st/\S6 N f (a.put o.dst v):=λp h hw=>by
  obtain⟨v,st,h1,A,B,G⟩:=Au h p z;exact⟨v,st,.inl ⟨hw,B,λI C=>C.elim (λhm=>H2 hm (h1 w (Ext.refl w))) (by grind)⟩,A⟩
 have skip:∀{e:Env},S6 N e a->K (eh e o.dst .u) (λ_=>True)->Region.wanted o (yielded ops a.tmps)=rs->∃v st,jy P ops o v a (ow o w st)/\∃f,K f st/\S6 N f (a.put o.dst v):=λp h hw=>
  ⟨undef,_,.inr ⟨hw,rfl⟩,_,h,p.put z rfl⟩
 cases q:o.guard with
 |none=>grind [Region.wanted]
 |some E=>
  obtain⟨j,b⟩:=E;rw[q]at h;simp only at h;cases r:(ops[j]?).bind (·.dst)with
  |none=>grind
  |some s=>
   rw[r]at h;simp only at h;cases U:look e s with
   |none=>grind
   |some x=>
    rw[U]at h;cases x with
    |b c=>
     simp only at h;have hw:=tV p q r U rfl
     grind
    |v y=>
     simp only at h;obtain⟨c,rfl,H,J⟩:=h;have hw:=tV p q r U rfl;have L:=p.lit U rfl
     grind
    |u=>grind [Av]
theorem Ia:∀{l:List Nat},ot ops l=ν->∀j∈l,pr ops j=rs
 :=by
 intro a;induction a<;>grind [ot,pr]
theorem Ib{s:Array Nat}{same:Bool}{q:Nat}{st:x3->Prop}{f:List (x3×List (Nat×(x3->Prop)))}(U:same=ro->∃e r,f=(w,e)::r):
  (∀j I,ox s (tU same q w st f) j I->ox s f j I)/\(∀j I,mw s j q=ro->ox s (tU same q w st f) j I->Ext w I\/st I)/\∃e r,tU same q w st f=(w,e)::r:=by
 cases same with
 |true=>
  obtain⟨e,r,rfl⟩:=U rfl;refine⟨λj I h g p x y a=>?_,λj I a h=>h (w,(q,st)::e) (.head _) (q,st) (.head _) a,_,_,rfl⟩;cases p with
  |head=>exact h (w,(q,st)::e) (.head _) x (.tail _ y) a
  |tail _ p=>exact h g (.tail _ p) x y a
 |false=>
  refine⟨λj I h g p x y a=>h g (.tail _ p) x y a,λj I a h=>h (w,[(q,st)]) (.head _) (q,st) (.head _) a,_,_,rfl⟩
theorem Ic{K:Env->x3->Prop}{z:Array Nat}(U:nw ops z=ro)(V:Region.noSelect ops=ro)(W:∀c a w,¬Q (.panic c) a w)(aj:∀o∈ops.toList,∀t,o.dst=σ t->t∈D)(ak:pq N ops.toList=ro):
  ∀(fuel:Nat)(f:Array Bool)(same:Bool)(p:List (x3×List (Nat×(x3->Prop))))(e:Env)(a:Act)(w:x3),Down ops f->(same=ro->∃ab r,p=(w,ab)::r)->
   ou P free ops z fuel f same p e w K->S6 N e a->
   (∀a' I,ov N free K D a w a' I->Q .normal a' I)->jT r P ops z Q fuel f p a w:=by
 have mem:∀{j:Nat}{o:U9},ops[j]?=σ o->o∈ops.toList:=λh=>by
  grind
 have ok:∀{j:Nat}{o:U9},ops[j]?=σ o->k6 N o.dst=ro:=by grind [pq]
 intro fuel;induction fuel with
 |zero=>
  intro f same p e a w B L h E C;unfold ou at h;cases A:Region.ready .any ops f with
  |nil=>rw[A]at h;exact⟨A,C a w ⟨e,h,E,gU.refl _ _,λ_=>cL.refl _ _⟩⟩
  |cons i l=>grind
 |succ fuel M=>
  intro f same p e a w B L h E C;unfold ou at h;cases A:Region.ready .any ops f with
  |nil=>
   rw[A]at h;refine⟨λ_=>C a w ⟨e,h,E,gU.refl _ _,λ_=>cL.refl _ _⟩,λi hi=>?_⟩;rw[A]at hi;cases hi
  |cons i l=>
   rw[A]at h;simp only at h;cases F:ot ops (i::l)with
   |some q=>
    rw[F]at h;simp only at h;obtain⟨al,o,s,X⟩:=H8 F;cases O:Region.free .any ops f q with
    |false=>grind
    |true=>
     rw[O,s]at h;simp only[cond_true]at h;obtain⟨v,st,Y,G,y,Z⟩:=H9 h E (ok s);have H:q∈Region.ready .any ops f:=by grind
     cases hm:nv o with
     |true=>
      rw[hm]at y;refine jT.take U V W s X (λ_ _ h=>h) (by grind) fuel f a w B (Region.free_spec s O) H Y (.inr (.inl (Ext.refl _))) ?_;exact M _ same p G _ w (B.set H) L y Z λa' I x=>C a' I (x.step (by grind [gU.put]) λ_=>cL.refl _ _)
     |false=>
      rw[hm]at y;obtain⟨h1,ac,ad⟩:=Ib L;refine jT.take U V W s X h1 (λ_=>ac) fuel f a w B (Region.free_spec s O) H Y (.inr (.inl (Ext.refl _))) ?_;exact M _ ro _ G _ w (B.set H) (λ_=>ad) y Z λa' I x=>C a' I (x.step (by grind [gU.put]) λ_=>cL.refl _ _)
   |none=>
    rw[F]at h;simp only at h;refine⟨by grind,λj aa=>?_⟩;have R:=aa;rw[A]at R;have ae:=Ia F j R;have x:=Ay h j R;cases s:ops[j]? with
    |none=>rw[s]at x;exact x.elim
    |some o=>
     rw[s]at x;simp only at x;unfold wpOpIn;simp only[s];have next:∀S J,fA N free (λG I=>pp z j I (ou P free ops z fuel (f.setIfInBounds j ro) rs p G I K) p) o a w S J->
       w2 ops z p j w J/\jT r P ops z Q fuel (f.setIfInBounds j ro) p S J:=by
      rintro S J ⟨af,v,y,ag,rfl,ah⟩;obtain⟨y,ai⟩:=w1 y;exact⟨⟨λh=>(by rw[ae]at h;cases h),λ_=>ai⟩,
       M _ rs p af _ J (B.set aa) (by grind) y ag λa' I x=>C a' I (x.step (by grind [gU.put]) ah)⟩
     rcases Aw x E (ok s)with⟨hw,T⟩|⟨hw,T⟩
     .rw[m3 hw];exact U9.wpIn_mono next T
     .rw[hw];exact⟨λ_ _=>trivial,next _ _ T⟩
theorem Ie(hm:P.follows .mixedOrders=ro){K:Env->x3->Prop}{id:Nat}{e:Env}{a:Act}(j:nw ops (Region.before ops)=ro)(p:∀c a w,¬Q (.panic c) a w)(q:∀o∈ops.toList,∀t,o.dst=σ t->t∈D)(s:pq N ops.toList=ro)(h:∀I,Ext w I->Ext I w->cC w I->wY P free ops e I K)(y:S6 N e a)(z:∀a' I,ov N free K D a w a' I->Q .normal a' I):
  (Code.region id ops ro).wpIn (eN r) 0 P Q a w:=by
 refine wpIn_region_any hm ?_;have h:=h {w with drawn:=w.drawn+1} (r3 w _) ⟨p9 _,λ_ _ h _=>h⟩ (by grind [qG]);unfold wY at h;cases f:Region.noSelect ops with
 |false=>grind
 |true=>
  rw[f]at h;refine jT.any _ _ _ _ _ (Ic j f p q s ops.size _ rs [] e a _ ?_ (by grind) h y λa' I A=>z a' I (A.step (gU.refl _ _) λ_=>(qG w _ (Nat.le_succ _)).b));intro x o _ B;rcases Nat.lt_or_ge x ops.size with bi|bi
  .simp[bi]at B
  grind
end
def lO(t:Nat):List Nat->Bool
 |[]=>rs
 |s::r=>bif R4 s t then ro else lO t r
theorem If{t:Nat}:∀{l:List Nat},lO t l=ro↔t∈l
 :=by
 intro a;induction a<;>grind [lO,Nat.eq_of_beq_eq_true,Nat.ne_of_beq_eq_false]
def ps:List U9->List Nat
 |[]=>[]
 |o::l=>match o.dst with
  |some d=>d::ps l
  |none=>ps l
def tmpsOf:List S0->List Nat
 |[]=>[]
 | .tmp t::l=>t::tmpsOf l
 |_::l=>tmpsOf l
def Ig(ops:Array U9)(o:U9):List Nat:=
 match o.guard with
 |some (j,_)=>match(ops[j]?).bind (·.dst)with
  |some s=>[s]
  |none=>[]
 |none=>[]
def tW(D:List Nat):List Nat->List Nat
 |[]=>[]
 |t::r=>bif lO t D then tW D r else t::tW D r
def w3(D:List Nat):List Nat->List Nat
 |[]=>[]
 |t::r=>bif lO t D then t::w3 D r else w3 D r
def Az(ops:Array U9):List U9->List Nat->List Nat
 |[],_=>[]
 |o::l,D=>tW D (tmpsOf (opsOf o.op)++Ig ops o)++Az ops l (match o.dst with
  |some d=>d::D
  |none=>D)
def dK:Code->List Nat
 | .region _ ops _=>ps ops.toList
 | .seq a b=>dK a++dK b
 | .cond _ a b=>dK a++dK b
 | .block _ c=>dK c
 | .loop c=>dK c
 | .scope c=>dK c
 |_=>[]
def k7(id:Nat):Code->Nat
 | .seq a b=>k7 id a+k7 id b
 | .cond _ a b=>k7 id a+k7 id b
 | .block _ c=>k7 id c
 | .loop c=>k7 id c
 | .scope c=>k7 id c
 | .exit i=>bif R4 i id then 1 else 0
 | .rangeFunc _ _ _ b=>k7 id b
 |_=>0
def Ih(ops:Array U9):Bool:=
 let a:=Region.before ops;let e:=λ(i:Nat)=>match ops[i]? with|some o=>!(lM o)|none=>rs
 (Z2 ops.size).any λj=>e j&&((Z2 j).any λi=>e i&&(!((a.getD j 0).testBit i)&& !((a.getD i 0).testBit j)))
def my:Code->Nat
 | .region _ ops e=>bif (e&&Ih ops)||ops.any (·.guard.isSome)then 2 else 1
 | .seq a b=>bif R4 (my a) 0 then 0 else my b
 | .cond _ a b=>my a+my b
 | .block id c=>my c+k7 id c
 | .loop _=>0
 | .scope c=>my c
 | .exit _=>0
 | .goto _=>0
 | .ret=>0
 | .refuse _=>0
 |_=>1
def nx:Code->List Nat
 | .region _ ops _=>ps ops.toList
 | .seq a b=>nx a++nx b
 | .cond _ a b=>bif R4 (my a) 0 then nx b else bif R4 (my b) 0 then nx a else w3 (nx a) (nx b)
 | .block id c=>bif R4 (k7 id c) 0 then nx c else[]
 | .scope c=>nx c
 |_=>[]
def reads:Code->List Nat
 | .region _ ops _=>Az ops ops.toList []
 | .seq a b=>reads a++tW (nx a) (reads b)
 | .cond c a b=>tmpsOf [c]++(reads a++reads b)
 | .block _ c=>reads c
 | .loop c=>reads c
 | .scope c=>reads c
 | .rangeFunc f _ a b=>tmpsOf [f]++(reads a++reads b)
 |_=>[]
def lP:Code->Bool
 | .seq a b=>lP a||lP b
 | .cond _ a b=>lP a||lP b
 | .block _ c=>lP c
 | .loop c=>lP c
 | .scope c=>lP c
 | .rangeFunc ..=>ro
 |_=>rs
def wf(N:Nat):Code->Bool
 | .region _ ops e=>pq N ops.toList&&(!e||nw ops (Region.before ops))
 | .seq a b=>wf N a&&wf N b
 | .cond _ a b=>wf N a&&wf N b
 | .block _ c=>wf N c
 | .loop c=>wf N c
 | .scope c=>wf N c
 | .rangeFunc _ f a b=>(f.toList.all λt=>Nat.blt t N)&&(wf N a&&wf N b)
 |_=>ro
def pt:Nat->Type->Type
 |0,β=>β
 |n+1,β=>x1->pt n β
def app{β:Type}:(n:Nat)->pt n β->List x1->β
 |0,f,_=>f
 |n+1,f,[]=>app n (f undef) []
 |n+1,f,v::r=>app n (f v) r
def lam{β:Type}:(n:Nat)->(List x1->β)->pt n β
 |0,f=>f []
 |n+1,f=>λv=>lam n λr=>f (v::r)
def tX:(n:Nat)->pt n Prop->Prop
 |0,p=>p
 |n+1,p=>∀v,tX n (p v)
theorem w4{β:Type}:∀(n:Nat)(f:List x1->β)(vs:List x1),vs.length=n->app n (lam n f) vs=f vs
 :=by
 intro a b c;induction c generalizing a b<;>grind [app,lam]
theorem tY:∀(n:Nat)(p:pt n Prop)(vs:List x1),tX n p->app n p vs
 |0,_,_,h=>h
 |n+1,_,[],h=>tY n _ [] (h undef)
 |n+1,_,v::r,h=>tY n _ r (h v)
def Ii(n:Nat)(vs:List x1)(w:x3)(B:List x1->x3->(List x1->x3->Prop)->Prop):Prop:=
 ∃(a:pt n (x3->Prop))(e:pt n (x3->Nat)),app n a vs w/\
  tX n (lam n λus=>∀I,app n a us I->B us I λf h=>app n a f h/\app n e f h<app n e us I)
def Ij(w:x3)(B:x3->(x3->Prop)->Prop):Prop:=
 ∃(a:x3->Prop)(e:x3->Nat),a w/\∀I,a I->B I λf=>a f/\e f<e I
def cm(a:x1)(w:x3)(B:x1->x3->(x1->x3->Prop)->Prop):Prop:=
 ∃(e:x1->x3->Prop)(f:x1->x3->Nat),e a w/\∀a I,e a I->B a I λa' h=>e a' h/\f a' h<f a I
def b2(a b:x1)(w:x3)(B:x1->x1->x3->(x1->x1->x3->Prop)->Prop):Prop:=
 ∃(e:x1->x1->x3->Prop)(f:x1->x1->x3->Nat),e a b w/\∀a b I,e a b I->B a b I λa' h j=>e a' h j/\f a' h j<f a b I
def k8(a b c:x1)(w:x3)(B:x1->x1->x1->x3->(x1->x1->x1->x3->Prop)->Prop):Prop:=
 ∃(e:x1->x1->x1->x3->Prop)(f:x1->x1->x1->x3->Nat),e a b c w/\
  ∀a b c I,e a b c I->B a b c I λa' h j p=>e a' h j p/\f a' h j p<f a b c I
def tZ(a b c d:x1)(w:x3)(B:x1->x1->x1->x1->x3->(x1->x1->x1->x1->x3->Prop)->Prop):Prop:=
 ∃(e:x1->x1->x1->x1->x3->Prop)(f:x1->x1->x1->x1->x3->Nat),e a b c d w/\
  ∀a b c d I,e a b c d I->B a b c d I λa' h j p q=>e a' h j p q/\f a' h j p q<f a b c d I
def sa(a b c d e:x1)(w:x3)(B:x1->x1->x1->x1->x1->x3->(x1->x1->x1->x1->x1->x3->Prop)->Prop):Prop:=
 ∃(f:x1->x1->x1->x1->x1->x3->Prop)(h:x1->x1->x1->x1->x1->x3->Nat),f a b c d e w/\∀a b c d e I,f a b c d e I->B a b c d e I λa' j p q r s=>f a' j p q r s/\h a' j p q r s<h a b c d e I
def Ik(a b c d e f:x1)(w:x3)(B:x1->x1->x1->x1->x1->x1->x3->(x1->x1->x1->x1->x1->x1->x3->Prop)->Prop):Prop:=
 ∃(h:x1->x1->x1->x1->x1->x1->x3->Prop)(j:x1->x1->x1->x1->x1->x1->x3->Nat),h a b c d e f w/\∀a b c d e f I,h a b c d e f I->B a b c d e f I λa' p q r s x y=>h a' p q r s x y/\j a' p q r s x y<j a b c d e f I
def cz{α:Type}(ay:α)(B:α->Prop):Prop:=B ay
def w5(n:Nat)(w:x3)(K:x3->Prop):Prop:=∀I,Ext w I->Ext I w/\fL n w I->K I
def Over(n:Nat)(w:x3)(K:x3->Prop):Prop:=∀I,Ext w I->Ext I w/\fL n w I->fc w I->K I
def eu(w:x3)(K:x3->Prop):Prop:=∀I,Ext w I->Ext I w->cC w I->K I
def lQ(e:Env):List Nat->Option (List x1)
 |[]=>σ []
 |t::r=>match look e t with
  |some x=>match lQ e r with
   |some vs=>σ (x.val::vs)
   |none=>ν
  |none=>ν
def kq:List Nat->List x1->Env->Env
 |t::r,v::vs,e=>(t,.v v)::kq r vs e
 |_,_,e=>e
def oy(D:List Nat):Env->Env
 |[]=>[]
 |(t,x)::r=>bif lO t D then oy D r else(t,x)::oy D r
def sb(N:Nat)(D R:List Nat):List Nat:=(Z2 N).filter λt=>lO t D&&lO t R
def sd(N:Nat)(D R:List Nat)(e:Env):List Nat:=(Z2 N).filter λt=>lO t D&&((look e t).isSome&&lO t R)
def kr:Code->Bool
 | .seq a b=>kr a||kr b
 | .cond _ a b=>kr a||kr b
 | .block _ c=>kr c
 | .loop c=>kr c
 | .scope c=>kr c
 | .rangeFunc _ _ a b=>kr a||kr b
 | .ret=>ro
 |_=>rs
def Il(i:Nat)(l:List Nat):List Nat:=bif lO i l then l else i::l
def ua:List Nat->List Nat->List Nat
 |[],l=>l
 |i::r,l=>Il i (ua r l)
def w6(i:Nat):List Nat->List Nat
 |[]=>[]
 |j::r=>bif R4 i j then w6 i r else j::w6 i r
def k9:Code->List Nat
 | .seq a b=>ua (k9 a) (k9 b)
 | .cond _ a b=>ua (k9 a) (k9 b)
 | .block id c=>w6 id (k9 c)
 | .loop c=>k9 c
 | .scope c=>k9 c
 | .rangeFunc _ _ a b=>ua (k9 a) (k9 b)
 | .exit i=>[i]
 |_=>[]
def oz:List (Nat×(x3->Prop))->Nat->x3->Prop
 |[],_,_=>False
 |(j,k)::r,i,w=>(i=j/\k w)\/oz r i w
def ub(K:Nat->x3->Prop):List Nat->List (Nat×(x3->Prop))
 |[]=>[]
 |i::r=>(i,λw=>K i w)::ub K r
theorem Im{K:Nat->x3->Prop}:∀{l:List Nat}{i:Nat}{w:x3},oz (ub K l) i w->K i w
 :=by
 intro a;induction a<;>grind [oz,ub]
section
variable(P:X5)
def qN{a:Type}(G:Bool)(g:Q2)(cap:List x1)(p:a)(q:a->Prop)(r:a->List x1->a->x3->Prop)(h:x3->Prop):Prop:=
 Enters P g/\∀(l:Nat)(ay e:a->x3->Prop)(w:x3),
  (∀k J V,Ext J V->cL w.heap.size J V->ay k J->ay k V)->(∀k J V,Ext J V->cL w.heap.size J V->e k J->e k V)->
  (∀k j vs I,h I->r k vs j I->ay k I->jg P l vs I λv f=>(v= .bool ro/\h f/\ay j f/\(G=ro->cC I f))\/(v= .bool rs/\e k f))->
  h w->ay p w->gT P g (.func (.yield l) #[] #[]::cap) w λ_ I=>(∃k,q k/\ay k I)\/∃k,e k I
def w7(G:Bool)(g:Q2)(cap:List x1)(n:Nat)(h:Nat->List x1->x3->Prop)(f:x3->Prop):Prop:=
 Enters P g/\∀(l:Nat)(ay a:Nat->x3->Prop)(w:x3),
  (∀k J V,Ext J V->cL w.heap.size J V->ay k J->ay k V)->(∀k J V,Ext J V->cL w.heap.size J V->a k J->a k V)->
  (∀k vs I,k<n->f I->h k vs I->ay k I->jg P l vs I λv e=>(v= .bool ro/\f e/\ay (k+1) e/\(G=ro->cC I e))\/(v= .bool rs/\a k e))->
  f w->ay 0 w->gT P g (.func (.yield l) #[] #[]::cap) w λ_ I=>ay n I\/∃k,k<n/\a k I
def se{e:Type}(o G:Bool)(g:Q2)(cap:List x1)(p:e)(q:e->Prop)(s:e->List x1->e->x3->Prop)(h:(Nat->Prop)->x3->Prop):Prop:=
 Enters P g/\∀(l:Nat)(ay f:(Nat->Prop)->e->x3->Prop)(w:x3),
  (∀D k J V,af (λr=>o=ro/\w.heap.size<=r/\¬D r) J V->fL w.heap.size J V->ay D k J->ay D k V)->
  (∀D k J V,af (λr=>o=ro/\w.heap.size<=r/\¬D r) J V->fL w.heap.size J V->f D k J->f D k V)->
  (∀D k j vs I,(∀r,D r->w.heap.size<=r/\r<I.heap.size)->w.heap.size<=I.heap.size->h D I->s k vs j I->ay D k I->jg P l vs I λv a=>
   (v= .bool ro/\(∃D',(∀r,D' r->D r\/I.heap.size<=r/\r<a.heap.size)/\(∀r,D r->D' r)/\h D' a/\ay D' j a)/\(G=ro\/o=ro->cC I a)/\I.heap.size<=a.heap.size/\(o=ro->af (λr=>r<w.heap.size\/D r) I a))\/(o=rs/\v= .bool rs/\f D k a))->
  (h (λ_=>False) w)->ay (λ_=>False) p w->gT P g (.func (.yield l) #[] #[]::cap) w λ_ I=>(∃D k,q k/\ay D k I)\/∃D k,f D k I
abbrev qO(g:Q2)(cap:List x1)(n:Nat)(a:Nat->List x1->x3->Prop)(e:x3->Prop):Prop:=w7 P rs g cap n a e
def Io(z:x1)(q:Nat)(w:x3)(B:List x1->x3->(Exit->x3->Prop)->Prop)(A C:x3->Prop)(E:List (Nat×(x3->Prop))):Prop:=
 ∃(h:Type)(o G:Bool)(g:Q2)(cap:Array x1)(x:h)(y:h->Prop)(s:h->List x1->h->x3->Prop)(e:(Nat->Prop)->x3->Prop)(f:(Nat->Prop)->h->x3->Prop)(j:(Nat->Prop)->h->Exit->x3->Prop),
  z= .func (.func g) #[] cap/\se P o G g cap.toList x y s e/\(∀k vs p w,s k vs p w->vs.length=q)/\
  (∀m w I,Ext w I->e m w->e m I)/\(∀m k J V,af (λr=>o=ro/\w.heap.size<=r/\¬m r) J V->fL w.heap.size J V->f m k J->f m k V)/\(∀m k ex J V,af (λr=>o=ro/\w.heap.size<=r/\¬m r) J V->fL w.heap.size J V->j m k ex J->j m k ex V)/\
  e (λ_=>False) w/\f (λ_=>False) x w/\
  tX q (lam q λvs=>∀m k p I,(∀r,m r->w.heap.size<=r/\r<I.heap.size)->w.heap.size<=I.heap.size->e m I->s k vs p I->f m k I->B vs I λex a=>match ex with
   | .normal=>bif o then(∃bK,(∀r,bK r->m r\/I.heap.size<=r/\r<a.heap.size)/\(∀r,m r->bK r)/\e bK a/\f bK p a)/\fc I a/\af (λr=>r<w.heap.size\/m r) I a else e m a/\f m p a/\(G=ro->fc I a)
   |ex=>bif o then False else j m k ex a)/\
  (∀m k I,y k->f m k I->A I)/\(∀m k I,j m k .ret I->C I)/\(∀m k i I,j m k (.exit i) I->oz E i I)
def mz(z:x1)(w:x3)(B:x1->x3->(Exit->x3->Prop)->Prop)(A C:x3->Prop)(E:List (Nat×(x3->Prop))):Prop:=
 ∃(j:Type)(o G:Bool)(g:Q2)(cap:Array x1)(x:j)(y:j->Prop)(s:j->List x1->j->x3->Prop)(f:(Nat->Prop)->x3->Prop)(h:(Nat->Prop)->j->x3->Prop)(p:(Nat->Prop)->j->Exit->x3->Prop),
  z= .func (.func g) #[] cap/\se P o G g cap.toList x y s f/\(∀k vs q w,s k vs q w->vs.length=1)/\
  (∀m w I,Ext w I->f m w->f m I)/\(∀m k J V,af (λr=>o=ro/\w.heap.size<=r/\¬m r) J V->fL w.heap.size J V->h m k J->h m k V)/\(∀m k ex J V,af (λr=>o=ro/\w.heap.size<=r/\¬m r) J V->fL w.heap.size J V->p m k ex J->p m k ex V)/\
  f (λ_=>False) w/\h (λ_=>False) x w/\
  (∀a,∀m k q I,(∀r,m r->w.heap.size<=r/\r<I.heap.size)->w.heap.size<=I.heap.size->f m I->s k [a] q I->h m k I->B a I λex e=>match ex with
   | .normal=>bif o then(∃bK,(∀r,bK r->m r\/I.heap.size<=r/\r<e.heap.size)/\(∀r,m r->bK r)/\f bK e/\h bK q e)/\fc I e/\af (λr=>r<w.heap.size\/m r) I e else f m e/\h m q e/\(G=ro->fc I e)
   |ex=>bif o then False else p m k ex e)/\
  (∀m k I,y k->h m k I->A I)/\(∀m k I,p m k .ret I->C I)/\(∀m k i I,p m k (.exit i) I->oz E i I)
def mA(z:x1)(w:x3)(B:x1->x1->x3->(Exit->x3->Prop)->Prop)(A C:x3->Prop)(E:List (Nat×(x3->Prop))):Prop:=
 ∃(j:Type)(o G:Bool)(g:Q2)(cap:Array x1)(x:j)(y:j->Prop)(s:j->List x1->j->x3->Prop)(f:(Nat->Prop)->x3->Prop)(h:(Nat->Prop)->j->x3->Prop)(p:(Nat->Prop)->j->Exit->x3->Prop),
  z= .func (.func g) #[] cap/\se P o G g cap.toList x y s f/\(∀k vs q w,s k vs q w->vs.length=2)/\
  (∀m w I,Ext w I->f m w->f m I)/\(∀m k J V,af (λr=>o=ro/\w.heap.size<=r/\¬m r) J V->fL w.heap.size J V->h m k J->h m k V)/\(∀m k ex J V,af (λr=>o=ro/\w.heap.size<=r/\¬m r) J V->fL w.heap.size J V->p m k ex J->p m k ex V)/\
  f (λ_=>False) w/\h (λ_=>False) x w/\
  (∀a b,∀m k q I,(∀r,m r->w.heap.size<=r/\r<I.heap.size)->w.heap.size<=I.heap.size->f m I->s k [a,b] q I->h m k I->B a b I λex e=>match ex with
   | .normal=>bif o then(∃bK,(∀r,bK r->m r\/I.heap.size<=r/\r<e.heap.size)/\(∀r,m r->bK r)/\f bK e/\h bK q e)/\fc I e/\af (λr=>r<w.heap.size\/m r) I e else f m e/\h m q e/\(G=ro->fc I e)
   |ex=>bif o then False else p m k ex e)/\
  (∀m k I,y k->h m k I->A I)/\(∀m k I,p m k .ret I->C I)/\(∀m k i I,p m k (.exit i) I->oz E i I)
theorem w7.s{P:X5}{G:Bool}{g:Q2}{cap:List x1}{e:Nat->List x1->x3->Prop}{a:x3->Prop}(h:w7 P G g cap n e a):
  qN P G g cap 0 (λk=>k=n) (λk vs f w=>k<n/\f=k+1/\e k vs w) a:=by
 refine⟨h.1,λl ay j w p q r ha x=>?_⟩;have:=h.2 l ay (λk w=>j k w) w p q (λk vs I hk hy B z=>r k (k+1) vs I hy (by grind) z) ha x;cases this with
 |code h1 A=>exact .code h1 (A.X (by grind))
 |ext v I h1 C=>exact .ext v I h1 (by grind)
theorem qN.x{P:X5}{f:Type}{G:Bool}{g:Q2}{cap:List x1}{s:f}{y:f->Prop}{z:f->List x1->f->x3->Prop}{j:x3->Prop}(h:qN P G g cap s y z j):se P rs G g cap s y z λ_=>j:=by
 refine⟨h.1,λl ay B w C E F hj N=>?_⟩;have:=h.2 l (λk I=>w.heap.size<=I.heap.size/\∃D,(∀r,D r->w.heap.size<=r/\r<I.heap.size)/\ay D k I) (λk I=>∃D,B D k I) w
  (λk J V a q ⟨U,D,p,e⟩=>⟨Y2 U a.size,D,λr A=>⟨(p r A).1,Nat.lt_of_lt_of_le (p r A).2 a.size⟩,C D k J V (a.aa _) q.o e⟩) (λk J V a q ⟨D,e⟩=>⟨D,E D k J V (a.aa _) q.o e⟩)
  (λk H vs I hK L ⟨U,D,p,e⟩=>jg.X (F D k H vs I p U hK L e) (by grind)) hj (by grind)
 cases this with
 |code h1 M=>exact .code h1 (M.X (by grind))
 |ext v I h1 O=>exact .ext v I h1 (by grind)
theorem mz.old{P:X5}{C:x1}{B:x1->x3->(Exit->x3->Prop)->Prop}{E F:x3->Prop}{H:List (Nat×(x3->Prop))}(h:∃(e:Type)(G:Bool)(g:Q2)(cap:Array x1)(r:e)(s:e->Prop)(q:e->List x1->e->x3->Prop)(f:x3->Prop)(j:e->x3->Prop)(p:e->Exit->x3->Prop),
  C= .func (.func g) #[] cap/\qN P G g cap.toList r s q f/\(∀k vs y w,q k vs y w->vs.length=1)/\
  (∀w I,Ext w I->f w->f I)/\(∀k w I,Ext w I->j k w->j k I)/\(∀k ex w I,Ext w I->p k ex w->p k ex I)/\
  f w/\j r w/\
  (∀a,∀k y I,f I->q k [a] y I->j k I->B a I λex z=>match ex with
   | .normal=>f z/\j y z/\(G=ro->fc I z)
   |ex=>p k ex z)/\
  (∀k I,s k->j k I->E I)/\(∀k I,p k .ret I->F I)/\(∀k i I,p k (.exit i) I->oz H i I)):mz P C w B E F H:=by
 obtain⟨e,G,g,cap,r,s,q,f,j,p,h1,K,L,M,N,O,Q,R,W,S,T,U⟩:=h;exact⟨e,rs,G,g,cap,r,s,q,λ_=>f,λ_=>j,λ_=>p,h1,K.x,L,λ_=>M,λ_ k J V A _=>N k J V (A.W (by grind)),λ_ k ex J V A _=>O k ex J V (A.W (by grind)),Q,R,
  by grind,λ_=>S,λ_=>T,λ_=>U⟩
theorem mA.old{P:X5}{C:x1}{B:x1->x1->x3->(Exit->x3->Prop)->Prop}{E F:x3->Prop}{H:List (Nat×(x3->Prop))}(h:∃(e:Type)(G:Bool)(g:Q2)(cap:Array x1)(r:e)(s:e->Prop)(q:e->List x1->e->x3->Prop)(f:x3->Prop)(j:e->x3->Prop)(p:e->Exit->x3->Prop),
  C= .func (.func g) #[] cap/\qN P G g cap.toList r s q f/\(∀k vs y w,q k vs y w->vs.length=2)/\
  (∀w I,Ext w I->f w->f I)/\(∀k w I,Ext w I->j k w->j k I)/\(∀k ex w I,Ext w I->p k ex w->p k ex I)/\
  f w/\j r w/\
  (∀a b,∀k y I,f I->q k [a,b] y I->j k I->B a b I λex z=>match ex with
   | .normal=>f z/\j y z/\(G=ro->fc I z)
   |ex=>p k ex z)/\
  (∀k I,s k->j k I->E I)/\(∀k I,p k .ret I->F I)/\(∀k i I,p k (.exit i) I->oz H i I)):mA P C w B E F H:=by
 obtain⟨e,G,g,cap,r,s,q,f,j,p,h1,K,L,M,N,O,Q,R,W,S,T,U⟩:=h;exact⟨e,rs,G,g,cap,r,s,q,λ_=>f,λ_=>j,λ_=>p,h1,K.x,L,λ_=>M,λ_ k J V A _=>N k J V (A.W (by grind)),λ_ k ex J V A _=>O k ex J V (A.W (by grind)),Q,R,
  by grind,λ_=>S,λ_=>T,λ_=>U⟩
def eO(N:Nat)(free:fM):Code->List Nat->Env->x3->(Exit->Env->x3->Prop)->Prop
 | .skip,_,e,w,K=>K .normal e w
 | .label _,_,e,w,K=>K .normal e w
 | .ret,_,e,w,K=>K .ret e w
 | .exit i,_,e,w,K=>K (.exit i) e w
 | .region _ ops p,_,e,w,K=>
  bif p then eu w λI=>wY P free ops e I (K .normal)
  else qM P free ops ops.toList e w (K .normal)
 | .seq x y,rd,e,w,K=>
  bif Nat.ble 2 (my x)then
   cz (lam (sb N (dK x) (reads y++rd)).length λvs=>λI=>eO N free y rd (kq (sb N (dK x) (reads y++rd)) vs (oy (dK x) e)) I K)
    λay=>eO N free x (reads y++rd) e w λex a I=>match ex with
     | .normal=>match lQ a (sb N (dK x) (reads y++rd))with
      |some vs=>app (sb N (dK x) (reads y++rd)).length ay vs I
      |none=>False
     |ex=>K ex a I
  else eO N free x (reads y++rd) e w λex a I=>match ex with
   | .normal=>eO N free y rd a I K
   |ex=>K ex a I
 | .cond c x y,rd,e,w,K=>
  match eZ e c with
  |some (.b ro)=>eO N free x rd e w K
  |some (.b rs)=>eO N free y rd e w K
  |some (.v v)=>Split v (eO N free x rd e w K) (eO N free y rd e w K)
  |some .u=>False
  |none=>False
 | .block id c,rd,e,w,K=>eO N free c rd e w λex a I=>match ex with
  | .exit i=>bif R4 i id then K .normal a I else K (.exit i) a I
  |ex=>K ex a I
 | .loop c,rd,e,w,K=>
  match lQ e (sd N (dK c) (reads c++rd) e)with
  |some vs=>
   Ii (sd N (dK c) (reads c++rd) e).length vs w λus I k=>
    eO N free c (reads c++rd) (kq (sd N (dK c) (reads c++rd) e) us (oy (dK c) e)) I λex a h=>match ex with
     | .normal=>match lQ a (sd N (dK c) (reads c++rd) e)with
      |some q=>k q h
      |none=>False
     |ex=>K ex a h
  |none=>False
 | .scope c,rd,e,w,K=>eO N free c rd e w K
 | .rangeFunc f j r body,_,e,w,K=>
  bif free.1 then False else
  match eZ e f with
  |some s=>
   Io P s.val j.size w
    (λvs I k=>eO N free r (reads body) (kq j.toList.reverse vs.reverse e) I λex a h=>match ex with
     | .normal=>Over w.heap.size h λz=>eO N free body [] a z λex _ A=>k ex A
     |_=>False)
    (λI=>K .normal e I) (bif kr body then λI=>K .ret e I else λ_=>False) (ub (λi I=>K (.exit i) e I) (k9 body))
  |none=>False
 | .goto _,_,_,_,_=>False
 | .refuse _,_,_,_,_=>False
end
theorem uc{w0:x3}(h:cL n w0 w){l:Nat}(j:w0.heap.size<=l)(o:Obj):cL n w0 (w.putObj l o):=
 ⟨h.os,h.tape,h.output,by simpa using h.size,λr x a U=>by
  have e:=(Z5.1 a).1;rw[Q3 Ω];exact h.aZ r x a U,λr x f a U=>by
  have e:=(Z5.1 a).1;rw[Q3 Ω];exact h.old r x f a U⟩
theorem Ip{w0:x3}(h:fc w0 w){l:Nat}{a:Obj}(f:w.heap[l]?=σ a)(j:tN a=rs)(o:Obj):fc w0 (w.putObj l o):=λr x e U=>by
 have h1:=h r x e U
 grind [Q3]
theorem sf{l:Nat}{a:Obj}(e:w.heap[l]?=σ a)(f:fK a=rs)(o:Obj):Ext w (w.putObj l o):=
 ⟨Ξ,by grind [Q3]⟩
theorem AA{l:Nat}{o:Obj}(f:fK o=rs):Ext (w.putObj l o) w:=
 ⟨Ξ,λr x a U=>by
  by_cases e:r=l
  .subst e;rcases Nat.lt_or_ge r w.heap.size with h|h
   .grind [x3.putObj_heap_same]
   .rw[Array.getElem?_eq_none (by simpa using h)]at a;cases a
  grind [Q3]⟩
theorem qP(w:x3)(o:Obj):Ext w (w.alloc o):=qH w o
theorem qQ(w:x3)(o:Obj):cC w (w.alloc o):=qI w o
def ny(D:Nat):Deferred:={target:=.collected D,args:=#[]}
def nz(w:x3)(e:List Deferred):Prop:=∃a:List Nat,e=a.map ny/\a.Nodup/\∀D∈a,w.heap[D]?=σ (.deferred (σ []))
theorem nz.cD{a:List Deferred}(h:nz w a)(e:cL n w I):nz I a:=by
 obtain⟨f,h1,j,p⟩:=h;exact⟨f,h1,j,λD q=>e.aZ D _ (p D q) rfl⟩
section
variable{P:X5}{N:Nat}
def Iq(w:x3)(e f:List Deferred):Prop:=∃a:List Nat,f=a.map ny++e/\∀D∈a,w.heap.size<=D
def gV(n:Nat)(w:x3)(e:List Deferred)(I:x3)(a:List Deferred):Prop:=cL n w I/\nz I a/\Iq w e a
theorem gV.refl{a:List Deferred}(h:nz w a):gV n w a w a:=⟨cL.refl _ _,h,[],rfl,by grind⟩
theorem gV.F{J:x3}{a e f:List Deferred}(h:gV n w a J e)(k:gV n J e I f):gV n w a I f:=by
 obtain⟨j,z,p,a3,a4⟩:=h;obtain⟨q,r,s,A,x⟩:=k;refine⟨j.F q,r,s++p,by grind,λD y=>?_⟩;rcases o9.1 y with h|h
 .exact Y2 j.size (x D h)
 grind
theorem gV.same{a:List Deferred}(h:nz w a)(e:cL n w I):gV n w a I a:=⟨e,h.cD e,[],rfl,by grind⟩
def mB:Exit->Bool
 | .panic _=>rs
 | .outgrown=>rs
 | .goto _=>rs
 |_=>ro
def oA(N:Nat)(free:fM)(f:Bool)(K:Exit->Env->x3->Prop)(D:List Nat)(a:Act)(w:x3)(ex:Exit)(a':Act)(I:x3):Prop:=
 mB ex=ro/\∃e,K ex e I/\S6 N e a'/\(∀t,t∉D->a'.tmps.getD t undef=a.tmps.getD t undef)/\(f=ro->a'.defers=a.defers)/\
  (free.1=rs->gV free.2 w a.defers I a'.defers)
theorem oA.step{free:fM}{f j:Bool}{K:Exit->Env->x3->Prop}{D':List Nat}{a e a':Act}{J:x3}{ex:Exit}(h:oA N free j K D' e J ex a' I)(y:∀t,t∈D'->t∈D)(hk:∀t,t∉D->e.tmps.getD t undef=a.tmps.getD t undef)(z:f=ro->j=ro)(A:f=ro->e.defers=a.defers)(p:free.1=rs->gV free.2 w a.defers J e.defers):oA N free f K D a w ex a' I:=by
 obtain⟨q,r,h1,s,B,C,x⟩:=h;exact⟨q,r,h1,s,by grind,by grind,λh=>(p h).F (x h)⟩
theorem AB{t:Nat}{x:eM}:∀{e:Env},look (oy D e) t=σ x->look e t=σ x/\t∉D
 :=by
 intro a;induction a<;>grind [oy,look,If,Nat.eq_of_beq_eq_true]
theorem w8{a:Act}{e:Env}:∀{S:List Nat}{vs:List x1},S6 N e a->(∀p∈S.zip vs,a.tmps.getD p.1 undef=p.2)->S6 N (kq S vs e) a
 |[],_,h,_=>by grind [kq]
 |t::r,[],h,_=>by grind [kq]
 |t::r,v::vs,h,j=>by
  have q:=w8 (S:=r) (vs:=vs) h λp w=>j p (by simp[w]);refine⟨q.1,λs x U=>?_⟩;simp only[kq,look]at U;cases f:R4 t s with
  |true=>
   rw[f]at U;simp only[cond_true,Y8]at U;subst U;rw[<-Nat.eq_of_beq_eq_true f];exact j (t,v) Ξ
  |false=>rw[f]at U;exact q.2 s x U
theorem ud{e:Env}{a:Act}(j:S6 N e a):∀{S:List Nat}{vs:List x1},lQ e S=σ vs->vs.length=S.length/\∀p∈S.zip vs,a.tmps.getD p.1 undef=p.2
 |[],vs,h=>by simp[lQ]at h;subst h;simp
 |t::r,vs,h=>by
  simp only[lQ]at h;cases q:look e t with
  |none=>grind
  |some x=>
   rw[q]at h;simp only at h;cases s:lQ e r with
   |none=>grind
   |some us=>
    rw[s]at h;simp only[Y8]at h;subst h;obtain⟨h1,w⟩:=ud j s;refine⟨by simp[h1],λp f=>?_⟩;simp only[List.zip_cons_cons,T5]at f;rcases f with rfl|f
    .exact j.2 t x q
    grind
theorem Ir{a a':Act}{e f:Env}(j:S6 N e a)(p:S6 N f a')(hk:∀t,t∉D->a'.tmps.getD t undef=a.tmps.getD t undef):S6 N (oy D e) a':=
 ⟨p.1,λt x h=>by
  obtain⟨h1,q⟩:=AB h;rw[hk t q];exact j.2 t x h1⟩
theorem Is{o:U9}{t:Nat}(a:o.dst=σ t)(l:List U9)(hm:o∈l):t∈ps l:=by
 induction l<;>grind [ps]
theorem AC{free:fM}{f:Bool}{K:Exit->Env->x3->Prop}{a a':Act}(q:free.1=rs->nz w a.defers)(h:ov N free (K .normal) D a w a' I):
  oA N free f K D a w .normal a' I:=by
 obtain⟨j,h1,p,e,r⟩:=h;exact⟨rfl,j,h1,p,e.2,λ_=>e.1,λs=>by rw[e.1];grind [gV.same]⟩
theorem AD:∀(a:List Nat)(vs:List x1)(p:Nat)(v:x1)(e:Env),a.length=vs.length->kq (a++[p]) (vs++[v]) e=kq a vs ((p,.v v)::e)
 |[],[],_,_,_,_=>rfl
 |[],_::_,_,_,_,h=>by simp at h
 |_::_,[],_,_,_,h=>by simp at h
 |q::a,u::vs,p,v,e,h=>by
  simp only[List.cons_append,kq];rw[AD a vs p v e (by grind)]
theorem AE:∀(a:List Nat)(vs:List x1)(jV:Array x1)(e:Env),a.length=vs.length->(a.all λt=>Nat.blt t N)=ro->S6 N e {tmps:=jV,defers:=[]}->
  S6 N (kq a.reverse vs.reverse e) {tmps:=(a.zip vs).foldl (λjV (p:Nat×x1)=>jV.setIfInBounds p.1 p.2) jV,defers:=[]}
 |[],[],_,_,_,_,h=>h
 |[],_::_,_,_,h,_,_=>by simp at h
 |_::_,[],_,_,h,_,_=>by simp at h
 |p::a,v::vs,jV,e,q,f,h=>by
  have j:a.length=vs.length:=by grind
  simp only[List.all_cons,V9]at f;simp only[List.zip_cons_cons,List.foldl_cons,List.reverse_cons];rw[AD _ _ _ _ _ (by simpa using j)];exact AE a vs _ _ j f.2 (h.put (d:=σ p) (x:=.v v) (v:=v) f.1 rfl)
def ks(free:fM)(c:Code):Bool:=free.1|| !lP c
theorem AF:∀f a b:Bool,(f|| !(a||b))=ro->(f|| !a)=ro:=Φ
theorem AG:∀f a b:Bool,(f|| !(a||b))=ro->(f|| !b)=ro:=Φ
def exitCode:Exit->Option Code
 | .ret=>σ .ret
 | .exit id=>σ (.exit id)
 |_=>ν
end
section
variable{P:X5}{N:Nat}
def Sound(P:X5)(N:Nat)(c:Code):Prop:=
 ∀(free:fM)(r:Option Nat)(rd:List Nat)(e:Env)(a:Act)(w:x3)(K:Exit->Env->x3->Prop)(Q:Exit->Act->x3->Prop),
  wf N c=ro->(∀l,r=σ l->free.1=rs/\∃f,w.heap[l]?=σ (.loop f))->(free.1=rs->nz w a.defers)->
  eO P N free c rd e w K->S6 N e a->(∀ex a' I,oA N free (ks free c) K (dK c) a w ex a' I->Q ex a' I)->(∀h a w,¬Q (.panic h) a w)->
  c.wpIn (eN r) 0 P Q a w
theorem It{x y:Code}(U:Sound P N x)(V:Sound P N y):Sound P N (.seq x y):=by
 intro free r rd e a w K Q C L W h M O R;simp only[wf,V9]at C;have X:∀t,t∈dK x->t∈dK (.seq x y):=by grind [dK]
 have Y:∀t,t∈dK y->t∈dK (.seq x y):=by grind [dK]
 have Z:ks free (.seq x y)=ro->ks free x=ro:=λh=>AF _ _ _ h;have aa:ks free (.seq x y)=ro->ks free y=ro:=λh=>AG _ _ _ h;refine wpIn_seq ?_;have ab:∀(j:Env)(f:Act)(J:x3),eO P N free y rd j J K->S6 N j f->(∀t,t∉dK x->f.tmps.getD t undef=a.tmps.getD t undef)->
   (ks free (.seq x y)=ro->f.defers=a.defers)->(free.1=rs->gV free.2 w a.defers J f.defers)->y.wpIn (eN r) 0 P Q f J:=by
  intro j f J h1 z hk E p;refine V free r rd j f J K Q C.2 ?_ (λh=>(p h).2.1) h1 z ?_ R
  .intro l ac;obtain⟨S,ad,A⟩:=L l ac;exact⟨S,ad,(p S).1.aZ _ _ A rfl⟩
  .intro ex a' I s;exact O ex a' I (s.step Y (by grind) aa E p)
 have ae:∀(q:Exit->Env->x3->Prop),eO P N free x (reads y++rd) e w q->
   (∀j f J,oA N free (ks free x) q (dK x) a w .normal f J->S6 N j f->q .normal j J->(∀t,t∉dK x->f.tmps.getD t undef=a.tmps.getD t undef)->
    (ks free (.seq x y)=ro->f.defers=a.defers)->(free.1=rs->gV free.2 w a.defers J f.defers)->y.wpIn (eN r) 0 P Q f J)->
   (∀ex j J,ex≠ .normal->q ex j J->K ex j J)->x.wpIn (eN r) 0 P (Exit.then (y.wpIn (eN r) 0 P Q) Q) a w:=by
  intro q B p af;refine U free r _ e a w q _ C.1 L W B M ?_ ?_
  .intro ex f J s;cases ex with
   |normal=>
    have ag:=s;obtain⟨A,j,h1,F,G,T,H⟩:=s;exact p j f J ag F h1 G (by grind) H
   |_=>
    obtain⟨A,j,h1,F,G,T,H⟩:=s;refine O _ f J ⟨A,j,af _ j J Ξ h1,F,λt ah=>G t λh=>ah (X t h),λh=>T (Z h),H⟩
  .intro ai a w aj;exact R ai a w aj
 simp only[eO]at h;cases ak:Nat.ble 2 (my x)with
 |false=>
  grind
 |true=>
  rw[ak]at h;refine ae _ h (λj f J _ z h1 hk E p=>?_) ?_
  .simp only at h1;cases B:lQ j (sb N (dK x) (reads y++rd))with
   |none=>grind
   |some vs=>
    rw[B]at h1;obtain⟨al,am⟩:=ud z B;simp only at h1;rw[w4 _ _ _ al]at h1;exact ab _ f J h1 (w8 (Ir M z hk) am) hk E p
  grind
theorem Iu{c:Code}(aa:Sound P N c):Sound P N (.loop c):=by
 intro free r rd e a w K Q H ab av h A ac ad;simp only[wf]at H;simp only[eO]at h;generalize aw:sd N (dK c) (reads c++rd) e=S at h;cases I:lQ e S with
 |none=>grind
 |some vs=>
  rw[I]at h;simp only at h;obtain⟨ae,af,q,ag⟩:=h;obtain⟨ah,ai⟩:=ud A I;let Inv:Act->x3->Prop:=λf J=>∃us,us.length=S.length/\app S.length ae us J/\(∀p∈S.zip us,f.tmps.getD p.1 undef=p.2)/\f.tmps.size=N/\
   (∀t,t∉dK c->f.tmps.getD t undef=a.tmps.getD t undef)/\(ks free c=ro->f.defers=a.defers)/\(free.1=rs->gV free.2 w a.defers J f.defers)
  let L:Act->List x1:=λf=>S.map λt=>f.tmps.getD t undef;have M:∀(f:Act)(us:List x1),us.length=S.length->(∀p∈S.zip us,f.tmps.getD p.1 undef=p.2)->L f=us:=by
   intro f us s B;apply List.ext_getElem
   .grind
   .intro i h1 j;have hi:i<S.length:=Ω
    have ax:(S[i],us[i])∈S.zip us:=by
     have:=Q4 (l:=S.zip us) (n:=i) (by simp[List.length_zip,s,hi])
     grind
    grind
  refine wpIn_loop Inv (λf J=>app S.length af (L f) J) ⟨vs,ah,q,ai,A.1,λ_ _=>rfl,λ_=>rfl,by grind [gV.refl]⟩ ?_;rintro f J ⟨us,s,aj,B,ak,hk,al,y⟩;have z:=tY S.length _ us ag;rw[w4 _ _ _ s]at z;have z:=z J aj;have am:S6 N (kq S us (oy (dK c) e)) f:=by
   refine w8 ⟨ak,λt x an=>?_⟩ B;obtain⟨h1,j⟩:=AB an;rw[hk t j];exact A.2 t x h1
  refine aa free r _ _ f J _ _ H ?_ (λh=>(y h).2.1) z am ?_ ?_
  .intro l ao;obtain⟨O,ap,q⟩:=ab l ao;exact⟨O,ap,(y O).1.aZ _ _ q rfl⟩
  .intro ex C V E;have R:∀t,t∉dK c->C.tmps.getD t undef=a.tmps.getD t undef:=by
    obtain⟨_,_,_,_,T,_,_⟩:=E
    grind
   cases ex with
   |normal=>
    obtain⟨q,F,h1,j,T,U,G⟩:=E;simp only at h1;cases W:lQ F S with
    |none=>grind
    |some X=>
     rw[W]at h1;obtain⟨Y,Z⟩:=ud j W;refine⟨⟨X,Y,h1.1,Z,j.1,R,by grind,λh=>(y h).F (G h)⟩,?_⟩;rw[M f us s B,M C X Y Z];exact h1.2
   |_=>
    obtain⟨q,F,h1,j,T,U,G⟩:=E;exact ac _ C V ⟨q,F,h1,j,R,λh=>(U h).F (al h),λh=>(y h).F (G h)⟩
  .intro aq a w au;exact ad aq a w au
theorem Iv{o:Obj}(h:fK o=rs):book o=ro\/tN o=ro:=by cases o<;>first|exact .inl rfl|exact .inr rfl|cases h
theorem Iw{l:Nat}{f p h:x3}{q y:Obj}(A:f.heap[l]?=σ q)(a:cL n f p)(e:cL n (p.putObj l y) h)(B:l<h.heap.size)(hi:fc f h):cC f (h.putObj l q):=
 ⟨e.os.F a.os,k5.F e.tape a.tape,e.output.F a.output,by have h1:=a.size;have z:=e.size;simp at z ⊢;omega,λr x s U=>by
  by_cases w:r=l
  .grind [x3.putObj_heap_same]
  .rw[Q3 w];rcases Iv U with j|j
   .exact e.aZ r x (by rw[Q3 w];exact a.aZ r x s j) j
   .exact hi r x s j⟩
theorem Ix{f:S0}{T:Array Tmp}{X body:Code}(a1:Sound P N X)(ae:Sound P N body):Sound P N (.rangeFunc f T X body):=by
 intro free r rd e a w K Q aE U a2 h Y a6 bR;simp only[wf,V9]at aE;obtain⟨a7,a8,ba⟩:=aE;simp only[eO]at h;obtain⟨fr,b⟩:=free;cases fr with
 |true=>exact h.elim
 |false=>
  simp only[cond_false]at h;cases aF:eZ e f with
  |none=>grind
  |some bS=>
   rw[aF]at h;obtain⟨aG,o,G,g,cap,bT,bU,bV,ag,aH,an,bb,⟨aI,bc⟩,bd,hbW,ah,ao,hbX,be,bf,bg,bh,bY⟩:=h;have bi:∀m k ex I,mB ex=ro->ex≠ .normal->an m k ex I->K ex e I:=by
    intro m k ex I Z bZ bj;cases ex with
    |normal=>grind
    |ret=>
     have:=bh m k I bj;cases U:kr body with
     |true=>grind
     |false=>rw[U]at this;grind
    |exit i=>grind [Im]
    |_=>cases Z
   have bk:a.eval f= .func (.func g) #[] cap:=by rw[Y.eZ aF];exact bb
   refine wpIn_rangeFunc ?_;intro fn _;obtain⟨D,mark,l,s,y,bl,M,aJ,bm,R,aK,ai⟩:∃(D:Nat)(mark:List Deferred)(l:Nat)(s:x3)(y:LoopState->Option Code->Loop),
     (Instr.enterLoop fn a.tmps T X body (eN r).round).run P w= .ok (l,mark) s/\
     y=(λst bn=>{state:=st,pending:=bn,fn,tmps:=a.tmps,params:=T,assign:=X,body,defers:=D})/\
     s.heap[l]?=σ (.loop (y .ready ν))/\(mark=[]\/(mark=[ny D]/\s.heap[D]?=σ (.deferred (σ []))/\w.heap.size<=D/\D≠l))/\Ext w s/\cC w s/\w.heap.size<=l:=by
    cases r with
    |none=>
     refine⟨w.heap.size,[ny w.heap.size],w.heap.size+1,_,_,run_enterLoop_outer _ _ _ _ _,rfl,?_,.inr ⟨rfl,?_,p9 _,Ω⟩,?_,?_,Ω⟩
     .grind [x3.alloc_heap_new,x3.size_alloc]
     .grind [Below.heap_alloc,x3.alloc_heap_new]
     .exact (qP w _).F (qP _ _)
     .exact (qQ w _).F (qQ _ _)
    |some bo=>
     obtain⟨_,bp,H⟩:=U bo rfl;exact⟨bp.defers,[],w.heap.size,_,_,run_enterLoop_inner H _ _ _ _ _,rfl,x3.alloc_heap_new w _,.inl rfl,qP _ _,qQ _ _,p9 _⟩
   let L:x3->Prop:=λj=>mark=[]\/(mark=[ny D]/\j.heap[D]?=σ (.deferred (σ []))/\w.heap.size<=D/\D≠l);have ap:∀{m:Nat}{A B:x3},cL m A B->L A->L B:=λC h=>h.imp id λ⟨h1,q,z⟩=>⟨h1,C.aZ _ _ q rfl,z⟩;have aj:∀{A:x3}(o:Obj),L A->L (A.putObj l o):=by grind [Q3]
   have bq:cL b w s:=aK.b;have aL:=(Z5.1 aJ).1;have aM:∀{A B:x3},fL s.heap.size A B->L A->L B:=λC h=>h.imp id λ⟨h1,q,z⟩=>⟨h1,C.old _ _ (by
    grind) q rfl,z⟩
   have ab:∀{A:x3}(o:Obj),fL w.heap.size A (A.putObj l o):=λ{A}o=>⟨rfl,.lK,rfl,Ξ,by grind [Q3]⟩;let ay:(Nat->Prop)->aG->x3->Prop:=λm k j=>aH m k j/\j.heap[l]?=σ (.loop (y .ready ν))/\cL b w j/\L j;let aN:(Nat->Prop)->aG->x3->Prop:=λm k j=>∃ex c,mB ex=ro/\exitCode ex=σ c/\an m k ex j/\j.heap[l]?=σ (.loop (y .done (σ c)))/\cL b w j/\L j;have own:∀{m:Nat->Prop}{A B:x3},af (λr=>o=ro/\s.heap.size<=r/\¬m r) A B->af (λr=>o=ro/\w.heap.size<=r/\¬m r) A B:=λh=>h.X (by grind);have aq:=bc l ay aN s (λm k A B he C ⟨h1,q,z,O⟩=>⟨ah m k A B (own he) (C.X R.size) h1,C.old _ _ aL q rfl,z.An C R.size,aM C O⟩)
    (λm k A B he C ⟨ex,c,H,h1,q,z,O,ac⟩=>⟨ex,c,H,h1,ao m k ex A B (own he) (C.X R.size) q,C.old _ _ aL z rfl,O.An C R.size,aM C ac⟩) ?round (by grind) ⟨ah _ _ _ _ (R.aa _) aK.o be,aJ,bq,bm⟩
   case round=>
    intro m k ak vs j aO br hag aP ⟨hi,au,bs,bt⟩;have av:=bd k vs ak j aP;have aQ:=run_yield (P:=P) (args:=vs.toArray) au (by rw[M];simp[av]);rw[M]at aQ;refine⟨fn,_,X,body,aQ,roundIn_of_wpIn trivial ?_⟩;have bu:(T.zip vs.toArray).foldl (λtmps x=>match x with|(t,a)=>tmps.setIfInBounds t a) a.tmps=(T.toList.zip vs).foldl (λjV (p:Nat×x1)=>jV.setIfInBounds p.1 p.2) a.tmps:=by
     grind [Array.toList_zip]
    have aR:=AE T.toList vs a.tmps e (by simp[av]) a7 (show S6 N e {tmps:=a.tmps,defers:=[]}from⟨Y.1,Y.2⟩);rw[<-bu]at aR;have b0:=au;refine a1 (rs,b) (σ l) _ _ _ j _ _ a8 (by grind) (λ_=>⟨[],rfl,List.nodup_nil,by grind⟩) (by have ae:=tY _ _ vs bf;rw[w4 _ _ _ av]at ae;exact ae m k ak j (λr U=>⟨Y2 R.size (aO r U).1,(aO r U).2⟩) (Y2 R.size br) hag aP hi) aR ?_ (λ_ _ _ h=>h);intro ex aS E aw;obtain⟨H,b1,h1,q,z,O,ac⟩:=aw;obtain⟨V,bw,_⟩:=ac rfl;cases ex with
    |normal=>
     have ad:=V.aZ _ _ au rfl;have bx:=(Z5.1 ad).1;refine⟨_,run_beginRound ad (by rw[M]),?_⟩;have bz:Ext E (E.putObj l (.loop {y .ready ν with state:=.busy})):=sf ad rfl _;have bA:(E.putObj l (.loop {y .ready ν with state:=.busy})).heap[l]?=σ (.loop {y .ready ν with state:=.busy}):=x3.putObj_heap_same bx;have bB:nz (E.putObj l (.loop {y .ready ν with state:=.busy})) aS.defers:=by
      obtain⟨al,ax,W,az⟩:=bw;refine⟨al,ax,W,λD' am=>?_⟩
      grind [Q3]
     have aT:cL b w (E.putObj l (.loop {y .ready ν with state:=.busy})):=uc (bs.F V) ai _;have aU:=aj (.loop {y .ready ν with state:=.busy}) (ap V bt);have bC:=h1 _ bz ⟨AA rfl,ab _⟩ (Ip (fc.refl _) ad rfl _);refine ae (rs,b) (σ l) _ _ aS _ _ _ ba (by grind) (λ_=>bB) bC q ?_ (λ_ _ _ h=>h);intro bD b2 F aw;obtain⟨aA,b3,g1,b4,b5,b6,bE⟩:=aw;obtain⟨J,_,_⟩:=bE rfl;have aB:F.heap[l]?=σ (.loop {y .ready ν with state:=.busy}):=J.aZ _ _ bA rfl;have b7:=(Z5.1 aB).1;have aV:=λbF=>run_endRound (P:=P) bF aB;have aC:∀(o:Obj),Ext F (F.putObj l o):=λo=>sf aB rfl o;have aW:∀(ex:Exit)(c:Code),mB ex=ro->exitCode ex=σ c->(bif o then False else an m k ex F)->
       ∃v I,(Instr.endRound l (σ c)).run P F= .ok v I/\∃aD,Ending.returned v= .returned aD/\((aD= .bool ro/\(∃bK,(∀r,bK r->m r\/j.heap.size<=r/\r<I.heap.size)/\(∀r,m r->bK r)/\ag bK I/\ay bK ak I)/\(G=ro\/o=ro->cC j I)/\j.heap.size<=I.heap.size/\(o=ro->af (λr=>r<s.heap.size\/m r) j I))\/(o=rs/\aD= .bool rs/\aN m k I)):=by
      intro ex c Z bG bH;cases o with
      |true=>grind
      |false=>
       refine⟨_,_,aV (σ c),_,rfl,.inr ⟨rfl,rfl,ex,c,Z,bG,ao m k ex _ _ ((aC _).aa _) (ab _) bH,?_,uc (aT.F J) ai _,aj _ (ap J aU)⟩⟩
       grind [x3.putObj_heap_same]
     cases bD with
     |normal=>
      have bI:j.heap.size<=F.heap.size:=by
       have h1:=V.size;have q:=J.size;simp at q;omega
      obtain⟨⟨bK,d1,d2,ax,W⟩,b8,bJ⟩:(∃bK,(∀r,bK r->m r\/j.heap.size<=r/\r<F.heap.size)/\(∀r,m r->bK r)/\ag bK F/\aH bK ak F)/\(G=ro\/o=ro->fc j F)/\(o=ro->af (λr=>r<s.heap.size\/m r) j F):=by
       cases o with
       |true=>exact⟨g1.1,λ_=>g1.2.1,λ_=>g1.2.2.X (by grind)⟩
       |false=>grind
      refine⟨_,_,aV ν,_,rfl,.inl ⟨rfl,⟨bK,by simpa using d1,d2,by grind,ah _ _ _ _ ((aC _).aa _) (ab _) W,?_,uc (aT.F J) ai _,aj _ (ap J aU)⟩,λb9=>?_,?_,λbL=>(bJ bL).F ((aC _).aa _)⟩⟩
      .grind [x3.putObj_heap_same]
      .grind [Iw]
      .simpa using bI
     |ret=>exact aW .ret _ rfl rfl g1
     |exit id=>exact aW (.exit id) _ rfl rfl g1
     |goto t=>cases aA
     |panic bM=>cases aA
     |outgrown=>cases aA
    |_=>grind
   have aq:=gT.calls P aq aI;refine⟨l,mark,s,{target:=.fn (.func g) cap,args:=#[.func (.yield l) #[] #[]]},s,g,#[.func (.yield l) #[] #[]]++cap,s,bl,?_,λ_ _=>trivial,?_,wR _ _,?_⟩
   .simp only[resolve,bk];simp[go_sem]
   .simp only[invoke];exact aI _ _
   .have bN:(#[.func (.yield l) #[] #[]]++cap:Array x1)=(x1.func (.yield l) #[] #[]::cap.toList).toArray:=by grind
    rw[bN];refine CallsIn.mono (Ap aq) ?_;rintro ca E ⟨v,rfl,bO⟩;have left:∀(S:Loop)(ex:Exit),mB ex=ro->E.heap[l]?=σ (.loop S)->S.state≠ .busy->cL b w E->L E->K ex e (E.putObj l (.loop {S with state:=.exhausted}))->
      Q ex {a with defers:=mark++a.defers} (E.putObj l (.loop {S with state:=.exhausted})):=by
     intro S ex Z ad cb V aX bP;have J:cL b w (E.putObj l (.loop {S with state:=.exhausted})):=uc V ai _;refine a6 ex _ _ ⟨Z,e,bP,⟨Y.1,Y.2⟩,λ_ _=>rfl,by grind [ks,lP],λ_=>⟨J,?_,?_⟩⟩
     case refine_2=>
      rcases aX with hm|⟨hm,_,bQ,_⟩
      .exact⟨[],by simp[hm],by grind⟩
      .exact⟨[D],by simp[hm],by grind⟩
     obtain⟨al,ax,W,az⟩:=a2 rfl;have aY:=aj (.loop {S with state:=.exhausted}) aX;rcases aY with hm|⟨hm,aY,bQ,_⟩
     .exact⟨al,by grind,W,λD' am=>J.aZ _ _ (az D' am) rfl⟩
     .refine⟨D::al,by grind,List.nodup_cons.2 ⟨λcc=>?_,W⟩,λD' am=>?_⟩
      .grind
      .rcases T5.1 am with h|h
       .grind
       .exact J.aZ _ _ (az D' h) rfl
    rcases bO with⟨m,k,hk,h1,q,z,O⟩|⟨m,k,ex,c,H,h1,q,z,O,ac⟩
    .refine⟨ν,_,by have:=run_endLoop (P:=P) q (by rw[M];simp);rw[M]at this;exact this,?_⟩;have:=left (y .ready ν) .normal rfl q (by grind) z O (bg m _ _ hk (ah m _ _ _ ((sf q rfl _).aa _) (ab _) h1))
     grind
    .refine⟨σ c,_,by have:=run_endLoop (P:=P) z (by rw[M];simp);rw[M]at this;exact this,?_⟩;have:=left (y .done (σ c)) ex H z (by grind) O ac (bi m k ex _ H (by intro he;rw[he]at h1;cases h1) (ao m _ _ _ _ ((sf z rfl _).aa _) (ab _) q));rw[M]at this;cases ex with
     |normal=>cases h1
     |ret=>cases h1;grind [wpIn_ret]
     |exit id=>cases h1;grind [wpIn_exit]
     |goto t=>cases H
     |panic bM=>cases H
     |outgrown=>cases H
theorem ue{b:Frame}{a:Act}{k:List Item}{cs:List Frame}{c:Code}:
  step P (lone (b.atR a (.code (.scope c)::k)) cs w)= .next (lone (b.atR a (.code c:: .inScope c::k)) cs w):=
 step_lone_go (by simp[stepG,stepG.exec,Frame.atR])
theorem Iy{b:Frame}{a:Act}{k:List Item}{cs:List Frame}{c:Code}:
  step P (lone (b.atR a (.inScope c::k)) cs w)= .next (lone (b.atR a k) cs w):=
 step_lone_go (by simp[stepG,stepG.exec,Frame.atR])
theorem Iz{F:Fence}{c:Code}{Q:Exit->Act->x3->Prop}{a:Act}(h:c.wpIn F n P (λex a' I=>mB ex=ro/\Q ex a' I) a w):
  (Code.scope c).wpIn F n P Q a w:=by
 intro b k cs z p q;have f:(lone (b.atR a (.code (.scope c)::k)) cs w).fenced P F:=fenced_calm p q rfl;obtain⟨e,r,s,⟨x,y⟩,j⟩:=h b (.inScope c::k) cs z p q;have G:∀id,exitTo id (.inScope c::k)=exitTo id k:=by grind [exitTo]
 cases e with
 |normal=>exact⟨.normal,r,s,y,.head f ue (StepsIn.trans j (.one (fenced_calm p q rfl) Iy))⟩
 |exit id=>
  exact⟨.exit id,r,s,y,λA hk=>.head f ue (j.1 A (by grind)),
   λB hk=>let⟨C,h1,E⟩:=j.2 B (by grind);⟨C,h1,.head f ue E⟩⟩
 |ret=>exact⟨_,r,s,y,.of_steps (.one f ue) j⟩
 |goto l=>cases x
 |panic H=>cases x
 |outgrown=>cases x
theorem sound(hm:P.follows .mixedOrders=ro)(c:Code):Sound P N c:=by
 induction c with
 |skip=>exact λfree r rd e a w K Q _ _ q h j p _=>wpIn_skip (p _ _ _ ⟨rfl,e,h,j,λ_ _=>rfl,λ_=>rfl,by grind [gV.refl]⟩)
 |label l=>exact λfree r rd e a w K Q _ _ q h j p _=>wpIn_label (p _ _ _ ⟨rfl,e,h,j,λ_ _=>rfl,λ_=>rfl,by grind [gV.refl]⟩)
 |ret=>exact λfree r rd e a w K Q _ _ q h j p _=>wpIn_ret (p _ _ _ ⟨rfl,e,h,j,λ_ _=>rfl,λ_=>rfl,by grind [gV.refl]⟩)
 |exit i=>exact λfree r rd e a w K Q _ _ q h j p _=>wpIn_exit (p _ _ _ ⟨rfl,e,h,j,λ_ _=>rfl,λ_=>rfl,by grind [gV.refl]⟩)
 |goto l=>exact λfree r rd e a w K Q _ _ q h j p _=>h.elim
 |refuse s=>exact λfree r rd e a w K Q _ _ q h j p _=>h.elim
 |region id ops W=>
  intro free r rd e a w K Q A E q h j p F;simp only[wf,V9]at A;have T:∀o∈ops.toList,∀t,o.dst=σ t->t∈ps ops.toList:=by grind [Is]
  simp only[eO]at h;cases W with
  |false=>exact H0 T A.1 h j λa' I B=>p _ _ _ (AC q B)
  |true=>
   simp only[Y6,Bool.false_or]at A;exact Ie hm A.2 F T A.1 (λI h1 G H=>h I h1 G H) j λa' I B=>p _ _ _ (AC q B)
 |seq x y O R=>grind [It]
 |cond c x y O R=>
  intro free r rd e a w K Q A E q h j p F;simp only[wf,V9]at A;have U:∀ex a' I,oA N free (ks free x) K (dK x) a w ex a' I->Q ex a' I:=λex a' I B=>p ex a' I (by
   obtain⟨M,J,h1,G,H,L,S⟩:=B;exact⟨M,J,h1,G,by grind [dK],(λh=>L (AF _ _ _ h)),S⟩)
  have V:∀ex a' I,oA N free (ks free y) K (dK y) a w ex a' I->Q ex a' I:=λex a' I B=>p ex a' I (by
   obtain⟨M,J,h1,G,H,L,S⟩:=B;exact⟨M,J,h1,G,by grind [dK],(λh=>L (AG _ _ _ h)),S⟩)
  simp only[eO]at h;cases C:eZ e c with
  |none=>grind
  |some v=>
   rw[C]at h;cases v with
   |b t=>
    cases t with
    |true=>exact wpIn_cond (j.eZ C) (O free r rd e a w K Q A.1 E q h j U F)
    |false=>exact wpIn_cond (j.eZ C) (R free r rd e a w K Q A.2 E q h j V F)
   |v z=>
    obtain⟨t,X,Y,Z⟩:=h;refine wpIn_cond ((j.eZ C).F X) ?_;cases t with
    |true=>exact O free r rd e a w K Q A.1 E q (Y rfl) j U F
    |false=>exact R free r rd e a w K Q A.2 E q (Z rfl) j V F
   |u=>exact h.elim
 |block id c C=>
  intro free r rd e a w K Q A E q h j p F;simp only[wf]at A;simp only[eO]at h;refine wpIn_block (C free r rd e a w _ _ A E q h j ?_ λaa a w ab=>F aa a w ab);intro ex a' I B;obtain⟨M,J,h1,G,H,L⟩:=B;cases ex with
  |exit i=>
   simp only[Exit.inBlock];simp only at h1;by_cases hi:i=id
   .rw[m3 hi];rw[hi,Nat.beq_refl]at h1;exact p _ _ _ ⟨rfl,J,h1,G,H,L⟩
   .rw[m5 hi];have:R4 i id=rs:=by
     grind [Nat.eq_of_beq_eq_true]
    rw[this]at h1;exact p _ _ _ ⟨rfl,J,h1,G,H,L⟩
  |_=>exact p _ _ _ ⟨M,J,h1,G,H,L⟩
 |loop c C=>exact Iu C
 |scope c C=>
  intro free r rd e a w K Q A E q h j p F;exact Iz (C free r rd e a w K (λex a' I=>mB ex=ro/\Q ex a' I) A E q h j (λex a' I B=>⟨B.1,p ex a' I B⟩) (by grind))
 |rangeFunc f ac ad body ae af=>grind [Ix]
def mC:Nat->List x1->Env
 |_,[]=>[]
 |i,v::r=>(i,.v v)::mC (i+1) r
def pu(P:X5)(e:Env)(w:x3):List ResultVar->(List x1->Prop)->Prop
 |[],K=>K []
 | .tmp t::r,K=>match look e t with
  |some x=>pu P e w r λvs=>K (x.val::vs)
  |none=>False
 | .cell a t::r,K=>match look e a with
  |some x=>ab P (do loadVar t (<-asAddr x.val)) w λv=>pu P e w r λvs=>K (v::vs)
  |none=>False
def uf:List x1->x1
 |[v]=>v
 |vs=>.tuple vs.toArray
def nA(P:X5)(a:List ResultVar)(marks:Bool)(n:Nat)(Q:x1->x3->Prop):Exit->Env->x3->Prop
 | .normal,e,w| .ret,e,w=>pu P e w a λvs=>bif marks then w5 n w λI=>Q (uf vs) I else Q (uf vs) w
 |_,_,_=>False
def oB:List ResultVar->List Nat
 |[]=>[]
 | .tmp t::r=>t::oB r
 | .cell a _::r=>a::oB r
theorem AH:∀(vs:List x1)(i t:Nat)(x:eM),look (mC i vs) t=σ x->∃j v,t=i+j/\vs[j]?=σ v/\x= .v v
 |[],_,_,_,h=>by cases h
 |v::r,i,t,x,h=>by
  simp only[mC,look]at h;cases a:R4 i t with
  |true=>
   rw[a]at h;simp only[cond_true,Y8]at h;exact⟨0,v,by grind [Nat.eq_of_beq_eq_true],rfl,h.symm⟩
  |false=>
   rw[a]at h;obtain⟨j,u,h1,f,e⟩:=AH r (i+1) t x h;exact⟨j+1,u,Ω,by grind,e⟩
theorem w9(vs:List x1)(h:vs.length<=n):S6 n (mC 0 vs) {tmps:=vs.toArray++Array.replicate (n-vs.toArray.size) undef,defers:=[]}:=by
 refine⟨Θ,λt x e=>?_⟩;obtain⟨j,v,h1,a,rfl⟩:=AH vs 0 t x e;have h1:t=j:=Ω
 subst h1;have f:=(x4.1 a).1;rw[Array.getD_eq_getD_getElem?,Array.getElem?_append_left Ω];simp[a,eM.val]
def ug(jV:Array x1):ResultVar->Sem x1
 | .tmp t=>pure (jV.getD t undef)
 | .cell b t=>do loadVar t (<-asAddr (jV.getD b undef))
theorem IA(fn:Func)(jV:Array x1):results fn jV=(do let vs <-fn.results.mapM (ug jV);pure (if h:vs.size=1 then vs[0]else .tuple vs)):=by
 unfold results;congr 2
theorem xa{e:Env}{a:Act}{w:x3}(j:S6 N e a):∀(p:List ResultVar)(K:List x1->Prop),pu P e w p K->
  ∃vs,K vs/\vs.length=p.length/\∀I,Ext w I->(p.mapM (ug a.tmps)).run P I= .ok vs I
 |[],K,h=>⟨[],h,rfl,by grind [W9]⟩
 | .tmp t::r,K,h=>by
  simp only[pu]at h;cases f:look e t with
  |none=>grind
  |some x=>
   rw[f]at h;obtain⟨vs,h1,q,s⟩:=xa j r _ h;refine⟨x.val::vs,h1,by simp[q],λI hw=>?_⟩;rw[List.mapM_cons];simp only[ug,X8,W9,W3,s I hw,j.2 t x f]
 | .cell b t::r,K,h=>by
  simp only[pu]at h;cases f:look e b with
  |none=>grind
  |some x=>
   rw[f]at h;obtain⟨v,y,h⟩:=h;obtain⟨vs,h1,q,s⟩:=xa j r _ h;refine⟨v::vs,h1,by simp[q],λI hw=>?_⟩;rw[List.mapM_cons];have:=y I hw;rw[<-j.2 b x f]at this
   grind [ug,X8,W3,W9]
theorem xb{fn:Func}{e:Env}{a:Act}(j:S6 N e a){K:List x1->Prop}(h:pu P e w fn.results.toList K):
  ∃vs,K vs/\∀I,Ext w I->(results fn a.tmps).run P I= .ok (uf vs) I:=by
 obtain⟨vs,h1,p,f⟩:=xa j _ _ h;refine⟨vs,h1,λI hw=>?_⟩;have f:=f I hw;rw[IA,X8,Array.mapM_eq_mapM_toList,map_eq_pure_bind,X8,f];simp only[W3,W9];cases vs with
 |nil=>rfl
 |cons v r=>
  cases r<;>grind [uf]
theorem AI{fn:Func}{tmps:Array x1}{R:Ending->x3->Prop}:∀(a:List Nat)(w:x3),a.Nodup->(∀D∈a,w.heap[D]?=σ (.deferred (σ [])))->
  (∀I,Ext w I->Ext I w->I.os=w.os->k5 w I->I.output=w.output->w.heap.size=I.heap.size->
   (∀r,r∉a->I.heap[r]?=w.heap[r]?)->∃v,(results fn tmps).run P I= .ok v I/\R (.returned v) I)->
  LeavesInM Fence.wide 0 P fn tmps R (a.map ny) .returning w
 |[],w,_,_,h=>by
  obtain⟨v,h1,e⟩:=h w (Ext.refl _) (Ext.refl _) rfl .lK rfl rfl λ_ _=>rfl;exact⟨v,h1,e⟩
 |D::a,w,f,p,h=>by
  rw[List.nodup_cons]at f;have j:=p D (.head _);refine⟨Ξ,.inl ⟨D,_,rfl,run_takeDeferred j,?_⟩⟩;refine AI a _ f.2 (λD' z=>?_) λI h1 e q s x y A=>?_
  .grind [Q3]
  .refine h I ((sf j rfl _).F h1) (e.F (AA rfl)) q s x (by simpa using y) λr B=>?_
   grind [Q3]
theorem aj.enter(hm:P.follows .mixedOrders=ro){f:Q2}{fn:Func}{c:Code}(p:P.funcs[f]?=σ fn)(q:fn.body=σ c)(F:(fn.name == "runtime.NumGoroutine")=rs)(G:wf fn.ntmps c=ro){args:List x1}(H:Nat.ble args.length fn.ntmps=ro){w:x3}{Q:x1->x3->Prop}(h:eO P fn.ntmps (rs,w.heap.size) c (oB fn.results.toList) (mC 0 args) w (nA P fn.results.toList ro w.heap.size Q)):aj P f args w Q:=by
 refine .code (Enters.of P p q F) (callsIn_wide (n:=0).1 (callsIn_of_wp_marks p q trivial ?_));have J:=w9 (n:=fn.ntmps) args (Nat.le_of_ble_eq_true H);refine wpIn_mono (Q:=λex a' I=>mB ex=ro/\bodyPostM Fence.wide 0 P fn (λe I=>∃v,e= .returned v/\cC w I/\Q v I) ex a' I) ?_ (by grind);refine sound hm c (rs,w.heap.size) ν _ _ _ w _ _ G (by grind) (λ_=>⟨[],rfl,List.nodup_nil,by grind⟩) h J ?_ (λ_ _ _ h=>by cases h.1)
 .intro ex a' I K;obtain⟨L,M,j,N,_,_,U⟩:=K;obtain⟨a,⟨s,O,R,S⟩,T,ab,ac⟩:=U rfl;have W:∀D∈s,w.heap.size<=D:=by
   intro D ad;have h1:ny D∈T.map ny:=by
    grind
   grind [ny]
  have x:nA P fn.results.toList ro w.heap.size Q .ret M I->LeavesInM Fence.wide 0 P fn a'.tmps (λe y=>∃v,e= .returned v/\cC w y/\Q v y) a'.defers .returning I:=by
   intro j;rw[O];obtain⟨vs,h1,X⟩:=xb N j;refine AI s I R S λV g1 Y z A B C Z=>⟨_,X V g1,_,rfl,?_,h1 V g1 ⟨Y,z,A,B,Nat.le_of_eq C,by grind⟩⟩;have a:=a.cD (p9 _);refine⟨z.F a.os,A.F a.tape,B.F a.output,by rw[<-C];exact a.size,λr o E aa=>?_⟩;have ae:=(Z5.1 E).1;rw[Z r λhm=>by have:=W r hm;omega];exact a.aZ r o E aa
  cases ex with
  |normal=>exact⟨rfl,x j⟩
  |ret=>exact⟨rfl,x j⟩
  |exit id=>exact j.elim
  |_=>cases L
theorem aj.IB(hm:P.follows .mixedOrders=ro){f:Q2}{fn:Func}{c:Code}(j:P.funcs[f]?=σ fn)(p:fn.body=σ c)(s:(fn.name == "runtime.NumGoroutine")=rs)(x:wf fn.ntmps c=ro){args:List x1}(y:Nat.ble args.length fn.ntmps=ro)(an:lP c=rs){w:x3}{Q:x1->x3->Prop}(h:eO P fn.ntmps (rs,w.heap.size) c (oB fn.results.toList) (mC 0 args) w (nA P fn.results.toList rs 0 Q)):aj P f args w Q:=by
 refine .code (Enters.of P j p s) (callsIn_wide (n:=0).1 (callsIn_of_wp j p trivial ?_));have z:=w9 (n:=fn.ntmps) args (Nat.le_of_ble_eq_true y);refine wpIn_mono (Q:=λex a' I=>mB ex=ro/\bodyPost P fn (λe I=>∃v,e= .returned v/\cC w I/\Q v I) ex a' I) ?_ (by grind);refine sound hm c (rs,w.heap.size) ν _ _ _ w _ _ x (by grind) (λ_=>⟨[],rfl,List.nodup_nil,by grind⟩) h z ?_ (λ_ _ _ h=>by cases h.1);intro ex a' I A;obtain⟨B,C,a,E,_,F,U⟩:=A;have G:=F (by simp[ks,an]);have q:nA P fn.results.toList rs 0 Q .ret C I->a'.defers=[]/\∃v,(results fn a'.tmps).run P I= .ok v I/\∃r,Ending.returned v= .returned r/\cC w I/\Q r I:=by
  intro a;obtain⟨vs,h1,H⟩:=xb E a;exact⟨G,_,H I (Ext.refl _),_,rfl,(U rfl).1.cD (p9 _),h1⟩
 cases ex with
 |normal=>exact⟨rfl,q a⟩
 |ret=>exact⟨rfl,q a⟩
 |exit id=>exact a.elim
 |_=>cases B
theorem gT.enter(hm:P.follows .mixedOrders=ro){f:Q2}{fn:Func}{c:Code}(j:P.funcs[f]?=σ fn)(p:fn.body=σ c)(s:(fn.name == "runtime.NumGoroutine")=rs)(x:wf fn.ntmps c=ro){args:List x1}(y:Nat.ble args.length fn.ntmps=ro){w:x3}{Q:x1->x3->Prop}(h:eO P fn.ntmps (ro,0) c (oB fn.results.toList) (mC 0 args) w (nA P fn.results.toList rs 0 Q)):gT P f args w Q:=by
 refine .code (Enters.of P j p s) (callsIn_wide (n:=0).1 (callsIn_of_wp j p trivial ?_));have z:=w9 (n:=fn.ntmps) args (Nat.le_of_ble_eq_true y);refine wpIn_mono (Q:=λex a' I=>mB ex=ro/\bodyPost P fn (λe I=>∃v,e= .returned v/\Q v I) ex a' I) ?_ (by grind);refine sound hm c (ro,0) ν _ _ _ w _ _ x (by grind) (by grind) h z ?_ (λ_ _ _ h=>by cases h.1);intro ex a' I A;obtain⟨B,C,a,E,_,F,U⟩:=A;have G:=F rfl;have q:nA P fn.results.toList rs 0 Q .ret C I->a'.defers=[]/\∃v,(results fn a'.tmps).run P I= .ok v I/\∃r,Ending.returned v= .returned r/\Q r I:=by
  intro a;obtain⟨vs,h1,H⟩:=xb E a
  grind [Ext.refl]
 cases ex with
 |normal=>exact⟨rfl,q a⟩
 |ret=>exact⟨rfl,q a⟩
 |exit id=>exact a.elim
 |_=>cases B
end
def sg(l:List S0)(d:Nat):Nat:=
 match l with
 |[]=>d
 | .tmp t::r=>sg r (Nat.lor d (Nat.shiftLeft 1 t))
 |_::r=>sg r d
def qR:List U9->Nat->Option U9
 |[],_=>ν
 |o::_,0=>σ o
 |_::l,n+1=>qR l n
def AJ(a b:Nat):Nat:=Nat.xor a (Nat.land a b)
def sh(m t:Nat):Bool:=R4 (Nat.land (Nat.shiftRight m t) 1) 1
def lR(m t:Nat):Nat:=Nat.lor m (Nat.shiftLeft 1 t)
def IC(ops:List U9)(o:U9):Nat:=
 match o.guard with
 |none=>0
 |some (j,_)=>match qR ops j with
  |some ⟨σ d,_,_,_,_,_⟩=>Nat.shiftLeft 1 d
  |_=>0
def uh:List U9->Nat->Nat
 |[],d=>d
 |⟨σ t,_,_,_,_,_⟩::l,d=>uh l (lR d t)
 |_::l,d=>uh l d
def AK(ops:List U9):List U9->Nat->Nat->Nat
 |[],_,r=>r
 |o::l,d,r=>AK ops l (match o.dst with|some t=>lR d t|none=>d) (Nat.lor r (AJ (sg (opsOf o.op) (IC ops o)) d))
def ui:List Nat->Nat->Nat
 |[],_=>0
 |x::_,0=>x
 |_::l,n+1=>ui l n
def AL(e:Edge):Bool:=
 match e.ground with
 | .textOnly _=>rs
 | .gcOnly _=>rs
 |_=>ro
def AM(a:List Nat):List Edge->Nat->Nat
 |[],s=>s
 |e::r,s=>AM a r (bif AL e then Nat.lor (lR s e.on) (ui a e.on)else s)
def xc:List U9->List Nat->List Nat
 |[],a=>a
 |o::l,a=>xc l (a++[AM a o.after.toList 0])
def AN:List U9->Bool
 |[]=>rs
 |⟨_,_,_,_,_,σ _⟩::_=>ro
 |_::l=>AN l
def xd(a:List Nat)(j k:Nat):Bool:=!(R4 k j)&&(!(sh (ui a j) k)&& !(sh (ui a k) j))
def AO(a:List Nat)(j:Nat):Nat->List U9->Bool
 |_,[]=>rs
 |i,o::l=>bif Nat.ble j i then rs else(!(lM o)&&xd a j i)||AO a j (Nat.succ i) l
def AP(ops:List U9)(a:List Nat):Nat->List U9->Bool
 |_,[]=>rs
 |j,o::l=>(!(lM o)&&AO a j 0 ops)||AP ops a (Nat.succ j) l
def nB:Code->Nat
 | .region _ ops e=>bif (e&&AP ops.toList (xc ops.toList []) 0 ops.toList)||AN ops.toList then 2 else 1
 | .seq a b=>bif R4 (nB a) 0 then 0 else nB b
 | .cond _ a b=>Nat.add (nB a) (nB b)
 | .block id c=>Nat.add (nB c) (k7 id c)
 | .loop _=>0
 | .scope c=>nB c
 | .exit _=>0
 | .goto _=>0
 | .ret=>0
 | .refuse _=>0
 |_=>1
def jz:Code->Nat
 | .region _ ops _=>uh ops.toList 0
 | .seq a b=>Nat.lor (jz a) (jz b)
 | .cond _ a b=>Nat.lor (jz a) (jz b)
 | .block _ c=>jz c
 | .loop c=>jz c
 | .scope c=>jz c
 |_=>0
def nC:Code->Nat
 | .region _ ops _=>uh ops.toList 0
 | .seq a b=>Nat.lor (nC a) (nC b)
 | .cond _ a b=>bif R4 (nB a) 0 then nC b else bif R4 (nB b) 0 then nC a else Nat.land (nC a) (nC b)
 | .block id c=>bif R4 (k7 id c) 0 then nC c else 0
 | .scope c=>nC c
 |_=>0
def gD:Code->Nat
 | .region _ ops _=>AK ops.toList ops.toList 0 0
 | .seq a b=>Nat.lor (gD a) (AJ (gD b) (nC a))
 | .cond c a b=>sg [c] (Nat.lor (gD a) (gD b))
 | .block _ c=>gD c
 | .loop c=>gD c
 | .scope c=>gD c
 | .rangeFunc f _ a b=>sg [f] (Nat.lor (gD a) (gD b))
 |_=>0
def oC:Nat->Nat->Nat->List Nat
 |0,_,_=>[]
 |n+1,k,m=>bif R4 m 0 then[]else bif R4 (Nat.land m 1) 1 then k::oC n (Nat.succ k) (Nat.shiftRight m 1)else oC n (Nat.succ k) (Nat.shiftRight m 1)
def si(e:Env):List Nat->List Nat
 |[]=>[]
 |t::r=>match look e t with
  |some _=>t::si e r
  |none=>si e r
structure oD(B S aW:Type) where
 mD:{x:x1}->x1
 tup:List x1->x1
 no:B
 mE:B
 and:B->B->B
 or:B->B->B
 W:x3->x3->B
 stays:S->x1->x3->B
 split:x1->B->B->B
 xe:S->x3->(x1->B)->B
 AQ:S->x3->(x1->x3->B)->B
 AR:aW->x3->(x3->B)->B
 runN:{fr:Bool}->{n:Nat}->S->x3->(x1->x3->B)->B
 AS:{f:Q2}->List x1->x3->(x1->x3->B)->B
 AT:{f:Q2}->List x1->x3->(x1->x3->B)->B
 AU:{fr:Bool}->x1->List x1->x3->(x1->x3->B)->B
 drew:x3->(x3->B)->B
 again:{n:Nat}->x3->(x3->B)->B
 over:{n:Nat}->x3->(x3->B)->B
 dk:(x3->B)->((x3->B)->B)->B
 aV:(x1->x3->B)->((x1->x3->B)->B)->B
 jA:(x1->x1->x3->B)->((x1->x1->x3->B)->B)->B
 AV:(x1->x1->x1->x3->B)->((x1->x1->x1->x3->B)->B)->B
 AW:(x1->x1->x1->x1->x3->B)->((x1->x1->x1->x1->x3->B)->B)->B
 AX:(x1->x1->x1->x1->x1->x3->B)->((x1->x1->x1->x1->x1->x3->B)->B)->B
 AY:x3->(x3->(x3->B)->B)->B
 AZ:x1->x3->(x1->x3->(x1->x3->B)->B)->B
 A0:x1->x1->x3->(x1->x1->x3->(x1->x1->x3->B)->B)->B
 A1:x1->x1->x1->x3->(x1->x1->x1->x3->(x1->x1->x1->x3->B)->B)->B
 A2:x1->x1->x1->x1->x3->(x1->x1->x1->x1->x3->(x1->x1->x1->x1->x3->B)->B)->B
 A3:x1->x1->x1->x1->x1->x3->(x1->x1->x1->x1->x1->x3->(x1->x1->x1->x1->x1->x3->B)->B)->B
 A4:x1->x1->x1->x1->x1->x1->x3->(x1->x1->x1->x1->x1->x1->x3->(x1->x1->x1->x1->x1->x1->x3->B)->B)->B
 A5:x1->x3->(x1->x3->(Exit->x3->B)->B)->(x3->B)->(x3->B)->List (Nat×(x3->B))->B
 A6:x1->x3->(x1->x1->x3->(Exit->x3->B)->B)->(x3->B)->(x3->B)->List (Nat×(x3->B))->B
 loadVar:{t:r9}->x1->S
 alloc:{t:r9}->S
 box:{t:r9}->x1->S
 build:{t:r9}->List (Nat×x1)->S
 buildSlice:{t:r9}->{n:Nat}->List (Nat×x1)->S
 load:{t:r9}->x1->S
 nil:x1->S
 bin:{op:BinOp}->{t:r9}->Bool->Bool->x1->x1->S
 un:{op:UnOp}->x1->S
 conv:{s d:r9}->x1->S
 A7:{t:r9}->x1->S
 A8:{f:Fn}->List x1->List x1->S
 Ba:{t:r9}->Option x1->S
 Bb:{t:r9}->x1->x1->S
 slice:{t:r9}->x1->Option x1->Option x1->Option x1->S
 Bc:{t:r9}->x1->{f:Nat}->S
 field:{t:r9}->x1->{f:Nat}->S
 Bd:{t:r9}->x1->x1->S
 index:{t:r9}->x1->x1->S
 lookup:{t:r9}->x1->x1->{ok:Bool}->S
 Be:{t:r9}->x1->x1->S
 range:{t:r9}->x1->S
 entry:x1->S
 assert:{t a:r9}->x1->{ok:Bool}->S
 extract:x1->{i:Nat}->S
 next:x1->{b:Bool}->S
 append:{ats:Array r9}->{t:r9}->List x1->S
 cap:{ats:Array r9}->{t:r9}->List x1->S
 clear:{ats:Array r9}->{t:r9}->List x1->S
 copy:{ats:Array r9}->{t:r9}->List x1->S
 delete:{ats:Array r9}->{t:r9}->List x1->S
 len:{ats:Array r9}->{t:r9}->List x1->S
 max:{ats:Array r9}->{t:r9}->List x1->S
 min:{ats:Array r9}->{t:r9}->List x1->S
 store:{t:r9}->x1->x1->aW
 xf:{t:r9}->x1->x1->x1->aW
 Bf:{t:r9}->x1->x1->x1->aW
section
variable{B S aW:Type}(A:oD B S aW)
def eM.g:eM->x1
 | .v x=>x
 | .b c=>.bool c
 | .u=>A.mD (x:=undef)
def pv(e:Env):S0->eM
 | .tmp t=>match look e t with
  |some x=>x
  |none=>.u
 | .const (.bool c)=>.b c
 | .const x=>.v (A.mD (x:=x))
 | .global g=>.v (A.mD (x:=Γ g))
 | .func f=>.v (A.mD (x:=.func (.func f) #[] #[]))
def dc(e:Env)(x:S0):x1:=(pv A e x).g A
def pw(e:Env):List S0->List x1
 |[]=>[]
 |x::r=>dc A e x::pw e r
def uj(e:Env):Option S0->Option x1
 |none=>ν
 |some x=>σ (dc A e x)
def xg(e:Env):List (Nat×S0)->List (Nat×x1)
 |[]=>[]
 |(i,x)::r=>(i,dc A e x)::xg e r
def ID(b:j9)(ats:Array r9)(t:r9)(l:List x1)(K:S->B):B:=
 match b with
 | .append=>K (A.append (ats:=ats) (t:=t) l)
 | .cap=>K (A.cap (ats:=ats) (t:=t) l)
 | .clear=>K (A.clear (ats:=ats) (t:=t) l)
 | .copy=>K (A.copy (ats:=ats) (t:=t) l)
 | .delete=>K (A.delete (ats:=ats) (t:=t) l)
 | .len=>K (A.len (ats:=ats) (t:=t) l)
 | .max=>K (A.max (ats:=ats) (t:=t) l)
 | .min=>K (A.min (ats:=ats) (t:=t) l)
 |_=>A.no
def Bg(e:Env)(t:r9)(K:S->B)(j:aW->B):Op->B
 | .alloc t=>K (A.alloc (t:=t))
 | .box t x=>K (A.box (t:=t) (dc A e x))
 | .build t p=>K (A.build (t:=t) (xg A e p.toList))
 | .buildSlice t n p=>K (A.buildSlice (t:=t) (n:=n) (xg A e p.toList))
 | .load t x=>K (A.load (t:=t) (dc A e x))
 | .nilCheck x=>K (A.nil (dc A e x))
 | .binOp op t x y _=>K (A.bin (op:=op) (t:=t) (qJ x) (qJ y) (dc A e x) (dc A e y))
 | .unOp op _ x=>K (A.un (op:=op) (dc A e x))
 | .convert s d x=>K (A.conv (s:=s) (d:=d) (dc A e x))
 | .makeInterface t x=>K (A.A7 (t:=t) (dc A e x))
 | .makeFunc f a b=>K (A.A8 (f:=f) (pw A e a.toList) (pw A e b.toList))
 | .makeMap t r=>K (A.Ba (t:=t) (uj A e r))
 | .makeSlice t l c=>K (A.Bb (t:=t) (dc A e l) (dc A e c))
 | .slice t x l h m=>K (A.slice (t:=t) (dc A e x) (uj A e l) (uj A e h) (uj A e m))
 | .fieldAddr t x f=>K (A.Bc (t:=t) (dc A e x) (f:=f))
 | .field t x f=>K (A.field (t:=t) (dc A e x) (f:=f))
 | .indexAddr t x i=>K (A.Bd (t:=t) (dc A e x) (dc A e i))
 | .index t x i=>K (A.index (t:=t) (dc A e x) (dc A e i))
 | .lookup t x i ok=>K (A.lookup (t:=t) (dc A e x) (dc A e i) (ok:=ok))
 | .mapEntry t m k=>K (A.Be (t:=t) (dc A e m) (dc A e k))
 | .range t x=>K (A.range (t:=t) (dc A e x))
 | .entry x=>K (A.entry (dc A e x))
 | .typeAssert x t a ok=>K (A.assert (t:=t) (a:=a) (dc A e x) (ok:=ok))
 | .extract x i=>K (A.extract (dc A e x) (i:=i))
 | .call ⟨.builtin b,args,ats⟩=>ID A b ats t (pw A e args.toList) K
 | .store t a x=>j (A.store (t:=t) (dc A e a) (dc A e x))
 | .mapUpdate t m k x=>j (A.xf (t:=t) (dc A e m) (dc A e k) (dc A e x))
 | .insert t m k x=>j (A.xf (t:=t) (dc A e m) (dc A e k) (dc A e x))
 | .entryStore t m k x=>j (A.Bf (t:=t) (dc A e m) (dc A e k) (dc A e x))
 |_=>A.no
def iL(e:Env)(d:Option Tmp)(x:eM):Env:=
 match d with
 |some t=>(t,x)::e
 |none=>e
def Bh(o:U9)(e:Env)(w:x3)(K:Env->(x3->B)->B):B:=
 match o with
 |⟨d,.move x,_,_,_,_⟩=>K (iL e d (pv A e x)) (λ_=>A.mE)
 |⟨d,.assign x,_,_,_,_⟩=>K (iL e d (pv A e x)) (λ_=>A.mE)
 |⟨d,.pick c a b,_,_,_,_⟩=>
  match pv A e c with
  | .b ro=>K (iL e d (pv A e a)) (λ_=>A.mE)
  | .b rs=>K (iL e d (pv A e b)) (λ_=>A.mE)
  | .v x=>A.split x (K (iL e d (.v (dc A e a))) (λ_=>A.mE)) (K (iL e d (.v (dc A e b))) (λ_=>A.mE))
  | .u=>A.no
 |⟨d,op,t,_,_,_⟩=>Bg A e t (λs=>A.xe s w λv=>K (iL e d (.v v)) (A.stays s v)) (λ_=>A.no) op
def IE(fr:Bool)(n:Nat)(o:U9)(e:Env)(w:x3)(K:Env->x3->B):B:=
 match o with
 |⟨d,.call ⟨.value (.func f),args,_⟩,_,_,_,_⟩=>
  bif fr then A.AT (f:=f) (pw A e args.toList) w λv I=>K (iL e d (.v v)) I
  else A.AS (f:=f) (pw A e args.toList) w λv I=>K (iL e d (.v v)) I
 |⟨d,.call ⟨.value x,args,_⟩,_,_,_,_⟩=>A.AU (fr:=fr) (dc A e x) (pw A e args.toList) w λv I=>K (iL e d (.v v)) I
 |⟨d,.next x b,_,_,_,_⟩=>A.runN (fr:=fr) (n:=n) (A.next (dc A e x) (b:=b)) w λv I=>K (iL e d (.v v)) I
 |⟨d,op,t,_,_,_⟩=>Bg A e t (λs=>A.AQ s w λv I=>K (iL e d (.v v)) I) (λu=>A.AR u w λI=>K (iL e d (.v (A.mD (x:=undef)))) I) op
def Bi(fr:Bool)(n:Nat)(o:U9)(e:Env)(w:x3)(K:Env->x3->B):B:=
 bif lM o then Bh A o e w (λa _=>K a w)else IE A fr n o e w K
def xh(ops:List U9)(o:U9)(e:Env)(D N:Env->B):B:=
 match o.guard with
 |none=>D e
 |some (j,b)=>
  match qR ops j with
  |some ⟨σ s,_,_,_,_,_⟩=>
   match look e s with
   |some (.b c)=>bif xor c b then N e else D e
   |some (.v x)=>A.split x (bif b then D ((s,.b ro)::e)else N ((s,.b ro)::e)) (bif b then N ((s,.b rs)::e)else D ((s,.b rs)::e))
   |some .u=>N e
   |none=>A.no
  |_=>A.no
def xi(fr:Bool)(n:Nat)(ops:List U9):List U9->Env->x3->(Env->x3->B)->B
 |[],e,w,K=>K e w
 |o::l,e,w,K=>xh A ops o e (λe=>Bi A fr n o e w λa I=>xi fr n ops l a I K) (λe=>xi fr n ops l (iL e o.dst .u) w K)
def Bj:List Edge->Nat->Bool
 |[],_=>ro
 |e::r,a=>(bif AL e then sh a e.on else ro)&&Bj r a
def uk(a:Nat):Nat->List U9->List Nat
 |_,[]=>[]
 |i,o::l=>bif sh a i then uk a (Nat.succ i) l else bif Bj o.after.toList a then i::uk a (Nat.succ i) l else uk a (Nat.succ i) l
def Bk(ops:List U9):List Nat->Option Nat
 |[]=>ν
 |i::r=>match qR ops i with
  |some o=>bif lM o then σ i else Bk ops r
  |none=>ν
def Bl(p:Nat->B):List Nat->B
 |[]=>A.mE
 |[i]=>p i
 |i::r=>A.and (p i) (Bl p r)
def Bm(same:Bool)(q:Nat)(w:x3)(st:x3->B)(a:List (x3×List (Nat×(x3->B)))):List (x3×List (Nat×(x3->B))):=
 match same,a with
 |true,g::r=>(g.1,(q,st)::g.2)::r
 |_,a=>(w,[(q,st)])::a
def Bn(a:List Nat)(j:Nat):List (Nat×(x3->B))->Bool
 |[]=>rs
 |(i,_)::r=>xd a j i||Bn a j r
def xj(a:List Nat)(j:Nat)(I:x3):List (Nat×(x3->B))->B
 |[]=>A.mE
 |(i,p)::r=>bif xd a j i then A.and (p I) (xj a j I r)else xj a j I r
def ul(a:List Nat)(j:Nat)(I:x3)(C:B):List (x3×List (Nat×(x3->B)))->B
 |[]=>C
 |(w,l)::r=>bif Bn a j l then A.and (A.or (A.W w I) (xj A a j I l)) (ul a j I C r)else ul a j I C r
def px(fr:Bool)(n:Nat)(ops:List U9)(a:List Nat):Nat->Nat->Bool->List (x3×List (Nat×(x3->B)))->Env->x3->(Env->x3->B)->B
 |0,_,_,_,e,w,K=>K e w
 |fuel+1,h,same,f,e,w,K=>
  match uk h 0 ops with
  |[]=>K e w
  |i::r=>
   match Bk ops (i::r)with
   |some q=>
    match qR ops q with
    |some o=>xh A ops o e
      (λe=>Bh A o e w λp st=>
       bif nv o then px fr n ops a fuel (lR h q) same f p w K
       else px fr n ops a fuel (lR h q) ro (Bm same q w st f) p w K)
      (λe=>bif nv o then px fr n ops a fuel (lR h q) same f (iL e o.dst .u) w K
       else px fr n ops a fuel (lR h q) ro (Bm same q w (λ_=>A.mE) f) (iL e o.dst .u) w K)
    |none=>A.no
   |none=>
    Bl A (λj=>match qR ops j with
     |some o=>xh A ops o e (λe=>Bi A fr n o e w λp I=>ul A a j I (px fr n ops a fuel (lR h j) rs f p I K) f)
       (λe=>ul A a j w (px fr n ops a fuel (lR h j) rs f (iL e o.dst .u) w K) f)
     |none=>A.no) (i::r)
def um(e:Env):List Nat->List x1
 |[]=>[]
 |t::r=>(match look e t with|some x=>x.g A|none=>A.mD (x:=undef))::um e r
def xk(l:List Nat)(vs:List x1)(e:Env):Env:=
 match l,vs with
 |t::r,v::vs=>(t,.v v)::xk r vs e
 |_,_=>e
def uo(d:Nat):Env->Env
 |[]=>[]
 |(t,x)::r=>bif sh d t then uo d r else(t,x)::uo d r
def IF(l:List Nat)(ay:List x1->x3->B)(e:(List x1->x3->B)->B):B:=
 match l with
 |[]=>A.dk (λw=>ay [] w) λk=>e λ_ w=>k w
 |[_]=>A.aV (λa w=>ay [a] w) λk=>e λvs w=>match vs with
  |[a]=>k a w
  |_=>A.no
 |[_,_]=>A.jA (λa b w=>ay [a,b] w) λk=>e λvs w=>match vs with
  |[a,b]=>k a b w
  |_=>A.no
 |[_,_,_]=>A.AV (λa b c w=>ay [a,b,c] w) λk=>e λvs w=>match vs with
  |[a,b,c]=>k a b c w
  |_=>A.no
 |[_,_,_,_]=>A.AW (λa b c d w=>ay [a,b,c,d] w) λk=>e λvs w=>match vs with
  |[a,b,c,d]=>k a b c d w
  |_=>A.no
 |[_,_,_,_,_]=>A.AX (λa b c d f w=>ay [a,b,c,d,f] w) λk=>e λvs w=>match vs with
  |[a,b,c,d,f]=>k a b c d f w
  |_=>A.no
 |_=>A.no
def IG(us:List x1)(w:x3)(e:List x1->x3->(List x1->x3->B)->B):B:=
 match us with
 |[]=>A.AY w λw k=>e [] w λ_ w=>k w
 |[a]=>A.AZ a w λa w k=>e [a] w λvs w=>match vs with
  |[a]=>k a w
  |_=>A.no
 |[a,b]=>A.A0 a b w λa b w k=>e [a,b] w λvs w=>match vs with
  |[a,b]=>k a b w
  |_=>A.no
 |[a,b,c]=>A.A1 a b c w λa b c w k=>e [a,b,c] w λvs w=>match vs with
  |[a,b,c]=>k a b c w
  |_=>A.no
 |[a,b,c,d]=>A.A2 a b c d w λa b c d w k=>e [a,b,c,d] w λvs w=>match vs with
  |[a,b,c,d]=>k a b c d w
  |_=>A.no
 |[a,b,c,d,f]=>A.A3 a b c d f w λa b c d f w k=>e [a,b,c,d,f] w λvs w=>match vs with
  |[a,b,c,d,f]=>k a b c d f w
  |_=>A.no
 |[a,b,c,d,f,g]=>A.A4 a b c d f g w λa b c d f g w k=>e [a,b,c,d,f,g] w λvs w=>match vs with
  |[a,b,c,d,f,g]=>k a b c d f g w
  |_=>A.no
 |_=>A.no
def xl(K:Nat->x3->B):List Nat->List (Nat×(x3->B))
 |[]=>[]
 |i::r=>(i,λw=>K i w)::xl K r
def jh(fr:Bool)(n:Nat):Code->Nat->Env->x3->(Exit->Env->x3->B)->B
 | .skip,_,e,w,K=>K .normal e w
 | .label _,_,e,w,K=>K .normal e w
 | .ret,_,e,w,K=>K .ret e w
 | .exit i,_,e,w,K=>K (.exit i) e w
 | .region _ ops C,_,e,w,K=>
  bif C then A.drew w λI=>px A fr n ops.toList (xc ops.toList []) (ops.toList.length) 0 rs [] e I (K .normal)
  else xi A fr n ops.toList ops.toList e w (K .normal)
 | .seq x y,rd,e,w,K=>
  bif Nat.ble 2 (nB x)then
   IF A (oC 1000 0 (Nat.land (jz x) (Nat.lor (gD y) rd))) (λvs I=>jh fr n y rd (xk (oC 1000 0 (Nat.land (jz x) (Nat.lor (gD y) rd))) vs (uo (jz x) e)) I K)
    λay=>jh fr n x (Nat.lor (gD y) rd) e w λex h I=>match ex with
     | .normal=>ay (um A h (oC 1000 0 (Nat.land (jz x) (Nat.lor (gD y) rd)))) I
     |ex=>K ex h I
  else jh fr n x (Nat.lor (gD y) rd) e w λex h I=>match ex with
   | .normal=>jh fr n y rd h I K
   |ex=>K ex h I
 | .cond c x y,rd,e,w,K=>
  match pv A e c with
  | .b ro=>jh fr n x rd e w K
  | .b rs=>jh fr n y rd e w K
  | .v v=>A.split v (jh fr n x rd e w K) (jh fr n y rd e w K)
  | .u=>A.no
 | .block id c,rd,e,w,K=>jh fr n c rd e w λex h I=>match ex with
  | .exit i=>bif R4 i id then K .normal h I else K (.exit i) h I
  |ex=>K ex h I
 | .loop c,rd,e,w,K=>
  IG A (um A e (si e (oC 1000 0 (Nat.land (jz c) (Nat.lor (gD c) rd))))) w λus I k=>
   jh fr n c (Nat.lor (gD c) rd) (xk (si e (oC 1000 0 (Nat.land (jz c) (Nat.lor (gD c) rd)))) us (uo (jz c) e)) I λex h j=>match ex with
    | .normal=>k (um A h (si e (oC 1000 0 (Nat.land (jz c) (Nat.lor (gD c) rd))))) j
    |ex=>K ex h j
 | .scope c,rd,e,w,K=>jh fr n c rd e w K
 | .rangeFunc f E z body,_,e,w,K=>
  match E.toList with
  |[p]=>A.A5 (dc A e f) w
    (λa I k=>jh fr n z (gD body) ((p,.v a)::e) I λex h j=>match ex with
     | .normal=>A.over (n:=w.heap.size) j λr=>jh fr n body 0 h r λex _ s=>k ex s
     |_=>A.no)
    (λI=>K .normal e I) (bif kr body then λI=>K .ret e I else λ_=>A.no) (xl (λi I=>K (.exit i) e I) (k9 body))
  |[p,q]=>A.A6 (dc A e f) w
    (λa b I k=>jh fr n z (gD body) ((q,.v b)::(p,.v a)::e) I λex h j=>match ex with
     | .normal=>A.over (n:=w.heap.size) j λr=>jh fr n body 0 h r λex _ s=>k ex s
     |_=>A.no)
    (λI=>K .normal e I) (bif kr body then λI=>K .ret e I else λ_=>A.no) (xl (λi I=>K (.exit i) e I) (k9 body))
  |_=>A.no
 | .goto _,_,_,_,_=>A.no
 | .refuse _,_,_,_,_=>A.no
def Bo:Nat->List x1->Env
 |_,[]=>[]
 |i,v::r=>(i,.v (A.mD (x:=v)))::Bo (i+1) r
def uq(e:Env)(w:x3):List ResultVar->(List x1->B)->B
 |[],K=>K []
 | .tmp t::r,K=>uq e w r λvs=>K ((match look e t with|some x=>x.g A|none=>A.mD (x:=undef))::vs)
 | .cell a t::r,K=>A.xe (A.loadVar (t:=t) (match look e a with|some x=>x.g A|none=>A.mD (x:=undef))) w λv=>uq e w r λvs=>K (v::vs)
def ur(vs:List x1)(K:x1->B):B:=
 match vs with
 |[v]=>K v
 |vs=>K (A.tup vs)
def xm:List ResultVar->Nat->Nat
 |[],s=>s
 | .tmp t::r,s=>xm r (lR s t)
 | .cell a _::r,s=>xm r (lR s a)
def IH(a:List ResultVar)(marks:Bool)(n:Nat)(Q:x1->x3->B):Exit->Env->x3->B
 | .normal,e,w=>uq A e w a λvs=>bif marks then A.again (n:=n) w λI=>ur A vs λv=>Q v I else ur A vs λv=>Q v w
 | .ret,e,w=>uq A e w a λvs=>bif marks then A.again (n:=n) w λI=>ur A vs λv=>Q v I else ur A vs λv=>Q v w
 |_,_,_=>A.no
def xn(fr marks:Bool)(fn:Func)(c:Code)(args:List x1)(w:x3)(Q:x1->x3->B):B:=
 jh A fr n c (xm fn.results.toList 0) (Bo A 0 args) w (IH A fn.results.toList marks n Q)
end
def qS(P:X5):oD Prop (Sem x1) (Sem Unit) where
 mD {x}:=x
 tup l:=.tuple l.toArray
 no:=False
 mE:=True
 and:=And
 or:=Or
 W:=Ext
 stays:=cE P
 split:=Split
 xe:=ab P
 AQ:=aC P
 AR u w K:=aC P u w λ_ I=>K I
 runN {fr n}:=tO P (fr,n)
 AS {f}:=aj P f
 AT {f}:=gT P f
 AU {fr}:=tR P fr
 drew:=eu
 again {n}:=w5 n
 over {n}:=Over n
 dk:=cz
 aV:=cz
 jA:=cz
 AV:=cz
 AW:=cz
 AX:=cz
 AY:=Ij
 AZ:=cm
 A0:=b2
 A1:=k8
 A2:=tZ
 A3:=sa
 A4:=Ik
 A5:=mz P
 A6:=mA P
 loadVar {t} x:=do loadVar t (<-asAddr x)
 alloc {t}:=S5 t ro (.tuple #[])
 box {t} x:=Instr.box t x
 build {t} l:=Instr.build t l.toArray
 buildSlice {t n} l:=Y1 t n l.toArray
 load {t} x:=u4 t x
 nil x:=bQ x
 bin {op t} a b x y:=aO op t a b x y
 un {op} x:=Op.unary op x
 conv {s d} x:=convert s d x
 A7 {t} x:=Instr.makeInterface t x
 A8 {f} a b:=Instr.makeFunc f a.toArray b.toArray
 Ba {t} x:=Instr.makeMap t x
 Bb {t} l c:=Instr.makeSlice t l c
 slice {t} x l h m:=V4 t x l h m
 Bc {t} x {f}:=u6 t x f
 field {t} x {f}:=Instr.field t x f
 Bd {t} x i:=j4 t x i
 index {t} x i:=Instr.index t x i
 lookup {t} x i {ok}:=Instr.lookup t x i ok
 Be {t} m k:=Instr.mapEntry t m k
 range {t} x:=Instr.range t x
 entry x:=Instr.entry x
 assert {t a} x {ok}:=Instr.typeAssert x t a ok
 extract x {i}:=c8 x i
 next x {b}:=Instr.next x b 0
 append {ats t} l:=j6 ats t l.toArray
 cap {ats t} l:=j9.cap_ ats t l.toArray
 clear {ats t} l:=j9.clear_ ats t l.toArray
 copy {ats t} l:=j9.copy_ ats t l.toArray
 delete {ats t} l:=j9.delete_ ats t l.toArray
 len {ats t} l:=W0 ats t l.toArray
 max {ats t} l:=j9.max_ ats t l.toArray
 min {ats t} l:=j9.min_ ats t l.toArray
 store {t} a x:=o7 t a x
 xf {t} m k x:=Instr.mapUpdate t m k x
 Bf {t} m k x:=Instr.entryStore t m k x
end Go.Vc
namespace Go.Proofs.YtkcigodpbndobaaGreatDoor
open Go Go.Vc Go.RowKit Go.Proofs Go.Proofs.Tryz
set_option maxRecDepth 100000
theorem mixed:x7.follows .mixedOrders=ro:=Ψ
def Bp:Nat:=4
def Bq:Nat:=8
def Br:Nat:=10
def II:Nat:=11
def IJ:Nat:=12
def IK:Nat:=13
def Bs:Nat:=14
def IL:Nat:=15
def IM:Nat:=16
def IN:Nat:=17
def xo:Nat:=21
def IP:Nat:=22
def IQ:Nat:=23
def Bt:Nat:=24
def Bu:Nat:=25
def IR:Nat:=26
def IS:Nat:=28
def Bv:Nat:=30
def IT:Nat:=31
def IU:Nat:=32
def Bw:Nat:=33
def IV:Nat:=41
def Bx:Nat:=43
def IW:Nat:=45
def IX:Nat:=46
def By:Nat:=47
def Bz:Nat:=48
def sj:Nat:=49
def py:Nat:=50
def mF:Nat:=51
def BA:Nat:=52
def xp:Nat:=53
def pz:Nat:=54
def BB:Nat:=55
def xq:Nat:=56
def IY:Nat:=57
def IZ:Nat:=58
def ut:Nat:=59
def nD:Nat:=60
def BC:Nat:=61
def pA:Nat:=62
def I0:Nat:=63
def I1:Nat:=64
def I2:Nat:=65
def I3:Nat:=66
def BD:Nat:=67
def I4:Nat:=68
def I5:Nat:=69
def I6:Nat:=70
def BE:Nat:=71
def BF:Nat:=72
def I7:Nat:=73
def I8:Nat:=74
def I9:Nat:=75
def Ja:Nat:=76
def Jb:Nat:=77
def BG:Nat:=78
def Jc:Nat:=79
def Jd:Nat:=80
def Je:Nat:=81
def Jf:Nat:=83
def Jg:Nat:=84
def Jh:Nat:=85
def Ji:Nat:=86
def xr:Nat:=88
def Jj:Nat:=89
def Jk:Nat:=90
def xt:Nat:=91
def Jl:Nat:=92
def BH:Nat:=93
def Jm:Nat:=94
def Jn:Nat:=95
def Jo:Nat:=96
def Jp:Nat:=97
def Jq:Nat:=98
def Jr:Nat:=99
def Js:Nat:=100
def Jt:Nat:=101
def Ju:Nat:=102
def Jv:Nat:=103
def Jw:Nat:=104
def Jx:Nat:=105
def Jy:Nat:=106
def Jz:Nat:=107
def BI:Nat:=109
def JA:Nat:=110
def JB:Nat:=114
def JC:Nat:=115
def JD:Nat:=116
def JE:Nat:=117
def JF:Nat:=118
def BJ:Nat:=119
def JG:Nat:=120
def JH:Nat:=121
def JI:Nat:=122
def JJ:Nat:=123
def JK:Nat:=124
def qT:Nat:=125
def JL:Nat:=126
def JM:Nat:=127
def uu:Nat:=128
def JN:Nat:=129
def JO:Nat:=130
def BK:Nat:=131
def BL:Nat:=132
def JP:Nat:=133
def sk:Nat:=134
def JQ:Nat:=135
def xu:Nat:=136
def JR:Nat:=137
def JS:Nat:=138
def BM:Nat:=139
def JT:Nat:=140
def JU:Nat:=141
def JV:Nat:=142
def JW:Nat:=143
def xv:Nat:=144
def JX:Nat:=145
def JY:Nat:=146
def BN:Nat:=147
def JZ:Nat:=148
def J0:Nat:=149
def J1:Nat:=150
def J2:Nat:=151
def J3:Nat:=152
def J4:Nat:=153
def BO:Nat:=154
def J5:Nat:=155
def J6:Nat:=156
def J7:Nat:=157
def J8:Nat:=158
def J9:Nat:=159
def Ka:Nat:=160
def uv:Nat:=162
def uw:Nat:=163
def Kb:Nat:=164
def Kc:Nat:=165
def Kd:Nat:=166
def Vp:Nat:=167
def xw:Nat:=168
def Ke:Nat:=169
def Kf:Nat:=170
def Kg:Nat:=171
def Kh:Nat:=172
def Ki:Nat:=173
def Kj:Nat:=174
def ux:Nat:=175
def BP:Nat:=176
def Kk:Nat:=177
def Vq:Nat:=178
def BQ:Nat:=179
def BR:Nat:=180
def Kl:Nat:=181
def Km:Nat:=182
def Kn:Nat:=183
def xx:Nat:=184
def Ko:Nat:=185
def BS:Nat:=186
def BT:Nat:=187
def Kp:Nat:=188
def Kq:Nat:=189
def BU:Nat:=190
def Kr:Nat:=191
def Ks:Nat:=192
def Kt:Nat:=193
def Ku:Nat:=194
def Kv:Nat:=195
def la:Nat:=196
def Kw:Nat:=197
def Kx:Nat:=198
def kt:Nat:=199
def Ky:Nat:=200
def Kz:Nat:=201
def KA:Nat:=202
def KB:Nat:=203
def KC:Nat:=206
def xy:Nat:=207
def uy:Nat:=208
def KD:Nat:=209
def xz:Nat:=210
def KE:Nat:=211
def KF:Nat:=212
def KG:Nat:=213
def xA:Nat:=214
def KH:Nat:=215
def KI:Nat:=216
def BV:Nat:=217
def BW:Nat:=218
def KJ:Nat:=219
def KK:Nat:=220
def KL:Nat:=221
def KM:Nat:=222
def KN:Nat:=223
def Vr:Nat:=224
def KO:Nat:=226
def cmp_isNaN_int:Nat:=227
def xB:Nat:=228
def uz:Nat:=229
def KP:Nat:=230
def BX:Nat:=231
def KQ:Nat:=232
def KR:Nat:=233
def KS:Nat:=234
def KT:Nat:=235
def KU:Nat:=236
def KV:Nat:=237
def KW:Nat:=238
def xC:Nat:=239
def KX:Nat:=240
def KY:Nat:=241
def KZ:Nat:=242
def K0:Nat:=243
def K1:Nat:=244
def K2:Nat:=245
def K3:Nat:=246
def K4:Nat:=247
def pB:Nat:=248
def pC:Nat:=249
def K5:Nat:=250
def K6:Nat:=251
def K7:Nat:=252
def K8:Nat:=253
def K9:Nat:=254
def Vs:Nat:=255
def La:Nat:=256
def xD:Nat:=257
def Vt:Nat:=258
def Lb:Nat:=259
def Lc:Nat:=260
def Vu:Nat:=261
def BY:Nat:=262
def Ld:Nat:=263
def Le:Nat:=264
def Lf:Nat:=267
def Vv:Nat:=268
def Lg:Nat:=269
def Vw:Nat:=270
def Lh:Nat:=271
def qU:Nat:=272
def Li:Nat:=273
def Lj:Nat:=283
def Lk:Nat:=284
def Ll:Nat:=285
def Lm:Nat:=286
def Ln:Nat:=287
def nE:Nat:=288
def Lo:Nat:=289
def Lp:Nat:=290
def Lq:Nat:=291
def BZ:Nat:=292
def Lr:Nat:=293
def Ls:Nat:=294
def Lt:Nat:=295
def Vx:Nat:=296
def Vy:Nat:=297
def Vz:Nat:=298
def VA:Nat:=299
def VB:Nat:=300
def cmp_Less_int:Nat:=301
def VC:Nat:=302
def VD:Nat:=303
def VE:Nat:=305
def Lu:Nat:=307
def Lv:Nat:=308
def Lw:Nat:=309
def Lx:Nat:=315
def Ly:Nat:=316
def Lz:Nat:=318
def nF:Nat:=319
def pD:Nat:=320
def LA:Nat:=325
def LB:Nat:=326
def LC:Nat:=327
def VF:Nat:=328
def VG:Nat:=339
def VH:Nat:=340
abbrev LD:Nat:=0
abbrev ap:Nat:=2
abbrev ae:Nat:=3
abbrev ir:Nat:=4
abbrev cM:Nat:=5
abbrev dd:Nat:=9
abbrev cS:Nat:=23
abbrev al:Nat:=27
abbrev dL:Nat:=28
abbrev xE:Nat:=30
abbrev lb:Nat:=31
abbrev xF:Nat:=34
abbrev oE:Nat:=37
abbrev dB:Nat:=40
abbrev e0:Nat:=42
abbrev da:Nat:=43
abbrev dY:Nat:=45
abbrev pE:Nat:=54
abbrev lS:Nat:=55
abbrev gE:Nat:=56
abbrev a6:Nat:=59
abbrev aw:Nat:=65
abbrev jB:Nat:=71
abbrev qV:Nat:=73
abbrev ca:Nat:=76
abbrev B1:Nat:=84
abbrev uA:Nat:=98
abbrev fl:Nat:=101
abbrev iM:Nat:=102
abbrev cF:Nat:=104
abbrev ku:Nat:=109
abbrev jW:Nat:=110
abbrev cn:Nat:=112
abbrev dQ:Nat:=118
abbrev cG:Nat:=120
abbrev fd:Nat:=121
abbrev cN:Nat:=123
abbrev fB:Nat:=125
abbrev dG:Nat:=129
abbrev bF:Nat:=131
abbrev ei:Nat:=133
abbrev cA:Nat:=135
abbrev ej:Nat:=139
abbrev a8:Nat:=141
abbrev mG:Nat:=146
abbrev gb:Nat:=148
abbrev dv:Nat:=149
abbrev iN:Nat:=153
abbrev sm:Nat:=154
abbrev fe:Nat:=156
abbrev bX:Nat:=158
abbrev a7:Nat:=166
abbrev uB:Nat:=168
abbrev fN:Nat:=169
abbrev b3:Nat:=171
abbrev bn:Nat:=177
abbrev de:Nat:=186
abbrev dq:Nat:=204
abbrev fO:Nat:=211
abbrev ji:Nat:=220
abbrev ld:Nat:=226
abbrev ev:Nat:=231
abbrev cp:Nat:=235
abbrev gF:Nat:=237
abbrev db:Nat:=242
abbrev jX:Nat:=254
abbrev fP:Nat:=256
abbrev qW:Nat:=257
abbrev gG:Nat:=260
abbrev cu:Nat:=263
abbrev jC:Nat:=264
abbrev pF:Nat:=265
abbrev uC:Nat:=266
abbrev fC:Nat:=268
abbrev fQ:Nat:=270
abbrev eH:Nat:=272
abbrev lf:Nat:=274
abbrev VI:Nat:=292
abbrev iu:Nat:=310
abbrev gd:Nat:=312
abbrev cH:Nat:=314
abbrev nG:Nat:=329
abbrev mH:Nat:=333
abbrev lg:Nat:=335
abbrev VJ:Nat:=347
abbrev sn:Nat:=349
abbrev VK:Nat:=365
abbrev qX:Nat:=373
abbrev nH:Nat:=374
abbrev xG:Nat:=394
abbrev oF:Nat:=406
abbrev xH:Nat:=420
theorem az{f:Q2}{fn:Func}{c:Code}{Q:x1->x3->Prop}{Z:{B S aW:Type}->oD B S aW->(x1->x3->B)->B}{a:Prop}(j:x7.funcs[f]?=σ fn)(h:a)(p:fn.body=σ c:=by rfl)(_:∀{B S aW:Type}(A:oD B S aW)(Q:x1->x3->B),xn A rs rs (n:=w.heap.size) fn c args w Q=Z A Q:=by intros;conv=>lhs;reduce)(_:Z (qS x7) Q=a:=by dsimp only[qS])(e:a=eO x7 fn.ntmps (rs,w.heap.size) c (oB fn.results.toList) (mC 0 args) w (nA x7 fn.results.toList rs 0 Q):=by kernel_rfl)(hk:(!(fn.name == "runtime.NumGoroutine")&&wf fn.ntmps c&&Nat.ble args.length fn.ntmps&& !lP c)=ro:=by kernel_rfl):aj x7 f args w Q:=by
 simp only[V9,Bool.not_eq_true']at hk;exact aj.IB mixed j p hk.1.1.1 hk.1.1.2 hk.1.2 hk.2 (e▸h)
theorem jj{f:Q2}{fn:Func}{c:Code}{Q:x1->x3->Prop}{Z:{B S aW:Type}->oD B S aW->(x1->x3->B)->B}{a:Prop}(j:x7.funcs[f]?=σ fn)(h:a)(p:fn.body=σ c:=by rfl)(_:∀{B S aW:Type}(A:oD B S aW)(Q:x1->x3->B),xn A rs ro (n:=w.heap.size) fn c args w Q=Z A Q:=by intros;conv=>lhs;reduce)(_:Z (qS x7) Q=a:=by dsimp only[qS])(e:a=eO x7 fn.ntmps (rs,w.heap.size) c (oB fn.results.toList) (mC 0 args) w (nA x7 fn.results.toList ro w.heap.size Q):=by kernel_rfl)(hk:(!(fn.name == "runtime.NumGoroutine")&&wf fn.ntmps c&&Nat.ble args.length fn.ntmps)=ro:=by kernel_rfl):aj x7 f args w Q:=by
 simp only[V9,Bool.not_eq_true']at hk;exact aj.enter mixed j p hk.1.1 hk.1.2 hk.2 (e▸h)
theorem sq{f:Q2}{fn:Func}{c:Code}{Q:x1->x3->Prop}{Z:{B S aW:Type}->oD B S aW->(x1->x3->B)->B}{a:Prop}(j:x7.funcs[f]?=σ fn)(h:a)(p:fn.body=σ c:=by rfl)(_:∀{B S aW:Type}(A:oD B S aW)(Q:x1->x3->B),xn A ro rs (n:=0) fn c args w Q=Z A Q:=by intros;conv=>lhs;reduce)(_:Z (qS x7) Q=a:=by dsimp only[qS])(e:a=eO x7 fn.ntmps (ro,0) c (oB fn.results.toList) (mC 0 args) w (nA x7 fn.results.toList rs 0 Q):=by kernel_rfl)(hk:(!(fn.name == "runtime.NumGoroutine")&&wf fn.ntmps c&&Nat.ble args.length fn.ntmps)=ro:=by kernel_rfl):gT x7 f args w Q:=by
 simp only[V9,Bool.not_eq_true']at hk;exact gT.enter mixed j p hk.1.1 hk.1.2 hk.2 (e▸h)
theorem la.enters:Enters x7 la:=Enters.of x7 (show x7.funcs[la]?=σ Tryz.f196 from Tryz.func196) rfl Ψ
theorem kt.enters:Enters x7 kt:=Enters.of x7 (show x7.funcs[kt]?=σ Tryz.f199 from Tryz.func199) rfl Ψ
theorem qU.enters:Enters x7 qU:=Enters.of x7 (show x7.funcs[qU]?=σ Tryz.f272 from Tryz.func272) rfl Ψ
theorem nE.enters:Enters x7 nE:=Enters.of x7 (show x7.funcs[nE]?=σ Tryz.f288 from Tryz.func288) rfl Ψ
theorem nF.enters:Enters x7 nF:=Enters.of x7 (show x7.funcs[nF]?=σ Tryz.f319 from Tryz.func319) rfl Ψ
end Go.Proofs.YtkcigodpbndobaaGreatDoor
namespace Go.Vc
open Go Go.RowKit
theorem xI{b o:Nat}(h:w.cell? ⟨b,o,ν⟩=σ v):∃c e f,w.heap[b]?=σ (.cells c e f)/\c[o]?=σ v:=by
 simp only[x3.cell?]at h;split at h
 .rename_i c e f a;exact⟨c,e,f,a,by simpa using h⟩
 .cases h
theorem B2(a:af S w I){b o:Nat}(j:¬S b)(h:w.cell? ⟨b,o,ν⟩=σ v):I.cell? ⟨b,o,ν⟩=σ v:=by
 obtain⟨c,e,f,p,q⟩:=xI h;simp[x3.cell?,a.aZ b _ p rfl j,q]
theorem jY(a:Ext w I){b o:Nat}(h:w.cell? ⟨b,o,ν⟩=σ v):I.cell? ⟨b,o,ν⟩=σ v:=
 B2 (a.aa λ_=>False) (λh=>h) h
theorem pG(a:Ext w I){b o:Nat}(h:w.rangeAt b o cs):I.rangeAt b o cs:=λj v e=>jY a (h j v e)
theorem gH(a:af S w I){b o:Nat}(e:¬S b)(h:w.rangeAt b o cs):I.rangeAt b o cs:=λj v f=>B2 a e (h j v f)
def ag(w:x3)(g:Nat)(e:r9)(cs:List x1):Prop:=w.heap[g]?=σ (.cells cs.toArray e (0,0))
theorem ag.W{g:Nat}(h:ag w g e cs)(a:Ext w I):ag I g e cs:=a.aZ g _ h rfl
theorem ag.aa{g:Nat}(h:ag w g e cs)(a:af S w I)(f:¬S g):ag I g e cs:=a.aZ g _ h rfl f
theorem ag.lt{g:Nat}(h:ag w g e cs):g<w.heap.size:=(Z5.1 h).1
theorem ag.cell{g:Nat}(h:ag w g e cs){o:Nat}(a:cs[o]?=σ v):w.cell? ⟨g,o,ν⟩=σ v:=by
 unfold ag at h;simp[x3.cell?,h,a]
theorem ag.Qz{w:World}{g:Nat}{e:TypeId}{cs:List Value}{v:Value}(h:ag w g e cs)(I:cs[0]?=σ v):w.cell? ⟨g,0,ν⟩=σ v:=h.cell I
theorem ag.range{g:Nat}(h:ag w g e cs):w.rangeAt g 0 cs:=λj v a=>by rw[W7];exact h.cell a
theorem ag.frozen{g:Nat}(h:ag w g e cs)(o:Nat)(a:Option Nat):w.frozen? ⟨g,o,a⟩=rs:=by
 unfold ag at h;simp[x3.frozen?,h]
def b4(w:x3)(k:Nat)(v:x1)(n:Nat)(cs:List x1):Prop:=
 cs.length=n*k/\∃b o base cap,v= .slice base n cap/\n<=cap/\cap<=maxLen/\(0<n->base=σ ⟨b,o,ν⟩)/\w.rangeAt b o cs
theorem b4.W{k:Nat}(h:b4 w k v n cs)(a:Ext w I):b4 I k v n cs:=by
 obtain⟨h1,b,o,base,cap,e,f,j,p,q⟩:=h;exact⟨h1,b,o,base,cap,e,f,j,p,pG a q⟩
theorem b4.le{k:Nat}(h:b4 w k v n cs):n<=maxLen:=by
 obtain⟨_,_,_,_,_,_,a,e,_⟩:=h;exact Y2 a e
theorem b4.nil(w:x3)(k:Nat):b4 w k (.slice ν 0 0) 0 []:=⟨Ξ,0,0,ν,0,rfl,p9 _,X7 _,λh=>m6 h (Nat.lt_irrefl _),λj v h=>by simp at h⟩
def aR(P:X5)(t:r9)(k b:Nat)(z:x1):Prop:=∃i,P.info? t=σ i/\i.size=k/\i.bytes=b/\i.zero=σ z
theorem aR.of{P:X5}{k b:Nat}(h:(P.info? t).map (λi=>(i.size,i.bytes,i.zero))=σ (k,b,σ z)):aR P t k b z:=by
 cases hi:P.info? t with
 |none=>simp[hi]at h
 |some i=>simp[hi]at h;exact⟨i,hi,h⟩
theorem aR.size{P:X5}{k b:Nat}(h:aR P t k b z):(P.info? t).map (·.size)=σ k:=by
 obtain⟨i,hi,U,_⟩:=h;simp[hi,U]
def bN(P:X5)(t:r9)(e:List (Nat×Nat)):Prop:=∃a,P.underlying t=σ (.struct a)/\a.toList.map (λf=>(f.offset,((P.info? f.type).map (·.size)).getD 0))=e
def B3(P:X5)(t:r9):Option (List (Nat×Nat)):=match P.underlying t with
 |some (.struct a)=>σ (a.toList.map λf=>(f.offset,((P.info? f.type).map (·.size)).getD 0))
 |_=>ν
theorem bN.of{P:X5}{a:List (Nat×Nat)}(h:B3 P t=σ a):bN P t a:=by
 unfold B3 at h;split at h
 .rename_i e f;exact⟨e,f,by simpa using h⟩
 .cases h
section
variable{P:X5}{w:x3}
theorem ab.of{s:Sem x1}(h:∀I,Ext w I->s.run P I= .ok v I):ab P s w K=K v:=by
 refine propext ⟨λ⟨a,bi,k⟩=>?_,λk=>⟨v,h,k⟩⟩;have:=bi w (Ext.refl w);rw[h w (Ext.refl w)]at this;cases this;exact k
theorem aC.of{α:Type}{s:Sem α}{v:α}{K:α->x3->Prop}(h:s.run P w= .ok v I)(a:cC w I)(k:K v I):aC P s w K:=⟨v,I,h,a,k⟩
theorem bU{c:Bool}{A B:Prop}:Split (.bool c) A B=((c=ro->A)/\(c=rs->B)):=by
 refine propext ⟨λ⟨e,h,h1,a⟩=>?_,λ⟨h1,a⟩=>⟨c,rfl,h1,a⟩⟩;cases h;exact⟨h1,a⟩
theorem ai{p:Prop}[Decidable p]{A B:Prop}:Split (.bool (decide p)) A B=((p->A)/\(¬p->B)):=by rw[bU];simp
theorem bY{A B:Prop}:Split (.bool ro) A B=A:=by rw[bU];simp
theorem aX{A B:Prop}:Split (.bool rs) A B=B:=by rw[bU];simp
theorem aM{b:Int}:ab P (aO .add t cx cy (.int k a) (.int k b)) w K=K (.int k (k.wrap (a+b))):=
 ab.of λI _=>by simp[aO,eqGuard,binOp,Op.intArith]
theorem dR{b:Int}:ab P (aO .sub t cx cy (.int k a) (.int k b)) w K=K (.int k (k.wrap (a-b))):=
 ab.of λI _=>by simp[aO,eqGuard,binOp,Op.intArith]
theorem iO{b:Int}:ab P (aO .mul t cx cy (.int k a) (.int k b)) w K=K (.int k (k.wrap (a*b))):=
 ab.of λI _=>by simp[aO,eqGuard,binOp,Op.intArith]
theorem uD{b:Int}(e:b≠0):ab P (aO .quo t cx cy (.int k a) (.int k b)) w K=K (.int k (k.wrap (a.tdiv b))):=
 ab.of λI _=>by simp[aO,eqGuard,binOp,Op.intDiv,e]
theorem sr{b:Int}(e:b≠0):ab P (aO .rem t cx cy (.int k a) (.int k b)) w K=K (.int k (a.tmod b)):=
 ab.of λI _=>by simp[aO,eqGuard,binOp,Op.intDiv,e]
theorem aP{b:Int}:ab P (aO .lss t cx cy (.int k a) (.int k b)) w K=K (.bool (decide (a<b))):=
 ab.of λI _=>by simp[aO,eqGuard,binOp,Op.intCmp]
theorem Υ{k:IntKind}{P:Program}{t:TypeId}{cx cy:Bool}{a b:Int}{w:World}{A B:Prop}(hA:a<b->A)(h:a<b:=by omega):ab P (aO .lss t cx cy (.int k a) (.int k b)) w λv=>Split v A B:=by
 rw[aP,ai];exact⟨hA,λe=>m6 h e⟩
theorem oG{b:Int}:ab P (aO .leq t cx cy (.int k a) (.int k b)) w K=K (.bool (decide (a<=b))):=
 ab.of λI _=>by simp[aO,eqGuard,binOp,Op.intCmp]
theorem bL{b:Int}:ab P (aO .gtr t cx cy (.int k a) (.int k b)) w K=K (.bool (decide (b<a))):=
 ab.of λI _=>by simp[aO,eqGuard,binOp,Op.intCmp]
theorem cI{b:Int}:ab P (aO .geq t cx cy (.int k a) (.int k b)) w K=K (.bool (decide (b<=a))):=
 ab.of λI _=>by simp[aO,eqGuard,binOp,Op.intCmp]
theorem bh{b:Int}:ab P (aO .eql t cx cy (.int k a) (.int k b)) w K=K (.bool (decide (a=b))):=
 ab.of λI _=>by
  have:(a == b)=decide (a=b):=by by_cases h:a=b<;>simp[h]
  simp[aO,eqGuard,binOp,Op.intCmp,this]
theorem bJ{b:Int}:ab P (aO .neq t cx cy (.int k a) (.int k b)) w K=K (.bool (decide (a≠b))):=
 ab.of λI _=>by
  have:(a != b)=decide (a≠b):=by by_cases h:a=b<;>simp[h,bne]
  simp[aO,eqGuard,binOp,Op.intCmp,this]
theorem B4{e:o5}{b:Int}(f:0<=b):ab P (aO .shl t cx cy (.int k a) (.int e b)) w K=K (.int k (k.wrap (a*2 ^ min b.toNat k.bits))):=
 ab.of λI _=>by simp[aO,eqGuard,binOp,Op.shift,show¬b<0 by omega]
theorem bA{c:Bool}:ab P (Op.unary .not (.bool c)) w K=K (.bool !c):=ab.of λI _=>by simp[Op.unary]
theorem nI:ab P (Op.unary .neg (.int k a)) w K=K (.int k (k.wrap (0-a))):=ab.of λI _=>by simp[Op.unary,Op.intArith]
theorem e1{s d:r9}{e:o5}(U:P.underlying s=σ (.int e))(f:P.underlying d=σ (.int k)):
  ab P (convert s d (.int e a)) w K=K (.int k (k.wrap a)):=ab.of λI _=>by simp[convert,run_underlying U,run_underlying f,Conv.intToInt]
theorem B5{x y:x1}{r:Bool}(a:∀I,(eqGuard .eql t (a1 cx) (a1 cy) x y).run P I= .ok () I)(e:binOp .eql t x y=(do pure (.bool (<-Op.equal t x y))))(h:∀I,Ext w I->(Op.equal t x y).run P I= .ok r I):ab P (aO .eql t cx cy x y) w K=K (.bool r):=ab.of λI f=>by
 unfold aO;rw[e,X8,a I,Result.andThen_ok,X8,h I f];rfl
theorem LF{x y:x1}{r:Bool}(a:∀I,(eqGuard .neq t (a1 cx) (a1 cy) x y).run P I= .ok () I)(e:binOp .neq t x y=(do pure (.bool (!(<-Op.equal t x y)))))(h:∀I,Ext w I->(Op.equal t x y).run P I= .ok r I):ab P (aO .neq t cx cy x y) w K=K (.bool !r):=ab.of λI f=>by
 unfold aO;rw[e,X8,a I,Result.andThen_ok,X8,h I f];rfl
theorem B6(w:x3)(d:Nat){p:Option Q0}(h:P.underlying t=σ (.pointer e)):(Op.equalIn (d+1) t (.pointer p) (.pointer ν)).run P w= .ok p.isNone w:=by
 cases p<;>simp[Op.equalIn,run_underlying h]
theorem uE{base:Option Q0}(a:P.underlying t=σ (.slice e)):
  ab P (aO .eql t cx cy (.slice base n c) (.slice ν 0 0)) w K=K (.bool base.isNone):=B5 (λ_=>rfl) rfl λI _=>run_equal_slice_nil I t e base n c a
theorem cW{p:Option Q0}(a:P.underlying t=σ (.pointer e)):
  ab P (aO .eql t cx cy (.pointer p) (.pointer ν)) w K=K (.bool p.isNone):=B5 (λ_=>rfl) rfl λI _=>B6 I 9999 a
theorem B7{p:Option Q0}(a:P.underlying t=σ (.pointer e)):
  ab P (aO .neq t cx cy (.pointer p) (.pointer ν)) w K=K (.bool !p.isNone):=LF (λ_=>rfl) rfl λI _=>B6 I 9999 a
theorem iv{a:r9}{base:Option Q0}(f:P.underlying t=σ (.slice e)):
  ab P (W0 #[t] a #[.slice base n c]) w K=K (Δ n):=ab.of λI _=>by simp[W0,run_underlying f,goInt]
theorem nJ{e:Array r9}{f:r9}{b:Int}:
  ab P (j9.min_ e f #[.int k a,.int k b]) w K=K (.int k (min a b)):=ab.of λI _=>by
 simp only[j9.min_,List.foldlM,j9.min2];simp only[X8,W9,Result.andThen_ok,Int.min_def];congr 2;split<;>split<;>omega
theorem xJ{e:Array r9}{f:r9}{b:Int}:
  ab P (j9.max_ e f #[.int k a,.int k b]) w K=K (.int k (max a b)):=ab.of λI _=>by
 simp only[j9.max_,List.foldlM,j9.max2];simp only[X8,W9,Result.andThen_ok,Int.max_def];congr 2;split<;>split<;>omega
theorem jZ{vs:Array x1}{i:Nat}(h:vs[i]?=σ v):ab P (c8 (.tuple vs) i) w K=K v:=ab.of λI _=>by simp[c8,h]
theorem j1{f:Fn}{a b:Array x1}:ab P (Instr.makeFunc f a b) w K=K (.func f a b):=ab.of λ_ _=>rfl
def lh(P:X5)(t:r9):Bool:=match P.underlying t with
 |some (.struct _)|some (.array _ _)|none=>rs
 |_=>ro
theorem ax{b o:Nat}(a:lh P t=ro)(h:w.cell? ⟨b,o,ν⟩=σ v):
  ab P (u4 t (.pointer (σ ⟨b,o,ν⟩))) w K=K v:=ab.of λI f=>by
 have bi:=jY f h;unfold lh at a;cases e:P.underlying t with
 |none=>rw[e]at a;cases a
 |some d=>
  rw[e]at a;cases d<;>first|(cases a;done)|simp[u4,Instr.sureAddr,loadVar,isAgg,run_underlying e,bi]
theorem B8{d:TypeDesc}{b o k a:Nat}(e:P.underlying t=σ d)(f:d.isRow=ro)(hi:aR P t k a z)(j:cs.length=k)(h:w.rangeAt b o cs):ab P (u4 t (.pointer (σ ⟨b,o,ν⟩))) w K=K (.agg cs.toArray):=ab.of λI p=>
 run_loadAt_mid I b o t cs d (pG p h) e f (by rw[hi.size,j])
theorem bB{e:List (Nat×Nat)}{b o k f:Nat}(a:bN P t e)(hi:aR P t k f z)(j:cs.length=k)(h:w.rangeAt b o cs):ab P (u4 t (.pointer (σ ⟨b,o,ν⟩))) w K=K (.agg cs.toArray):=by
 obtain⟨p,a,_⟩:=a;exact B8 a rfl hi j h
theorem aT{p:List (Nat×Nat)}{i b o z:Nat}(r:bN P t p)(a:p[i]?=σ (off,z+1)):
  ab P (u6 t (.pointer (σ ⟨b,o,ν⟩)) i) w K=K (.pointer (σ ⟨b,o+off,ν⟩)):=ab.of λI _=>by
 obtain⟨s,x,rfl⟩:=r;rw[x8]at a;cases e:s[i]? with
 |none=>rw[Array.getElem?_toList,e]at a;cases a
 |some f=>
  rw[Array.getElem?_toList,e]at a;simp only[Z4,Y8,T2]at a;obtain⟨rfl,q⟩:=a;cases h:P.info? f.type with
  |none=>simp[h]at q
  |some j=>
   have U:j.size=z+1:=by simpa[h]using q
   simp[u6,run_underlying x,e,Instr.sureAddr,fieldPlace,sizeOf,typeInfo,h,U,W5]
theorem B9{i:Int}{b o z f:Nat}{h:x1}{base:Option Q0}(p:P.underlying t=σ (.slice e))(q:aR P e z f h)(r:0<=i)(hi:i<n)(a:0<n->base=σ ⟨b,o,ν⟩):
  ab P (j4 t (.slice base n c) (.int k i)) w K=K (.pointer (σ ⟨b,o+i.toNat*z,ν⟩)):=ab.of λI _=>by
 have a:=a Ω;subst a;obtain⟨j,s,U,_⟩:=q;simp[j4,asIntOf,run_underlying p,r,hi,sizeOf,typeInfo,s,U,W5]
theorem fv{i:Nat}{b o z a:Nat}{f:x1}{base:Option Q0}(h:P.underlying t=σ (.slice e))(j:aR P e z a f)(hi:i<n)(p:0<n->base=σ ⟨b,o,ν⟩):
  ab P (j4 t (.slice base n c) (.int k (i:Int))) w K=K (.pointer (σ ⟨b,o+i*z,ν⟩)):=by
 rw[B9 h j Ω Ω p];rfl
theorem LG{i:Int}{b o z a:Nat}{f:x1}(h:P.underlying t=σ (.array n e))(p:aR P e z a f)(q:0<=i)(hi:i<n):
  ab P (j4 t (.pointer (σ ⟨b,o,ν⟩)) (.int k i)) w K=K (.pointer (σ ⟨b,o+i.toNat*z,ν⟩)):=ab.of λI _=>by
 obtain⟨j,r,U,_⟩:=p;simp[j4,asIntOf,run_underlying h,Instr.sureAddr,q,hi,sizeOf,typeInfo,r,U,W5]
theorem xK{i:Nat}{b o z a:Nat}{f:x1}(h:P.underlying t=σ (.array n e))(j:aR P e z a f)(hi:i<n):
  ab P (j4 t (.pointer (σ ⟨b,o,ν⟩)) (.int k (i:Int))) w K=K (.pointer (σ ⟨b,o+i*z,ν⟩)):=by
 rw[LG h j Ω Ω];rfl
def nK:Option x1->Nat->Prop
 |none,l=>l=0
 |some v,l=>∃k,v= .int k l
def nL:Option x1->Nat->Nat->Prop
 |none,n,h=>h=n
 |some v,_,h=>∃k,v= .int k h
def maxOf:Option x1->Option x1->Nat->Nat->Prop
 |none,_,c,m=>m=c
 |some v,σ _,_,m=>∃k,v= .int k m
 |some _,ν,_,_=>False
theorem lT{l:Nat}:nK (σ (.int k (l:Int))) l:=⟨_,rfl⟩
theorem mI(l:Nat)(x:Int)(h:x=(l:Int)):nK (σ (.int k x)) l:=⟨k,by rw[h]⟩
theorem nM(l:Nat)(x:Int)(h:x=(l:Int)):nL (σ (.int k x)) n l:=⟨k,by rw[h]⟩
theorem iP:nK ν 0:=rfl
theorem mJ:nL (σ (.int k (h:Int))) n h:=⟨_,rfl⟩
theorem gW:nL ν n n:=rfl
theorem Ca{m:Nat}:maxOf (σ (.int k (m:Int))) (σ v) c m:=⟨_,rfl⟩
theorem dZ{h:Option x1}:maxOf ν h c c:=by cases h<;>rfl
theorem uF(w:x3){sl:Bool}{l m:Nat}{low high mx:Option x1}(h1:nK low l)(e:nL high n h)(a:maxOf mx high c m)(f:l<=h)(an:h<=m)(hm:m<=c):
  (Instr.sliceBounds sl n c low high mx).run P w= .ok (l,h,m) w:=by
 cases low<;>cases high<;>cases mx<;>simp only[nK,nL,maxOf]at h1 e a<;>(try exact a.elim)<;>(try obtain⟨j,rfl⟩:=h1)<;>(try obtain⟨p,rfl⟩:=e)<;>(try obtain⟨q,rfl⟩:=a)<;>(try subst h1)<;>(try subst e)<;>(try subst a) <;>
  simp[Instr.sliceBounds,Instr.sliceBound,asIntOf,f,an,hm]
theorem eA{z a l m:Nat}{f:x1}{base:Option Q0}{low high mx:Option x1}(p:P.underlying t=σ (.slice e))(q:aR P e z a f)(h1:nK low l)(r:nL high n h)(s:maxOf mx high c m)(x:l<=h)(an:h<=m)(hm:m<=c):
  ab P (V4 t (.slice base n c) low high mx) w K=K (.slice (if m=l then base else base.map (·.add (l*z))) (h-l) (m-l)):=ab.of λI _=>by
 obtain⟨j,y,U,_⟩:=q;simp[V4,Instr.slice,run_underlying p,uF I h1 r s x an hm,sizeOf,typeInfo,y,U]
theorem uG{z a l m b o:Nat}{f:x1}{low high mx:Option x1}(p:P.underlying t=σ (.array n e))(q:aR P e z a f)(h1:nK low l)(r:nL high n h)(s:maxOf mx high n m)(x:l<=h)(an:h<=m)(hm:m<=n):
  ab P (V4 t (.pointer (σ ⟨b,o,ν⟩)) low high mx) w K=K (.slice (σ (if m=l then⟨b,o,ν⟩else⟨b,o+l*z,ν⟩)) (h-l) (m-l)):=ab.of λI _=>by
 obtain⟨j,y,U,_⟩:=q;simp[V4,Instr.sureAddr,run_underlying p,uF I h1 r s x an hm,sizeOf,typeInfo,y,U,W5]
theorem dw{parts:Array (Nat×x1)}{cs:Array x1}(h:P.built t parts.toList=σ cs):ab P (Instr.build t parts) w K=K (.agg cs):=ab.of λI _=>
 run_build I t parts cs h
end
theorem b4.part{k l m:Nat}{base:Option Q0}(U:b4 w k (.slice base n c) n cs)(q:l<=h)(an:h<=n)(hm:h<=m)(r:m<=c):
  b4 w k (.slice (if m=l then base else base.map (·.add (l*k))) (h-l) (m-l)) (h-l) ((cs.drop (l*k)).take ((h-l)*k)):=by
 obtain⟨h1,b,o,s,cap,he,x,y,e,f⟩:=U;cases he;have z:h*k<=n*k:=V5 _ an;have A:l*k+(h-l)*k=h*k:=by rw[<-T7];congr 1;omega
 refine⟨by simp[h1];omega,b,o+l*k,_,m-l,rfl,Ω,Ω,λB=>?_,λj v a=>?_⟩
 .rw[e Ω,m5 Ω];simp[W5]
 .have p:=(x4.1 a).1;simp at p;rw[Y5 Ω,List.getElem?_drop]at a;rw[Nat.add_assoc];exact f _ _ a
section
variable{P:X5}{w:x3}
structure kv(g:Nat)(w I:x3):Prop where
 os:I.os=w.os
 tape:k5 w I
 output:I.output=w.output
 size:I.heap.size=w.heap.size
 aZ:∀r,r≠g->I.heap[r]?=w.heap[r]?
theorem kv.refl(g:Nat)(w:x3):kv g w w:=⟨rfl,.lK,rfl,rfl,λ_ _=>rfl⟩
theorem kv.F{g:Nat}{a b c:x3}(h:kv g a b)(k:kv g b c):kv g a c:=
 ⟨k.os.F h.os,k.tape.F h.tape,k.output.F h.output,k.size.F h.size,λr e=>(k.aZ r e).F (h.aZ r e)⟩
theorem kv.aa{g:Nat}{w:x3}(h:kv g w I):af (λr=>r=g) w I:=⟨Nat.le_of_eq h.size.symm,λr o a _ e=>by rw[h.aZ r e];exact a⟩
theorem kv.cD{g:Nat}{w:x3}(h:kv g w I)(j:ag w g e cs):cC w I:=
 ⟨h.os,h.tape,h.output,Nat.le_of_eq h.size.symm,λr o a U=>by
  by_cases f:r=g
  .grind [ag,fK]
  .rw[h.aZ r f];exact a⟩
theorem Cb{g:Nat}(h:ag w g e cs)(o:Nat)(v:x1):ag (w.setCell ⟨g,o,ν⟩ v) g e (cs.set o v)/\kv g w (w.setCell ⟨g,o,ν⟩ v):=by
 unfold ag at h;refine⟨?_,rfl,.lK,rfl,by simp[x3.setCell],λr a=>?_⟩
 all_goals grind [ag,x3.setCell]
def over(cs:List x1):Nat->List x1->List x1
 |_,[]=>cs
 |o,v::r=>over (cs.set o v) (o+1) r
theorem gf:∀(vs cs:List x1)(o:Nat),(over cs o vs).length=cs.length
 |[],_,_=>rfl
 |v::r,cs,o=>by simp[over,gf r]
theorem kw:∀(vs cs:List x1)(o:Nat),o+vs.length<=cs.length->∀j,(over cs o vs)[j]?=if o<=j/\j<o+vs.length then vs[j-o]? else cs[j]?
 :=by
 intro a;induction a<;>grind [over]
theorem nN{o:Nat}(h:o+vs.length<=cs.length):over cs o vs=cs.take o++vs++cs.drop (o+vs.length):=by
 apply j5;intro j;rw[kw vs cs o h];by_cases h1:j<o
 .grind
 grind
theorem nO{g:Nat}{e:r9}:∀(vs:List x1)(cs:List x1)(o:Nat)(w:x3),ag w g e cs->ag (w.setCells g o vs) g e (over cs o vs)/\kv g w (w.setCells g o vs)
 |[],cs,o,w,h=>⟨h,kv.refl _ _⟩
 |v::r,cs,o,w,h=>by
  obtain⟨h1,a⟩:=Cb h o v;obtain⟨f,j⟩:=nO r (cs.set o v) (o+1) _ h1;exact⟨f,a.F j⟩
theorem uH(w:x3)(c:List x1)(e:r9):ag (w.alloc (.cells c.toArray e)) w.heap.size e c/\Ext w (w.alloc (.cells c.toArray e))/\cC w (w.alloc (.cells c.toArray e)):=
 ⟨heap_alloc_new w _,qH w _,qI w _⟩
theorem bx{k a:Nat}{K:x1->x3->Prop}(hi:aR P t k a z)(h:∀g I,g=w.heap.size->Ext w I->ag I g t z.cells.toList->K (Γ g) I):aC P (S5 t ro (.tuple #[])) w K:=by
 obtain⟨i,hi,_,_,e⟩:=hi;obtain⟨h1,f,j⟩:=uH w z.cells.toList t;refine .of ?_ j (h _ _ rfl f h1);simp[S5,zeroValue,typeInfo,hi,e,newVar,newRow]
theorem bm{K:x1->x3->Prop}(h:∀g I,g=w.heap.size->Ext w I->ag I g t v.cells.toList->K (Γ g) I):aC P (Instr.box t v) w K:=by
 obtain⟨h1,a,e⟩:=uH w v.cells.toList t;refine .of ?_ e (h _ _ rfl a h1);simp[Instr.box,newVar,newRow]
def ea(z:Array x1)(n:Nat):List x1:=((Array.range n).map (z[·% z.size]!)).toList
theorem qY(z:Array x1)(n:Nat):(ea z n).length=n:=by simp[ea]
theorem lU{k q:Nat}{parts:Array (Nat×x1)}{cs:Array x1}{K:x1->x3->Prop}(p:P.underlying t=σ (.slice e))(hi:aR P e k q z)(A:n*k<=2 ^ 24)(a:Instr.fill (λj=>σ (j*k,k)) ((Array.range (n*k)).map ((if n*k=0 then#[]else z.cells)[·% (if n*k=0 then#[]else z.cells).size]!)) parts.toList=σ cs)(h:∀g I,g=w.heap.size->Ext w I->ag I g e cs.toList->K (.slice (σ ⟨g,0,ν⟩) n n) I):aC P (Y1 t n parts) w K:=by
 obtain⟨i,hi,rfl,_,r⟩:=hi;obtain⟨h1,s,x⟩:=uH w cs.toList e;refine .of ?_ x (h _ _ rfl s h1);have y:¬(16777216<n*i.size):=Ω
 by_cases f:n*i.size=0
 .simp only[f,if_true]at a;simp[Y1,run_underlying p,sizeOf,typeInfo,hi,f,newRow];simp at a;simp[a]
 .simp only[f,if_false]at a;simp[Y1,run_underlying p,sizeOf,typeInfo,hi,y,f,newRow,zeroValue,r,a]
theorem bt{g o:Nat}{K:Unit->x3->Prop}(hi:aR P t 1 j z)(h1:v.cells= #[v])(p:v.oneCell'=ro)(a:ag w g e cs)(q:o<cs.length)(h:∀I,af (λr=>r=g) w I->I.heap.size=w.heap.size->ag I g e (cs.set o v)->K () I):aC P (o7 t (.pointer (σ ⟨g,o,ν⟩)) v) w K:=by
 obtain⟨i,hi,U,_⟩:=hi;obtain⟨s,f⟩:=Cb a o v;refine .of ?_ (f.cD a) (h _ f.aa f.size s);have x:=a.cell (x6 q);have y:(⟨g,o,ν⟩:Q0).add 0=⟨g,o,ν⟩:=rfl;simp[o7,Instr.sureAddr,storeVar,sizeOf,typeInfo,hi,U,h1,storeCells,y,run_store P w _ v _ p,x,a.frozen]
theorem Cc{k p g o:Nat}{K:Unit->x3->Prop}(hi:aR P t k p z)(s:vs.length=k)(x:∀v∈vs,v.oneCell'=ro)(a:ag w g e cs)(y:o+vs.length<=cs.length)(h:∀I,af (λr=>r=g) w I->I.heap.size=w.heap.size->ag I g e (over cs o vs)->K () I):aC P (o7 t (.pointer (σ ⟨g,o,ν⟩)) (.agg vs.toArray)) w K:=by
 obtain⟨q,f⟩:=nO vs cs o w a;refine .of ?_ (f.cD a) (h _ f.aa f.size q);exact run_storeAt_mid w g o t vs.toArray (λj A=>⟨by rw[a.cell (x6 (by grind))];rfl,a.frozen _ _⟩) (by grind [aR.size]) (by grind)
def bZ(w:x3)(g:Nat)(e:r9)(k:Nat)(v:x1)(n:Nat)(xs:List x1):Prop:=
 xs.length=n*k/\((v= .slice ν 0 0/\n=0)\/∃cap cs,v= .slice (σ ⟨g,0,ν⟩) n cap/\ag w g e cs/\n<=cap/\cap<=maxLen/\cs.length=cap*k/\cs.take (n*k)=xs)
theorem bZ.nil(w:x3)(g:Nat)(e:r9)(k:Nat):bZ w g e k (.slice ν 0 0) 0 []:=⟨Ξ,.inl ⟨rfl,rfl⟩⟩
theorem bZ.full{g:Nat}{k:Nat}(h:ag w g e cs)(a:cs.length=n*k)(f:n<=maxLen):bZ w g e k (.slice (σ ⟨g,0,ν⟩) n n) n cs:=
 ⟨a,.inr ⟨n,cs,rfl,h,p9 _,f,a,by rw[<-a,o6]⟩⟩
theorem bZ.aa{g:Nat}{k:Nat}(h:bZ w g e k v n xs)(f:af S w I)(j:g<w.heap.size->¬S g):bZ I g e k v n xs:=
 ⟨h.1,h.2.imp id λ⟨cap,cs,h1,a,p⟩=>⟨cap,cs,h1,a.aa f (j a.lt),p⟩⟩
theorem bZ.W{g:Nat}{k:Nat}(h:bZ w g e k v n xs)(a:Ext w I):bZ I g e k v n xs:=h.aa (a.aa λ_=>False) (λ_ h=>h)
theorem bZ.sl{g:Nat}{k:Nat}(h:bZ w g e k v n xs):b4 w k v n xs:=by
 obtain⟨h1,⟨rfl,rfl⟩|⟨cap,cs,rfl,f,p,q,s,r⟩⟩:=h
 .grind [b4.nil]
 .refine⟨h1,g,0,_,cap,rfl,p,q,λ_=>rfl,λj v a=>?_⟩;rw[W7];have x:=(x4.1 a).1;rw[<-r,Y5 Ω]at a;exact f.cell a
theorem b4.src{k:Nat}{x:x1}{m:Nat}{f:r9}(U:b4 w k x m news)(hk:P.underlying e=σ (.slice f))(h1:∀u∈news,u.oneCell'=ro)(h:0<m):Src P k e x m news w:=by
 obtain⟨p,b,o,base,cap,rfl,_,_,a,q⟩:=U;have a:=a h;subst a;exact Src.ofSlice w hk ⟨b,o,ν⟩ m cap news p (λj u r=>by rw[W5];exact q j u r) h1
theorem b4.Cd{k:Nat}{x:x1}{a:r9}(U:b4 w k x 0 news)(hk:P.underlying a=σ (.slice e)):Src P k a x 0 [] w:=by
 obtain⟨f,b,o,base,cap,rfl,_,_,h,j⟩:=U;cases base<;>grind [Src.ofNil,Src.ofSlice]
theorem Ce{a p H V:r9}{k J g m:Nat}{x:x1}{K:x1->x3->Prop}(L:P.underlying t=σ (.slice e))(y:P.underlying a=σ (.slice V))(hi:aR P e k J z)(W:z.cells.size=k)(M:bZ w g H k v n xs)(U:b4 w k x m news)(h1:∀u∈news,u.oneCell'=ro)(X:(n+m)*J<=140737488355328)(Y:n+m<=maxLen)(h:∀A B I C,(B=g/\C=H/\(v=A\/g<w.heap.size/\v≠ .slice ν 0 0)\/B=w.heap.size/\C=e)->bZ I B C k A (n+m) (xs++news)->af (λr=>r=g/\v≠ .slice ν 0 0) w I->K A I):
  aC P (j6 #[t,a] p #[v,x]) w K:=by
 obtain⟨i,hi,rfl,rfl,Z⟩:=hi;have ab:=M.sl;obtain⟨s,E⟩:=M;have F:=U.1;have grow:∀(base:Option Q0)(cap:Nat),v= .slice base n cap->cap<n+m->0<m->(j9.firstCells i.size n (.slice base n cap)).run P w.drew= .ok xs.toArray w.drew->aC P (j6 #[t,a] p #[v,x]) w K:=by
  rintro base cap rfl N hm ac;have f:=run_append_grow_src w t a p e i z L hi Z base n cap xs ac x m news (U.src y h1 hm) N (by grind [maxLen]) (growslice_fits N X);have ad:n+m<=grownCap w (n+m) cap e:=grownCap_ge w _ _ _;have O:=grownCap_le_maxLen w (n+m) cap e Y;have ae:Ext w (w.drew.alloc (.cells ((xs++news).toArray++S8 z.cells (grownCap w (n+m) cap e-(n+m))) e)):=(r3 w _).F (qH _ _);refine .of f ((qG w _ (Nat.le_succ _)).F (qI _ _)) (h _ w.heap.size _ _ (.inr ⟨rfl,rfl⟩) ⟨by grind,.inr ⟨_,((xs++news).toArray++S8 z.cells (grownCap w (n+m) cap e-(n+m))).toList,rfl,?_,ad,O,?_,?_⟩⟩ (ae.aa _))
  .show _=_;rw[Array.toArray_toList];exact heap_alloc_new w.drew _
  .simp[s,F,size_zeroCells,W,<-T7]
   grind
  grind [T7]
 rcases Nat.eq_zero_or_pos m with rfl|hm
 .have ag:=Z0 (by simpa using F);subst ag;have an:=U.Cd y;have Q:∀base cap,v= .slice base n cap->n<=cap->aC P (j6 #[t,a] p #[v,x]) w K:=by
   rintro base cap rfl O;refine .of (by grind [run_append_nothing]) (cC.refl _) (h _ g _ _ (.inl ⟨rfl,rfl,.inl rfl⟩) ?_ (af.refl _ _));rw[Nat.add_zero,V1];exact⟨s,E⟩
  obtain⟨rfl,rfl⟩|⟨cap,cs,rfl,_,R,_⟩:=E
  .exact Q _ _ rfl (p9 _)
  .exact Q _ _ rfl R
 .obtain⟨rfl,rfl⟩|⟨cap,cs,rfl,q,R,ah,S,ao⟩:=E
  .have ai:=Z0 (by simpa using s);subst ai;exact grow ν 0 rfl Ω hm (by grind [run_firstCells_none])
  .by_cases G:n+m<=cap
   .have ap:n*i.size+news.length<=cs.length:=by rw[F,S,<-T7];exact V5 _ G
    have f:=run_append_room_src w t a p e i L hi g 0 n cap x m news (U.src y h1 hm) G
     (λj aq=>by rw[q.cell (x6 Ω)];rfl) (λj _=>q.frozen _ _)
    obtain⟨aj,T⟩:=nO news cs (n*i.size) w q;rw[W7]at f;refine .of f (T.cD q) (h _ g _ _ (.inl ⟨rfl,rfl,.inr ⟨q.lt,Ξ⟩⟩) ⟨by grind,.inr ⟨cap,_,rfl,aj,G,ah,by rw[gf,S],?_⟩⟩ (T.aa.X (by grind)))
    grind [nN,T7]
   .refine grow _ cap rfl Ω hm (run_firstCells_some w.drew i.size n _ n cap xs s λj u ak=>?_);rw[W5];obtain⟨_,b,o,base,au,he,_,_,al,f⟩:=ab;cases he;have am:0<n:=by
     grind
    have:=al am;cases this;simpa using f j u ak
theorem pH{j q s:r9}{k p g m:Nat}{x:x1}{K:x1->x3->Prop}(y:P.underlying t=σ (.slice e))(A:P.underlying j=σ (.slice s))(hi:aR P e k p z)(B:z.cells.size=k)(C:bZ w g e k v n xs)(U:b4 w k x m news)(h1:∀u∈news,u.oneCell'=ro)(E:(n+m)*p<=140737488355328)(F:n+m<=maxLen)(h:∀f a I,(a=g\/w.heap.size<=a)->bZ I a e k f (n+m) (xs++news)->af (λr=>r=g) w I->K f I):
  aC P (j6 #[t,j] q #[v,x]) w K:=
 Ce y A hi B C U h1 E F λf a I H J hm G=>by
  refine h f a I Ω ?_ (G.X λr _ h=>h.1)
  grind
theorem pI{f q s:r9}{L g o ec y:Nat}{x:x1}{base:Option Q0}{C:r9}{K:x1->x3->Prop}(E:P.underlying f=σ (.slice e))(hi:aR P e 1 L z)(a:ag w g C cs)(M:0<ec->base=σ ⟨g,o,ν⟩)(X:o+ec<=cs.length)(U:b4 w 1 x n xs)(h1:∀u∈xs,u.oneCell'=ro)(h:∀I,af (λr=>r=g) w I->I.heap.size=w.heap.size->ag I g C (over cs o (xs.take ec))->K (Δ (min n ec:Nat)) I):
  aC P (j9.copy_ #[f,q] s #[.slice base ec y,x]) w K:=by
 obtain⟨F,b,o',N,cap,rfl,_,_,O,Q⟩:=U;simp only[V0]at F;have G:(P.info? e).map (·.size)=σ 1:=hi.size;by_cases p:Nat.min n ec=0
 .have he:=Z0 (by rw[c7,F];rw[Nat.min_comm];exact p);rw[he]at h;refine .of (run_copy_none w f q s e base N ec y n cap E G p) (cC.refl _) ?_;have H:min n ec=0:=p;rw[H]at h;exact h w (af.refl _ _) rfl a
 .have H:min n ec≠0:=p;have R:=O Ω;have S:=M Ω;subst R;subst S;have J:(xs.take ec).length=min n ec:=by grind
  obtain⟨T,A⟩:=nO (xs.take ec) cs o w a;have V:=run_copy_cells w f q s e g o ec y ⟨b,o',ν⟩ n cap (xs.take ec) E G J
   (λj u B=>by
    rw[W5];have W:=(x4.1 B).1;rw[Y5 Ω]at B;exact Q j u B)
   (λj W=>by rw[a.cell (x6 Ω)];rfl) (λj _=>a.frozen _ _) (by grind)
  refine .of V (A.cD a) ?_;rw[J];exact h _ A.aa A.size T
theorem aj.X{f:Q2}{K e:x1->x3->Prop}(h:aj P f args w K)(j:∀v I,cC w I->K v I->e v I):aj P f args w e:=by
 cases h with
 |code h1 a=>exact .code h1 (a.X (by grind))
 |ext v I h1 a p=>exact .ext v I h1 a (by grind)
theorem gT.X{f:Q2}{K a:x1->x3->Prop}(h:gT P f args w K)(e:∀v I,K v I->a v I):gT P f args w a:=by
 cases h with
 |code h1 j=>exact .code h1 (j.X (by grind))
 |ext v I h1 p=>exact .ext v I h1 (e v I p)
end
end Go.Vc
namespace Go.Proofs.YtkcigodpbndobaaGreatDoor
open Go Go.Vc Go.RowKit Go.Proofs Go.Proofs.Tryz
set_option maxRecDepth 100000
theorem ap.u:x7.underlying ap=σ (.int .i64):=Ψ
theorem ap.i:aR x7 ap 1 8 (Δ 0):=aR.of Ψ
theorem ae.u:x7.underlying ae=σ (.int .i64):=Ψ
theorem ae.i:aR x7 ae 1 8 (Δ 0):=aR.of Ψ
theorem ir.i:aR x7 ir 1 1 (.bool rs):=aR.of Ψ
theorem cM.u:x7.underlying cM=σ (.int .u8):=Ψ
theorem cM.i:aR x7 cM 1 1 (.int .u8 0):=aR.of Ψ
theorem dd.u:x7.underlying dd=σ .string:=Ψ
theorem dd.i:aR x7 dd 1 16 (.string ⟨#[]⟩):=aR.of Ψ
theorem cS.u:x7.underlying cS=σ (.slice cM):=Ψ
theorem al.u:x7.underlying al=σ (.slice ae):=Ψ
theorem al.i:aR x7 al 1 24 (.slice ν 0 0):=aR.of Ψ
theorem dL.u:x7.underlying dL=σ (.slice al):=Ψ
theorem dL.i:aR x7 dL 1 24 (.slice ν 0 0):=aR.of Ψ
theorem xE.u:x7.underlying xE=σ (.pointer cG):=Ψ
theorem lb.i:aR x7 lb 1 8 (Δ 0):=aR.of Ψ
theorem xF.u:x7.underlying xF=σ (.pointer ei):=Ψ
theorem oE.u:x7.underlying oE=σ (.pointer gb):=Ψ
theorem dB.u:x7.underlying dB=σ (.pointer bX):=Ψ
theorem e0.u:x7.underlying e0=σ (.slice aw):=Ψ
theorem e0.i:aR x7 e0 1 24 (.slice ν 0 0):=aR.of Ψ
theorem da.u:x7.underlying da=σ (.slice a7):=Ψ
theorem da.i:aR x7 da 1 24 (.slice ν 0 0):=aR.of Ψ
theorem dY.p:bN x7 dY [(0,1),(1,1),(2,1),(3,1),(4,1)]:=bN.of Ψ
theorem dY.i:aR x7 dY 5 88 (.agg #[(Δ 0),(.slice ν 0 0),(Δ 0),(.slice ν 0 0),(.slice ν 0 0)]):=aR.of Ψ
theorem pE.u:x7.underlying pE=σ (.slice de):=Ψ
theorem lS.u:x7.underlying lS=σ (.slice ir):=Ψ
theorem lS.i:aR x7 lS 1 24 (.slice ν 0 0):=aR.of Ψ
theorem gE.u:x7.underlying gE=σ (.slice fO):=Ψ
theorem gE.i:aR x7 gE 1 24 (.slice ν 0 0):=aR.of Ψ
theorem a6.p:bN x7 a6 [(0,1),(1,1),(2,1),(3,1),(4,1),(5,1),(6,1),(7,1)]:=bN.of Ψ
theorem a6.i:aR x7 a6 8 160 (.agg #[(Δ 0),(.slice ν 0 0),(Δ 0),(.slice ν 0 0),(.slice ν 0 0),(.slice ν 0 0),(.slice ν 0 0),(.slice ν 0 0)]):=aR.of Ψ
theorem aw.u:x7.underlying aw=σ (.slice ap):=Ψ
theorem aw.i:aR x7 aw 1 24 (.slice ν 0 0):=aR.of Ψ
theorem jB.u:x7.underlying jB=σ (.slice ca):=Ψ
theorem jB.i:aR x7 jB 1 24 (.slice ν 0 0):=aR.of Ψ
theorem qV.i:aR x7 qV 1 8 .nilFunc:=aR.of Ψ
theorem ca.p:bN x7 ca [(0,1),(1,1),(2,1)]:=bN.of Ψ
theorem ca.i:aR x7 ca 3 56 (.agg #[(Δ 0),(.slice ν 0 0),(.slice ν 0 0)]):=aR.of Ψ
theorem uA.u:x7.underlying uA=σ (.pointer ji):=Ψ
theorem fl.p:bN x7 fl [(0,1),(1,1),(2,1),(3,1)]:=bN.of Ψ
theorem iM.u:x7.underlying iM=σ (.slice ld):=Ψ
theorem iM.i:aR x7 iM 1 24 (.slice ν 0 0):=aR.of Ψ
theorem cF.p:bN x7 cF [(0,1),(1,4),(5,1),(6,1)]:=bN.of Ψ
theorem ku.u:x7.underlying ku=σ (.slice cn):=Ψ
theorem jW.u:x7.underlying jW=σ (.slice ev):=Ψ
theorem jW.i:aR x7 jW 1 24 (.slice ν 0 0):=aR.of Ψ
theorem cn.p:bN x7 cn [(0,1),(1,1),(2,1),(3,1)]:=bN.of Ψ
theorem cn.i:aR x7 cn 4 80 (.agg #[(.slice ν 0 0),(.slice ν 0 0),(Δ 0),(.slice ν 0 0)]):=aR.of Ψ
theorem dQ.u:x7.underlying dQ=σ (.slice cN):=Ψ
theorem dQ.i:aR x7 dQ 1 24 (.slice ν 0 0):=aR.of Ψ
theorem cG.p:bN x7 cG [(0,1),(1,1),(2,1),(3,1)]:=bN.of Ψ
theorem fd.u:x7.underlying fd=σ (.pointer fP):=Ψ
theorem fd.i:aR x7 fd 1 8 (.pointer ν):=aR.of Ψ
theorem cN.p:bN x7 cN [(0,1),(1,1)]:=bN.of Ψ
theorem cN.i:aR x7 cN 2 32 (.agg #[(.slice ν 0 0),(.pointer ν)]):=aR.of Ψ
theorem fB.u:x7.underlying fB=σ (.slice cA):=Ψ
theorem fB.i:aR x7 fB 1 24 (.slice ν 0 0):=aR.of Ψ
theorem dG.u:x7.underlying dG=σ (.slice a8):=Ψ
theorem dG.i:aR x7 dG 1 24 (.slice ν 0 0):=aR.of Ψ
theorem bF.p:bN x7 bF [(0,1),(1,1),(2,1),(3,1),(4,1),(5,1),(6,1),(7,1),(8,1)]:=bN.of Ψ
theorem ei.p:bN x7 ei [(0,1),(1,1),(2,1),(3,1)]:=bN.of Ψ
theorem cA.p:bN x7 cA [(0,1),(1,1)]:=bN.of Ψ
theorem cA.i:aR x7 cA 2 24 (.agg #[(.string ⟨#[]⟩),(Δ 0)]):=aR.of Ψ
theorem ej.u:x7.underlying ej=σ (.slice cp):=Ψ
theorem ej.i:aR x7 ej 1 24 (.slice ν 0 0):=aR.of Ψ
theorem a8.p:bN x7 a8 [(0,1),(1,1),(2,1),(3,1)]:=bN.of Ψ
theorem a8.i:aR x7 a8 4 80 (.agg #[(.slice ν 0 0),(.slice ν 0 0),(Δ 0),(.slice ν 0 0)]):=aR.of Ψ
theorem mG.u:x7.underlying mG=σ (.slice iN):=Ψ
theorem mG.i:aR x7 mG 1 24 (.slice ν 0 0):=aR.of Ψ
theorem gb.p:bN x7 gb [(0,1),(1,1),(2,1),(3,1)]:=bN.of Ψ
theorem dv.u:x7.underlying dv=σ (.pointer cu):=Ψ
theorem dv.i:aR x7 dv 1 8 (.pointer ν):=aR.of Ψ
theorem iN.p:bN x7 iN [(0,1),(1,1)]:=bN.of Ψ
theorem iN.i:aR x7 iN 2 32 (.agg #[(.slice ν 0 0),(.pointer ν)]):=aR.of Ψ
theorem sm.u:x7.underlying sm=σ (.pointer fC):=Ψ
theorem fe.u:x7.underlying fe=σ (.slice dq):=Ψ
theorem fe.i:aR x7 fe 1 24 (.slice ν 0 0):=aR.of Ψ
theorem bX.p:bN x7 bX [(0,1),(1,1),(2,1),(3,1),(4,1)]:=bN.of Ψ
theorem a7.p:bN x7 a7 [(0,1),(1,1),(2,1)]:=bN.of Ψ
theorem a7.i:aR x7 a7 3 72 (.agg #[(.slice ν 0 0),(.slice ν 0 0),(.slice ν 0 0)]):=aR.of Ψ
theorem uB.i:aR x7 uB 1 8 .nilFunc:=aR.of Ψ
theorem fN.u:x7.underlying fN=σ (.int .u64):=Ψ
theorem fN.i:aR x7 fN 1 8 (.int .u64 0):=aR.of Ψ
theorem b3.p:bN x7 b3 [(0,1),(1,1)]:=bN.of Ψ
theorem b3.i:aR x7 b3 2 16 (.agg #[(.int .u64 0),(Δ 0)]):=aR.of Ψ
theorem bn.p:bN x7 bn [(0,1)]:=bN.of Ψ
theorem bn.i:aR x7 bn 1 24 (.agg #[(.slice ν 0 0)]):=aR.of Ψ
theorem de.p:bN x7 de [(0,1),(1,1),(2,1),(3,1),(4,1)]:=bN.of Ψ
theorem de.i:aR x7 de 5 40 (.agg #[(.int .u8 0),(Δ 0),(Δ 0),(Δ 0),(Δ 0)]):=aR.of Ψ
theorem dq.p:bN x7 dq [(0,1),(1,1),(2,1)]:=bN.of Ψ
theorem dq.i:aR x7 dq 3 56 (.agg #[(.slice ν 0 0),(.slice ν 0 0),(Δ 0)]):=aR.of Ψ
theorem fO.p:bN x7 fO [(0,3),(3,1)]:=bN.of Ψ
theorem fO.i:aR x7 fO 4 80 (.agg #[(.slice ν 0 0),(.slice ν 0 0),(.slice ν 0 0),(.bool rs)]):=aR.of Ψ
theorem ji.p:bN x7 ji [(0,1),(1,1),(2,1)]:=bN.of Ψ
theorem ld.p:bN x7 ld [(0,1),(1,1)]:=bN.of Ψ
theorem ld.i:aR x7 ld 2 48 (.agg #[(.slice ν 0 0),(.slice ν 0 0)]):=aR.of Ψ
theorem ev.p:bN x7 ev [(0,1),(1,1)]:=bN.of Ψ
theorem ev.i:aR x7 ev 2 32 (.agg #[(.slice ν 0 0),(Δ 0)]):=aR.of Ψ
theorem cp.p:bN x7 cp [(0,1),(1,1)]:=bN.of Ψ
theorem cp.i:aR x7 cp 2 32 (.agg #[(.slice ν 0 0),(Δ 0)]):=aR.of Ψ
theorem gF.u:x7.underlying gF=σ (.slice db):=Ψ
theorem db.p:bN x7 db [(0,1),(1,1)]:=bN.of Ψ
theorem db.i:aR x7 db 2 32 (.agg #[(.slice ν 0 0),(.pointer ν)]):=aR.of Ψ
theorem jX.u:x7.underlying jX=σ (.map cH ap):=Ψ
theorem fP.p:bN x7 fP [(0,1),(1,1),(2,1),(3,1)]:=bN.of Ψ
theorem qW.u:x7.underlying qW=σ (.slice gG):=Ψ
theorem gG.p:bN x7 gG [(0,1),(1,1)]:=bN.of Ψ
theorem gG.i:aR x7 gG 2 32 (.agg #[(.slice ν 0 0),(Δ 0)]):=aR.of Ψ
theorem cu.p:bN x7 cu [(0,1),(1,1),(2,1)]:=bN.of Ψ
theorem jC.u:x7.underlying jC=σ (.slice eH):=Ψ
theorem jC.i:aR x7 jC 1 24 (.slice ν 0 0):=aR.of Ψ
theorem pF.u:x7.underlying pF=σ (.slice lf):=Ψ
theorem pF.i:aR x7 pF 1 24 (.slice ν 0 0):=aR.of Ψ
theorem uC.u:x7.underlying uC=σ (.slice fQ):=Ψ
theorem fC.p:bN x7 fC [(0,1),(1,1),(2,1),(3,1)]:=bN.of Ψ
theorem fQ.p:bN x7 fQ [(0,1),(1,1),(2,1)]:=bN.of Ψ
theorem fQ.i:aR x7 fQ 3 24 (.agg #[(Δ 0),(Δ 0),(.int .u64 0)]):=aR.of Ψ
theorem eH.p:bN x7 eH [(0,1),(1,1)]:=bN.of Ψ
theorem eH.i:aR x7 eH 2 16 (.agg #[(Δ 0),(.int .u64 0)]):=aR.of Ψ
theorem lf.i:aR x7 lf 3 24 (.agg #[(Δ 0),(Δ 0),(.int .u64 0)]):=aR.of Ψ
theorem iu.u:x7.underlying iu=σ (.map dd ae):=Ψ
theorem gd.u:x7.underlying gd=σ (.int .i8):=Ψ
theorem gd.i:aR x7 gd 1 1 (.int .i8 0):=aR.of Ψ
theorem cH.u:x7.underlying cH=σ (.array 6 gd):=Ψ
theorem cH.i:aR x7 cH 6 6 (.agg #[(.int .i8 0),(.int .i8 0),(.int .i8 0),(.int .i8 0),(.int .i8 0),(.int .i8 0)]):=aR.of Ψ
theorem nG.u:x7.underlying nG=σ (.int .u64):=Ψ
theorem mH.u:x7.underlying mH=σ (.slice gd):=Ψ
theorem lg.u:x7.underlying lg=σ (.slice cH):=Ψ
theorem lg.i:aR x7 lg 1 24 (.slice ν 0 0):=aR.of Ψ
theorem sn.p:bN x7 sn [(0,1),(1,1)]:=bN.of Ψ
theorem qX.u:x7.underlying qX=σ (.int .u32):=Ψ
theorem nH.u:x7.underlying nH=σ (.map ap ae):=Ψ
theorem xG.u:x7.underlying xG=σ (.array 64 cM):=Ψ
theorem oF.u:x7.underlying oF=σ (.array 24 cM):=Ψ
theorem oF.i:aR x7 oF 24 24 (.agg #[(.int .u8 0),(.int .u8 0),(.int .u8 0),(.int .u8 0),(.int .u8 0),(.int .u8 0),(.int .u8 0),(.int .u8 0),(.int .u8 0),(.int .u8 0),(.int .u8 0),(.int .u8 0),(.int .u8 0),(.int .u8 0),(.int .u8 0),(.int .u8 0),(.int .u8 0),(.int .u8 0),(.int .u8 0),(.int .u8 0),(.int .u8 0),(.int .u8 0),(.int .u8 0),(.int .u8 0)]):=aR.of Ψ
theorem xH.u:x7.underlying xH=σ (.array 20 fN):=Ψ
end Go.Proofs.YtkcigodpbndobaaGreatDoor
namespace Go.Vc
open Go Go.RowKit
def b0:x1->Int
 | .int _ i=>i
 |_=>0
theorem lm{x:Int}(h1: -9223372036854775808<=x)(a:x<9223372036854775808):Y7.wrap x=x:=by
 grind [o5.wrap,o5.bits,o5.signed]
theorem wrap_u8{x:Int}(h1:0<=x)(a:x<256):o5.u8.wrap x=x:=by
 grind [o5.wrap,o5.bits,o5.signed]
theorem LH{x:Int}(h1: -128<=x)(a:x<128):o5.i8.wrap x=x:=by
 grind [o5.wrap,o5.bits,o5.signed]
theorem lw{x:Int}(h1:0<=x)(a:x<18446744073709551616):U2.wrap x=x:=by
 grind [o5.wrap,o5.bits,o5.signed]
abbrev ints(k:o5)(l:Λ):List x1:=l.map (X2 k)
theorem kx(k:o5)(l:Λ):∀u∈ints k l,u.oneCell'=ro:=by
 intro u a;obtain⟨x,_,rfl⟩:=o8.1 a;rfl
theorem mK{i:Nat}{x:Int}(h:l[i]?=σ x):(ints k l)[i]?=σ (.int k x):=by simp[ints,h]
theorem xL{α:Type}{a b:List α}{i:Nat}{x y:α}(h:a.take i=b.take i)(e:a[i]?=σ x)(f:b[i]?=σ y)(j:x=y):a.take (i+1)=b.take (i+1):=by
 grind [u7]
theorem dk{ay:x3->Prop}{B:(x3->Prop)->Prop}(G:x3->Prop)(h1:∀w,G w->ay w)(e:∀a:x3->Prop,(∀w,G w->a w)->B a):cz ay B:=e ay h1
theorem aV{ay:x1->x3->Prop}{B:(x1->x3->Prop)->Prop}(G:x1->x3->Prop)(h1:∀v w,G v w->ay v w)(e:∀a:x1->x3->Prop,(∀v w,G v w->a v w)->B a):cz ay B:=e ay h1
theorem jA{ay:x1->x1->x3->Prop}{B:(x1->x1->x3->Prop)->Prop}(G:x1->x1->x3->Prop)(h1:∀u v w,G u v w->ay u v w)(e:∀a:x1->x1->x3->Prop,(∀u v w,G u v w->a u v w)->B a):cz ay B:=e ay h1
theorem aj.calls{P:X5}{f:Q2}{K:x1->x3->Prop}(h:aj P f args w K)(a:Enters P f):Calls P f args.toArray w λe I=>∃v,e= .returned v/\cC w I/\K v I:=by
 cases h with
 |code _ h=>exact h
 |ext v I h1=>rw[a]at h1;cases h1
theorem LI(f:Ext w I)(a:cC w I):Below w.heap.size w I:=
 ⟨a.os,a.tape.1,a.output,f.size,λk hk=>by
  have e:=Array.getElem?_eq_getElem hk;rw[e];cases U:fK w.heap[k]with
  |true=>exact f.aZ k _ e U
  |false=>exact a.aZ k _ e U⟩
theorem xM{x:Q0}(h:w.cell? x=σ v):x=⟨x.block,x.off,ν⟩:=by
 obtain⟨b,o,s⟩:=x;cases s<;>grind [x3.cell?]
theorem LJ{a:Option Q0}{len:Nat}{e:Λ}(h:(a=ν/\len=0/\cap=0/\e=[])\/
   ∃x,a=σ x/\len<=cap/\cap<=maxLen/\e.length=cap/\(∀i,i<e.length->w.cell? (x.add i)=σ (.int k (e.getD i 0)))/\∀n∈e,(Lit.int k n).wf=ro):
  b4 w 1 (.slice a len cap) len (ints k (e.take len))/\∀n∈e.take len,k.min<=n/\n<=k.max:=by
 rcases h with⟨rfl,rfl,rfl,rfl⟩|⟨x,rfl,h1,p,s,f,y⟩
 .grind [b4.nil]
 .refine⟨⟨by grind,x.block,x.off,σ x,cap,rfl,h1,p,λz=>?_,λj v q=>?_⟩,λn A=>?_⟩
  .have:=f 0 Ω;exact congrArg σ (xM this)
  .have r:=(x4.1 q).1;rw[o4,c7]at r;have B:x=⟨x.block,x.off,ν⟩:=xM (v:=.int k (e.getD 0 0)) (f 0 Ω)
   grind [W5]
  grind [Lit.wf]
def aI(k:o5)(w:x3)(v:x1)(l:Λ):Prop:=b4 w 1 v l.length (ints k l)
def ao(k:o5)(e:r9)(w:x3)(g:Nat)(v:x1)(l:Λ):Prop:=bZ w g e 1 v l.length (ints k l)
theorem aI.W(h:aI k w v l)(a:Ext w I):aI k I v l:=b4.W h a
theorem ao.W{g:Nat}(h:ao k e w g v l)(a:Ext w I):ao k e I g v l:=bZ.W h a
theorem ao.aa{g:Nat}(h:ao k e w g v l)(a:af S w I)(f:g<w.heap.size->¬S g):ao k e I g v l:=bZ.aa h a f
theorem ao.ls{g:Nat}(h:ao k e w g v l):aI k w v l:=bZ.sl h
theorem aI.of(h:b4 w 1 v n (ints k l)):aI k w v l:=by
 have:l.length=n:=by simpa using h.1
 unfold aI;rw[this];exact h
theorem ao.of{g:Nat}(h:bZ w g e 1 v n (ints k l)):ao k e w g v l:=by
 have:l.length=n:=by simpa using h.1
 unfold ao;rw[this];exact h
theorem aI.le(h:aI k w v l):l.length<=9223372036854775807:=by
 have:=b4.le h;simpa[maxLen]using this
theorem aI.cells(h:aI k w v l):v.cells= #[v]/\v.oneCell'=ro:=by
 obtain⟨_,_,_,_,_,rfl,_⟩:=h;exact⟨rfl,rfl⟩
theorem ao.nil(k:o5)(e:r9)(w:x3)(g:Nat):ao k e w g (.slice ν 0 0) []:=bZ.nil w g e 1
section
variable{P:X5}{w:x3}
theorem aS{a:r9}(f:P.underlying t=σ (.slice e))(h:aI k w v l):
  ab P (W0 #[t] a #[v]) w K=K (Δ l.length):=by
 obtain⟨_,_,_,_,_,rfl,_⟩:=h;exact iv f
theorem be{b:Nat}{i:Nat}{x:Int}(j:P.underlying t=σ (.slice e))(hi:aR P e 1 b z)(h1:lh P e=ro)(h:aI k w v l)(a:l[i]?=σ x):ab P (j4 t v (.int f (i:Int))) w (λp=>ab P (u4 e p) w K)=K (.int k x):=by
 have q:=(x4.1 a).1;obtain⟨_,_,_,_,_,rfl,_,_,r,s⟩:=h;rw[fv j hi q r,V0,ax h1 (s i _ (mK a))]
theorem fm{a:o5}{b:Nat}{i:Nat}{x:Int}(f:y=(i:Int))(j:P.underlying t=σ (.slice e))(hi:aR P e 1 b z)(h1:lh P e=ro)(h:aI k w v l)(q:l[i]?=σ x):ab P (j4 t v (.int a y)) w (λp=>ab P (u4 e p) w K)=K (.int k x):=by
 subst f;exact be j hi h1 h q
theorem jD{p:r9}{b g:Nat}{x:x1}{m:Λ}{K:x1->x3->Prop}(j:P.underlying t=σ (.slice e))(hi:aR P e 1 b z)(q:z.cells.size=1)(h:ao k e w g v l)(s:aI k w x m)(y:(l.length+m.length)*b<=140737488355328)(A:l.length+m.length<=9223372036854775807)(B:∀f a I,(a=g\/w.heap.size<=a)->ao k e I a f (l++m)->af (λr=>r=g) w I->K f I):aC P (j6 #[t,t] p #[v,x]) w K:=
 pH j j hi q h s (kx _ _) y (by simpa[maxLen]using A) λf a I h1 C E=>B f a I h1 (ao.of (by rw[ints,l7];exact C)) E
theorem dr{b:Nat}{x:Int}{K:x1->x3->Prop}(j:P.underlying t=σ (.slice e))(hi:aR P e 1 b z)(s:z.cells.size=1)(h:∀v g I,g=w.heap.size->Ext w I->ao k e I g v [x]->K v I):aC P (Y1 t 1 #[(0,.int k x)]) w K:=
 lU j hi Ω (cs:=#[.int k x]) (by
   have U:∀(a:Array x1),a.size=1->a.setIfInBounds 0 (.int k x)= #[.int k x]:=λa f=>by
    apply Array.ext
    .simp[f]
    .intro i h1 y;have:i=0:=by simp[f]at h1;exact h1
     subst this;simp
   simp only[Instr.fill,T9,List.zipIdx];simp;exact U _ Ξ) λg I p q r=>h _ g I p q (ao.of (bZ.full r rfl (by simp[maxLen])))
theorem aj.free{f:Q2}{K:x1->x3->Prop}(h:aj P f args w K):gT P f args w λv I=>cC w I/\K v I:=by
 cases h with
 |code h1 a=>exact .code h1 (a.X λ_ I ⟨v,h1,e,a⟩=>⟨v,h1,e,a⟩)
 |ext v I h1 a j=>exact .ext v I h1 ⟨a,j⟩
theorem bR{a:Q0}:ab P (bQ (.pointer (σ a))) w K=K (.pointer (σ a)):=ab.of λ_ _=>by
 simp[bQ,tP,execOp]
theorem aQ{u:r9}{a:List (Nat×Nat)}{b z:Nat}{K:x1->x1->Prop}(j:bN P t a)(i:Nat)(p:ag w b e cs)(f:cs[(a[i]?.getD (0,0)).1]?=σ v)(h:a[i]?=σ (off,z+1):=by rfl)(q:lh P u=ro:=by kernel_rfl):
  ab P (u6 t (Γ b) i) w (λx=>ab P (u4 u x) w (K x))=K (.pointer (σ ⟨b,0+off,ν⟩)) v:=by
 rw[h]at f;rw[aT j h,ax q (p.cell (by rw[W7];exact f))]
theorem aK{u:r9}{a:List (Nat×Nat)}{b z:Nat}{K:x1->x1->x1->Prop}(f:bN P t a)(i:Nat)(h:ag w b e cs)(j:cs[(a[i]?.getD (0,0)).1]?=σ v)(p:a[i]?=σ (off,z+1):=by rfl)(q:lh P u=ro:=by kernel_rfl):
  ab P (bQ (Γ b)) w (λy=>ab P (u6 t y i) w (λx=>ab P (u4 u x) w (K y x)))=K (Γ b) (.pointer (σ ⟨b,0+off,ν⟩)) v:=by
 rw[bR,aQ f i h j p q]
theorem Cf{a:o5}{k:Nat}{K:x1->x3->Prop}(q:P.underlying t=σ (.slice e))(hi:aR P e k j z)(A:n*j<=281474976710656)(B:n<=9223372036854775807)(h:∀g I,g=w.heap.size->Ext w I->ag I g e (ea z.cells (n*k))->K (.slice (σ ⟨g,0,ν⟩) n n) I):aC P (Instr.makeSlice t (.int a (n:Int)) (.int f (n:Int))) w K:=by
 obtain⟨i,hi,rfl,rfl,r⟩:=hi;have s:(i.bytes:Int)*(n:Int)<=281474976710656:=by
  rw[Int.mul_comm];have h:((n*i.bytes:Nat):Int)<=281474976710656:=Ω
  rwa [Int.natCast_mul]at h
 have p:=run_make w t e i z q hi r a f n n Ω (R6 _) s Ω;have hm:madeCells z.cells ((n:Int).toNat*i.size)=(ea z.cells (n*i.size)).toArray:=by rw[ea,Array.toArray_toList];rfl
 rw[hm]at p;obtain⟨h1,x,y⟩:=uH w (ea z.cells (n*i.size)) e;exact .of p y (h _ _ rfl x h1)
theorem LK(v:x1)(n:Nat):ea #[v] n=r8 n v:=by
 apply List.ext_getElem
 .simp[ea]
 .intro i h1 a;simp[ea,Nat.mod_one]
theorem ky{j:o5}{a:Nat}{K:x1->x3->Prop}(p:P.underlying t=σ (.slice e))(hi:aR P e 1 a (.int k 0))(q:n*a<=281474976710656)(r:n<=9223372036854775807)(h:∀g I,g=w.heap.size->Ext w I->ag I g e (ints k (r8 n 0))->K (.slice (σ ⟨g,0,ν⟩) n n) I):aC P (Instr.makeSlice t (.int f (n:Int)) (.int j (n:Int))) w K:=
 Cf p hi q r λg I s x y=>h g I s x (by
  have e:ea (X2 k 0).cells (n*1)=ints k (r8 n 0):=by rw[V0];show ea #[_] n=_;rw[LK];simp[ints]
  rw[<-e];exact y)
theorem fD{e:List (Nat×Nat)}{b o k f:Nat}(a:bN P t e)(hi:aR P t k f z)(j:cs.length=k)(h:w.rangeAt b o cs):ab P (do loadVar t (<-asAddr (.pointer (σ ⟨b,o,ν⟩)))) w K=K (.agg cs.toArray):=ab.of λI p=>by
 obtain⟨q,a,_⟩:=a;have:=run_loadVar_mid I b o t cs (.struct q) (pG p h) a rfl (by rw[hi.size,j]);simp only[asAddr,X8,W9,Result.andThen_ok,this]
theorem LL(h:vs.length=cs.length):over cs 0 vs=vs:=by
 rw[nN Ω];simp[h]
theorem cb{k f g:Nat}{K:Unit->x3->Prop}(hi:aR P t k f z)(j:vs.length=k)(x:cs.length=k)(p:∀v∈vs,v.oneCell'=ro)(q:ag w g e cs)(h:∀I,af (λr=>r=g) w I->I.heap.size=w.heap.size->ag I g e vs->K () I):aC P (o7 t (Γ g) (.agg vs.toArray)) w K:=
 Cc hi j p q Ω λI h1 s a=>h I h1 s (by rw[LL Ω]at a;exact a)
end
section
variable{P:X5}{w I V:x3}{t:r9}{cx cy:Bool}{k:o5}{a b:Int}{A B:Prop}{x y z:x1}{K:x1->Prop}
theorem bo:ab P (c8 (.tuple #[x,y]) 0) w K=K x:=jZ rfl
theorem bp:ab P (c8 (.tuple #[x,y]) 1) w K=K y:=jZ rfl
theorem gX:ab P (c8 (.tuple #[x,y,z]) 0) w K=K x:=jZ rfl
theorem gY:ab P (c8 (.tuple #[x,y,z]) 1) w K=K y:=jZ rfl
theorem gZ:ab P (c8 (.tuple #[x,y,z]) 2) w K=K z:=jZ rfl
theorem bC(h:a<b)(e:A):ab P (aO .lss t cx cy (.int k a) (.int k b)) w λv=>Split v A B:=by
 rw[aP,ai];exact⟨λ_=>e,λf=>m6 h f⟩
theorem ci(h:¬a<b)(e:B):ab P (aO .lss t cx cy (.int k a) (.int k b)) w λv=>Split v A B:=by
 rw[aP,ai];exact⟨λf=>m6 f h,λ_=>e⟩
theorem Ext.put{g:Nat}(a:Ext w I)(e:af (λr=>r=g) I V)(h:w.heap.size<=g):Ext w V:=a.then e λr f he=>by
 have he:r=g:=he;omega
theorem aF{α:Type}{l:List α}{i:Nat}(h:i<l.length):∃x,l[i]?=σ x:=⟨_,x6 h⟩
end
abbrev ah:=Nat->Prop
def lV(S:ah)(w:x3)(k:Nat)(v:x1)(n:Nat)(cs:List x1):Prop:=
 cs.length=n*k/\∃b o base cap,v= .slice base n cap/\n<=cap/\cap<=maxLen/\(0<n->base=σ ⟨b,o,ν⟩)/\(0<cs.length->S b)/\w.rangeAt b o cs
theorem lV.sl{S:ah}{k:Nat}(h:lV S w k v n cs):b4 w k v n cs:=by
 obtain⟨h1,b,o,base,cap,a,e,f,j,_,p⟩:=h;exact⟨h1,b,o,base,cap,a,e,f,j,p⟩
theorem Cg{b o:Nat}(h:w.rangeAt b o cs)(a:0<cs.length):b<w.heap.size:=by
 have:=h 0 cs[0] (x6 a)
 grind [xI]
theorem lV.aa{S T:ah}{k:Nat}(h:lV S w k v n cs)(x:af T w I)(y:∀r,r<w.heap.size->S r->¬T r):lV S I k v n cs:=by
 obtain⟨h1,b,o,base,cap,a,e,f,p,q,z⟩:=h;refine⟨h1,b,o,base,cap,a,e,f,p,q,?_⟩;rcases Nat.eq_zero_or_pos cs.length with s|s
 .intro j v A;grind
 grind [gH,Cg]
theorem lV.X{S T:ah}{k:Nat}(h:lV S w k v n cs)(f:∀r,r<w.heap.size->S r->T r):lV T w k v n cs:=by
 obtain⟨h1,b,o,base,cap,j,p,q,s,x,a⟩:=h;exact⟨h1,b,o,base,cap,j,p,q,s,λe=>f b (Cg a e) (x e),a⟩
class aq(α:Type) where
 n:Nat
 rep:Bool->ah->ah->x3->List x1->α->Prop
 len:∀{m S R w cs a},rep m S R w cs a->cs.length=n
 one:∀{m S R w cs a},rep m S R w cs a->∀u∈cs,u.oneCell'=ro
 aa:∀{m S R T w I cs a},rep m S R w cs a->af T w I->(∀r,r<w.heap.size->S r\/R r->¬T r)->rep m S R I cs a
 X:∀{m S S' R R' w cs a},rep m S R w cs a->(∀r,r<w.heap.size->S r->S' r)->(∀r,r<w.heap.size->R r->R' r)->rep m S' R' w cs a
 jU:∀{m S R w cs a},rep m S R w cs a->rep rs (λ_=>False) (λr=>S r\/R r) w cs a
section
variable{α β:Type}[aq α][aq β]{m:Bool}{S R T:ah}{w I:x3}
abbrev bM(S R:ah)(w:x3)(cs:List x1)(a:α):Prop:=aq.rep ro S R w cs a
abbrev Seen(R:ah)(w:x3)(cs:List x1)(a:α):Prop:=aq.rep rs (λ_=>False) R w cs a
abbrev fo:ah:=λ_=>True
theorem b6{a:α}(h:aq.rep m S R w cs a)(e:Ext w I):aq.rep m S R I cs a:=aq.aa h (e.aa λ_=>False) λ_ _ _ h=>h
theorem oH{a:α}(h:aq.rep m S R w cs a):aq.rep m (λr=>S r/\r<w.heap.size) R w cs a:=aq.X h (by grind) λ_ _ h=>h
theorem lj{a:α}(h:aq.rep m S R w cs a):Seen fo w cs a:=aq.X (aq.jU h) (by grind) (by grind)
theorem ss{a:α}{Q:ah}(h:aq.rep m S R w cs a)(e:∀r,r<w.heap.size->S r\/R r->Q r):Seen Q w cs a:=aq.X (aq.jU h) (by grind) e
instance:aq Int where
 n:=1
 rep _ _ _ _ cs a:=cs=[Δ a]
 len h:=by grind
 one h:=by subst h;intro u e;simp at e;subst e;rfl
 aa h _ _:=h
 X h _ _:=h
 jU h:=h
instance:aq Bool where
 n:=1
 rep _ _ _ _ cs a:=cs=[.bool a]
 len h:=by grind
 one h:=by subst h;intro u e;simp at e;subst e;rfl
 aa h _ _:=h
 X h _ _:=h
 jU h:=h
instance:aq ByteArray where
 n:=1
 rep _ _ _ _ cs a:=cs=[.string a]
 len h:=by grind
 one h:=by subst h;intro u e;simp at e;subst e;rfl
 aa h _ _:=h
 X h _ _:=h
 jU h:=h
def nP(_:o5):Type:=Int
instance (k:o5):aq (nP k) where
 n:=1
 rep _ _ _ _ cs a:=cs=[.int k a]
 len h:=by grind
 one h:=by subst h;intro u e;simp at e;subst e;rfl
 aa h _ _:=h
 X h _ _:=h
 jU h:=h
def Rd(α:Type):Type:=α
instance VL:aq (Rd α) where
 n:=aq.n α
 rep _ _ R w cs a:=aq.rep (α:=α) rs (λ_=>False) R w cs a
 len h:=aq.len (α:=α) h
 one h:=aq.one (α:=α) h
 aa h f j:=by grind [aq.aa]
 X h _ e:=aq.X (α:=α) h (λ_ _ h=>h) e
 jU h:=aq.X (α:=α) h (λ_ _ h=>h) (by grind)
instance VM:aq (α×β) where
 n:=aq.n α+aq.n β
 rep m S R w cs a:=∃c d A B,cs=c++d/\(∀r,A r->S r)/\(∀r,B r->S r)/\(m=ro->∀r,A r->¬B r)/\aq.rep m A R w c a.1/\aq.rep m B R w d a.2
 len:=by
  grind [aq.len]
 one:=by
  grind [aq.one]
 aa:=by
  rintro m S R T w I cs a ⟨c,d,A,B,rfl,e,f,j,h1,p⟩ s q;exact⟨c,d,A,B,rfl,e,f,j,by grind [aq.aa],by grind [aq.aa]⟩
 X:=by
  rintro m S S' R R' w cs a ⟨c,d,A,B,rfl,e,f,j,h1,p⟩ q x;exact⟨c,d,λr=>A r/\r<w.heap.size,λr=>B r/\r<w.heap.size,rfl,by grind,by grind,by grind,
   by grind [aq.X],by grind [aq.X]⟩
 jU:=by
  rintro m S R w cs a ⟨c,d,A,B,rfl,e,f,j,h1,p⟩;exact⟨c,d,λ_=>False,λ_=>False,rfl,λ_ h=>h.elim,λ_ h=>h.elim,by grind,aq.X (aq.jU h1) (λ_ _ h=>h) (by grind),
   aq.X (aq.jU p) (λ_ _ h=>h) (by grind)⟩
def lW(m:Bool)(R:ah)(F:Nat->ah)(w:x3)(vs:List (List x1))(l:List α):Prop:=
 vs.length=l.length/\∀(i:Nat)(c:List x1)(a:α),vs[i]?=σ c->l[i]?=σ a->aq.rep m (F i) R w c a
structure Ch(m:Bool)(S:ah)(g:Nat)(F:Nat->ah):Prop where
 sub:∀i r,F i r->S r
 top:m=ro->∀i,¬F i g
 ia:m=ro->∀i j r,i≠j->F i r->¬F j r
theorem lW.len{F:Nat->ah}{vs:List (List x1)}{l:List α}(h:lW m R F w vs l):∀c∈vs,c.length=aq.n α:=by
 intro c a;obtain⟨i,hi,rfl⟩:=List.mem_iff_getElem.1 a;exact aq.len (h.2 i _ _ (x6 hi) (x6 (h.1▸hi)))
theorem lW.one{F:Nat->ah}{vs:List (List x1)}{l:List α}(h:lW m R F w vs l):∀u∈vs.flatten,u.oneCell'=ro:=by
 intro u a;obtain⟨c,e,a⟩:=List.mem_flatten.1 a;obtain⟨i,hi,rfl⟩:=List.mem_iff_getElem.1 e;exact aq.one (h.2 i _ _ (x6 hi) (x6 (h.1▸hi))) u a
theorem kz{k:Nat}:∀{vs:List (List x1)},(∀c∈vs,c.length=k)->vs.flatten.length=vs.length*k
 :=by
 intro a;induction a<;>grind
theorem pJ{k:Nat}:∀{vs:List (List x1)},(∀c∈vs,c.length=k)->∀{i j:Nat}{c:List x1},vs[i]?=σ c->j<k->vs.flatten[i*k+j]?=c[j]?
 |iw::r,h,0,j,c,a,e=>by
  grind
 |iw::r,h,i+1,j,c,a,e=>by
  simp only[List.getElem?_cons_succ]at a;have f:=h iw (.head _);rw[List.flatten_cons,Y9 (by grind),f,T7,show i*k+1*k+j-k=i*k+j by omega];exact pJ (by grind) a e
 |[],_,i,_,c,a,_=>by simp at a
instance instList:aq (List α) where
 n:=1
 rep m S R w cs l:=∃v,cs=[v]/\∃(vs:List (List x1))(g:Nat)(F:Nat->ah),Ch m S g F/\lW m R F w vs l/\lV (λr=>S r\/R r) w (aq.n α) v l.length vs.flatten/\
  (m=ro->(v= .slice ν 0 0\/S g)/\∃e,bZ w g e (aq.n α) v l.length vs.flatten)
 len:=by grind
 one:=by
  rintro m S R w cs a ⟨v,rfl,vs,g,F,_,_,⟨_,_,_,_,_,rfl,_⟩,_⟩ u A;simp at A;subst A;rfl
 aa:=by
  rintro m S R T w I cs a ⟨v,rfl,vs,g,F,p,he,U,hm⟩ z y;refine⟨v,rfl,vs,g,F,p,⟨he.1,λi c a q s=>aq.aa (he.2 i c a q s) z λr B h=>y r B (h.imp (p.sub i r) id)⟩,U.aa z y,λh=>?_⟩;obtain⟨h1,e,f⟩:=hm h;refine⟨h1,e,?_⟩;rcases h1 with rfl|h1
  .obtain⟨C,⟨_,x⟩|⟨_,_,x,_⟩⟩:=f
   .exact⟨C,.inl ⟨rfl,x⟩⟩
   .cases x
  .exact f.aa z (by grind)
 X:=by
  rintro m S S' R R' w cs a ⟨v,rfl,vs,g,F,p,he,U,hm⟩ y E;refine⟨v,rfl,vs,g,λi r=>F i r/\r<w.heap.size,⟨λi r h=>y r h.2 (p.sub i r h.1),λh i f=>p.top h i f.1,λh i j r G h1 f=>p.ia h i j r G h1.1 f.1⟩,
   ⟨he.1,λi c a q s=>aq.X (he.2 i c a q s) (by grind) E⟩,U.X (by grind),λh=>?_⟩
  obtain⟨h1,e,f⟩:=hm h;refine⟨?_,e,f⟩;obtain⟨_,⟨x,_⟩|⟨_,_,x,H,_⟩⟩:=f
  all_goals grind [ag.lt]
 jU:=by
  rintro m S R w cs a ⟨v,rfl,vs,g,F,p,he,U,hm⟩;exact⟨v,rfl,vs,g,λ_ _=>False,⟨λ_ _ h=>h,by grind,by grind⟩,
   ⟨he.1,λi c a q s=>aq.X (aq.jU (he.2 i c a q s)) (λ_ _ h=>h) λr _ h=>h.imp (p.sub i r) id⟩,by grind,by grind⟩
end
section
variable{P:X5}{w:x3}{α β:Type}[aq α][aq β]{m:Bool}{S R:ah}
theorem kA{l:List α}(h:aq.rep m S R w [v] l):∃(vs:List (List x1))(g:Nat)(F:Nat->ah),Ch m S g F/\lW m R F w vs l/\lV (λr=>S r\/R r) w (aq.n α) v l.length vs.flatten/\
  (m=ro->(v= .slice ν 0 0\/S g)/\∃e,bZ w g e (aq.n α) v l.length vs.flatten):=by
 obtain⟨_,a,h⟩:=h
 grind
theorem nQ{a:α}(h:aq.rep m S R w [v] a):v.oneCell'=ro:=aq.one h v (.head _)
theorem su{l:List α}(h:aq.rep m S R w [v] l):v.cells= #[v]:=by
 obtain⟨_,_,_,_,_,⟨_,_,_,_,_,rfl,_⟩,_⟩:=kA h;rfl
theorem uI{l:List α}(h:aq.rep m S R w [v] l):l.length<=9223372036854775807:=by
 obtain⟨_,_,_,_,_,h,_⟩:=kA h;have:=h.sl.le;grind [maxLen]
theorem iQ:aq.rep m S R w [.slice ν 0 0] ([]:List α):=
 ⟨_,rfl,[],0,λ_ _=>False,⟨by grind,λ_ _ h=>h,by grind⟩,⟨rfl,λi c a e=>by simp at e⟩,
  ⟨Ξ,0,0,ν,0,rfl,p9 _,X7 _,by grind,by grind,λj v h=>by simp at h⟩,
  λ_=>⟨.inl rfl,0,bZ.nil w 0 0 _⟩⟩
theorem Ci{F:Nat->ah}{vs:List (List x1)}(h:lW m R F w vs l):vs.flatten=ints .i64 l:=by
 have:vs=l.map λx=>[X2 .i64 x]:=by
  apply List.ext_getElem
  .simp[h.1]
  .intro i h1 e;have a:i<l.length:=by grind
   have:=h.2 i _ _ (x6 h1) (x6 a);rw[List.getElem_map];exact this
 subst this;clear h;induction l<;>grind
theorem fw(h:aq.rep m S R w [v] l):aI .i64 w v l:=by
 obtain⟨vs,g,F,_,he,U,_⟩:=kA h;have:=U.sl;rw[Ci he]at this;exact this
theorem kB{a:r9}{l:List α}(f:P.underlying t=σ (.slice e))(h:aq.rep m S R w [v] l):
  ab P (W0 #[t] a #[v]) w K=K (Δ l.length):=by
 obtain⟨_,_,_,_,_,⟨_,_,_,_,_,rfl,_⟩,_⟩:=kA h;exact iv f
theorem nR{s:o5}{i b:Nat}{l:List α}{a:α}(x:y=(i:Int))(A:P.underlying t=σ (.slice e))(hi:aR P e (aq.n α) b z)(h:aq.rep m S R w [v] l)(f:l[i]?=σ a)(B:∀b o cs,w.rangeAt b o cs->aq.rep m S R w cs a->K (.pointer (σ ⟨b,o,ν⟩))):ab P (j4 t v (.int s y)) w K:=by
 subst x;obtain⟨vs,g,F,C,he,⟨_,b,o,base,cap,rfl,_,_,E,_,G⟩,_⟩:=kA h;have p:=(x4.1 f).1;rw[fv A hi p E];obtain⟨c,H⟩:∃c,vs[i]?=σ c:=⟨_,x6 (by rw[he.1];exact p)⟩;have q:=he.2 i c a H f;have J:=aq.len q;refine B _ _ c (λj u I=>?_) (aq.X q (λr _ h=>C.sub i r h) λ_ _ h=>h);have L:=(x4.1 I).1;rw[Nat.add_assoc];refine G (i*aq.n α+j) u ?_
 grind [pJ,lW.len]
theorem pK{j:o5}{i b:Nat}{l:List α}{a:α}(q:aq.n α=1)(r:y=(i:Int))(s:P.underlying t=σ (.slice e))(hi:aR P e (aq.n α) b z)(h1:lh P e=ro)(h:aq.rep m S R w [v] l)(x:l[i]?=σ a)(C:∀u,aq.rep m S R w [u] a->K u):
  ab P (j4 t v (.int j y)) w λp=>ab P (u4 e p) w K:=by
 refine nR r s hi h x λb o cs A B=>?_;have f:=aq.len B;rw[q]at f;obtain⟨u,rfl⟩:=X6.1 f;rw[ax h1 (by have:=A 0 u rfl;simpa using this)]
 grind
theorem pL{f:List (Nat×Nat)}{j:o5}{i b:Nat}{l:List α}{a:α}(q:bN P e f)(r:y=(i:Int))(s:P.underlying t=σ (.slice e))(hi:aR P e (aq.n α) b z)(h:aq.rep m S R w [v] l)(x:l[i]?=σ a)(C:∀cs,aq.rep m S R w cs a->K (.agg cs.toArray)):
  ab P (j4 t v (.int j y)) w λp=>ab P (u4 e p) w K:=by
 refine nR r s hi h x λb o cs A B=>?_;rw[bB q hi (aq.len B) A]
 grind
theorem qZ{g:Nat}{k:Nat}(h:bZ w g e k v n xs)(s:v= .slice ν 0 0\/S g):lV S w k v n xs:=by
 obtain⟨h1,⟨rfl,rfl⟩|⟨cap,cs,rfl,f,p,q,x,r⟩⟩:=h
 .have:xs=[]:=by grind
  subst this;exact⟨Ξ,0,0,ν,0,rfl,p9 _,X7 _,Ω,Ω,λj v h=>by simp at h⟩
 .refine⟨h1,g,0,_,cap,rfl,p,q,λ_=>rfl,by grind,λj v a=>?_⟩;rw[W7];have y:=(x4.1 a).1;rw[<-r,Y5 Ω]at a;exact f.cell a
open Classical in
theorem LM{L O Q:r9}{b:Nat}{x:x1}{us:List (List x1)}{l fx:List α}{G:Nat->ah}{K:x1->x3->Prop}(T:P.underlying t=σ (.slice e))(V:P.underlying L=σ (.slice O))(hi:aR P e (aq.n α) b z)(W:z.cells.size=aq.n α)(h:bM S R w [v] l)(X:b4 w (aq.n α) x fx.length us.flatten)(E:lW ro R G w us fx)(am:∀i j r,i≠j->G i r->¬G j r)(M:∀r,r<w.heap.size->S r->(∀i,¬G i r)/\¬R r)(Y:(l.length+fx.length)*b<=140737488355328)(an:l.length+fx.length<=9223372036854775807)(Z:∀p I,bM (λr=>S r\/(∃i,G i r)\/w.heap.size<=r) R I [p] (l++fx)->af S w I->K p I):aC P (j6 #[t,L] Q #[v,x]) w K:=by
 obtain⟨vs,g,F,q,he,U,hm⟩:=kA h;obtain⟨ab,ao,N⟩:=hm rfl;refine Ce T V hi W N X E.one Y (by grind [maxLen]) ?_;intro p A I ac ad ae H;have ap:∀r,r=g/\v≠ .slice ν 0 0->S r:=by grind
 have ai:=N;have aj:(p= .slice ν 0 0)\/(A=g/\S g/\g<w.heap.size)\/A=w.heap.size:=by
  rcases ad with⟨h1,_,f|f⟩|⟨h1,_⟩
  .rcases ab with B|B
   .grind
   .obtain⟨_,⟨y,_⟩|⟨_,_,_,y,_⟩⟩:=ai
    all_goals grind [ag.lt]
  all_goals grind
 refine Z p I ⟨p,rfl,vs++us,if p= .slice ν 0 0 then w.heap.size else A,λi r=>if i<l.length then F i r/\r<w.heap.size else G (i-l.length) r/\r<w.heap.size,⟨λi r h=>?_,λ_ i h=>?_,λ_ i j r ak h1 f=>?_⟩,⟨by simp[he.1,E.1],λi c a hi C=>?_⟩,?_,λ_=>⟨?_,ac,?_⟩⟩ (H.X (by grind))
 .split at h
  .exact .inl (q.sub i r h.1)
  grind
 .have s:(if p= .slice ν 0 0 then w.heap.size else A)<w.heap.size:=by grind
  split at s
  .omega
  .rename_i J;rw[m5 J]at h;rcases aj with h1|⟨rfl,f,B⟩|h1
   .grind
   .split at h
    .exact q.top rfl i h.1
    grind
   .omega
 .split at h1<;>split at f
  .exact q.ia rfl i j r ak h1.1 f.1
  .exact (M r h1.2 (q.sub i r h1.1)).1 _ f.1
  .exact (M r h1.2 (q.sub j r f.1)).1 _ h1.1
  grind
 .have au:∀r,r<w.heap.size->R r->¬(r=g/\v≠ .slice ν 0 0):=by grind
  by_cases s:i<l.length
  .rw[W8 (by rw[he.1];exact s)]at hi;rw[W8 s]at C;simp only[m3 s];refine aq.aa (oH (he.2 i c a hi C)) H λr al h1 f=>?_;rcases h1 with h1|h1
   .exact q.top rfl i (f.1▸h1.1)
   grind
  .rw[Y9 (by rw[he.1];omega),he.1]at hi;rw[Y9 Ω]at C;simp only[m5 s];refine aq.aa (oH (E.2 _ c a hi C)) H λr al h1 f=>?_
   grind
 .grind [qZ]
 .grind
 .rw[p8,List.flatten_append];by_cases J:p= .slice ν 0 0
  .subst J;obtain⟨B,⟨_,y⟩|⟨_,_,y,_⟩⟩:=ae
   .exact⟨B,.inl ⟨rfl,y⟩⟩
   .cases y
  grind
theorem pM{q:r9}{b:Nat}{x:x1}{l:List α}{a:α}{A:ah}{K:x1->x3->Prop}(j:P.underlying t=σ (.slice e))(hi:aR P e (aq.n α) b z)(s:z.cells.size=aq.n α)(h:bM S R w [v] l)(F:b4 w (aq.n α) x 1 cs)(H:bM A R w cs a)(J:∀r,r<w.heap.size->S r->¬(A r\/R r))(y:(l.length+1)*b<=140737488355328)(L:l.length+1<=9223372036854775807)(B:∀f I,bM (λr=>S r\/A r\/w.heap.size<=r) R I [f] (l++[a])->af S w I->K f I):aC P (j6 #[t,t] q #[v,x]) w K:=by
 refine LM (us:=[cs]) (G:=λi r=>i=0/\A r) j j hi s h (by grind) ⟨rfl,λi c b C y=>?_⟩ Ω (by grind) Ω Ω
  λf I h1 E=>B f I (aq.X h1 (by grind) λ_ _ h=>h) E
 have p:=(x4.1 C).1;have p:i=0:=by grind
 subst p
 grind
end
theorem Cj:∀(c:List x1)(i:Nat)(z:Array x1),(i+c.length<=z.size)->((c.zipIdx i).foldl (λcs (x:x1×Nat)=>cs.setIfInBounds x.2 x.1) z).toList=z.toList.take i++c++z.toList.drop (i+c.length)
 |[],i,z,h=>Ξ
 |x::r,i,z,h=>by
  simp only[Y3]at h;rw[List.zipIdx_cons,List.foldl_cons,Cj r (i+1) _ Θ];simp only[Array.toList_setIfInBounds,Y3];rw[List.drop_set_of_lt Ω,List.take_set,u7,x6 Θ];simp only[l9];rw[Q1 _ _ Θ];have e:i-(z.toList.take i).length=0:=Θ
  rw[e,show i+1+r.length=i+(r.length+1) by omega];simp
theorem Ck{k:Nat}{z:Array x1}(a:z.size=k)(e:v.cells.size=k):Instr.fill (λj=>σ (j*k,k)) z [(0,v)]=σ v.cells:=by
 have h:=Cj v.cells.toList 0 z Θ;simp only[Instr.fill,Nat.zero_mul,W7];rw[m5 Θ];congr 1;apply Array.toList_inj.1;rw[<-Array.foldl_toList,Array.toList_zipIdx,h];simp;omega
section
variable{P:X5}{w:x3}{α β:Type}[aq α][aq β]{m:Bool}{S R:ah}
theorem lX{b:Nat}{x:x1}{a:α}{A:ah}{K:x1->x3->Prop}(C:P.underlying t=σ (.slice e))(hi:aR P e (aq.n α) b z)(M:aq.n α<=100000)(q:x.cells=cs.toArray)(s:bM A R w cs a)(E:∀v I,Ext w I->bM (λr=>A r\/w.heap.size<=r) R I [v] [a]->b4 I (aq.n α) v 1 cs->K v I):aC P (Y1 t 1 #[(0,x)]) w K:=by
 have F:=aq.len s;refine lU C hi Ω (cs:=x.cells) (Ck Ξ (by rw[q];simpa using F)) λg I N y f=>?_;have f:ag I g e cs:=by rw[q]at f;simpa using f
 have hm:bZ I g e (aq.n α) (.slice (σ ⟨g,0,ν⟩) 1 1) 1 cs:=bZ.full f Ω (by simp[maxLen]);refine E _ I y ⟨_,rfl,[cs],g,λi r=>i=0/\A r/\r<w.heap.size,⟨λi r h=>.inl h.2.1,λ_ i h=>Ω,λ_ i j r G h1 H=>G (h1.1.F H.1.symm)⟩,⟨rfl,λi c a' p B=>?_⟩,?_,λ_=>⟨.inr (.inr Ω),e,by simpa using hm⟩⟩ hm.sl
 .have J:i=0:=by simpa using(x4.1 p).1
  subst J;simp at p B;subst p B;exact b6 (aq.X s (λr L h=>⟨rfl,h,L⟩) λ_ _ h=>h) y
 .have:=qZ (S:=λr=>(A r\/w.heap.size<=r)\/R r) hm (.inr (.inl (.inr Ω)));simpa using this
end
theorem cm.range{B:x1->x3->(x1->x3->Prop)->Prop}(n:Nat)(a:Nat->x3->Prop)(e:n<=9223372036854775807)(f:a 0 w)(h:∀(i:Nat)(w:x3)(k:x1->x3->Prop),i<n->a i w->(∀I,a (i+1) I->k (Δ (Y7.wrap ((i:Int)+1))) I)->B (Δ (i:Int)) w k)(j:∀(w:x3)(k:x1->x3->Prop),a n w->B (Δ (n:Int)) w k):cm (Δ 0) w B:=by
 refine⟨λt w=>∃i:Nat,t=Δ (i:Int)/\i<=n/\a i w,λt _=>n-(b0 t).toNat,by grind,?_⟩
 grind [lm,b0]
theorem b2.range{a:x1}{B:x1->x1->x3->(x1->x1->x3->Prop)->Prop}(n:Nat)(e:Nat->x1->x3->Prop)(f:n<=9223372036854775807)(h:e 0 a w)(j:∀(i:Nat)(a:x1)(w:x3)(k:x1->x1->x3->Prop),i<n->e i a w->(∀a' I,e (i+1) a' I->k a' (Δ (Y7.wrap ((i:Int)+1))) I)->B a (Δ (i:Int)) w k)(p:∀(a:x1)(w:x3)(k:x1->x1->x3->Prop),e n a w->B a (Δ (n:Int)) w k):b2 a (Δ 0) w B:=by
 refine⟨λa t w=>∃i:Nat,t=Δ (i:Int)/\i<=n/\e i a w,λa t _=>n-(b0 t).toNat,by grind,?_⟩
 grind [lm,b0]
theorem k8.range{a b:x1}{B:x1->x1->x1->x3->(x1->x1->x1->x3->Prop)->Prop}(n:Nat)(e:Nat->x1->x1->x3->Prop)(h:n<=9223372036854775807)(j:e 0 a b w)(p:∀(i:Nat)(a b:x1)(w:x3)(k:x1->x1->x1->x3->Prop),i<n->e i a b w->(∀a' f I,e (i+1) a' f I->k a' f (Δ (Y7.wrap ((i:Int)+1))) I)->B a b (Δ (i:Int)) w k)(q:∀(a b:x1)(w:x3)(k:x1->x1->x1->x3->Prop),e n a b w->B a b (Δ (n:Int)) w k):k8 a b (Δ 0) w B:=by
 refine⟨λa b t w=>∃i:Nat,t=Δ (i:Int)/\i<=n/\e i a b w,λa b t _=>n-(b0 t).toNat,by grind,?_⟩
 grind [lm,b0]
theorem tZ.range{a b c:x1}{B:x1->x1->x1->x1->x3->(x1->x1->x1->x1->x3->Prop)->Prop}(n:Nat)(e:Nat->x1->x1->x1->x3->Prop)(j:n<=9223372036854775807)(p:e 0 a b c w)(q:∀(i:Nat)(a b c:x1)(w:x3)(k:x1->x1->x1->x1->x3->Prop),i<n->e i a b c w->(∀a' f h I,e (i+1) a' f h I->k a' f h (Δ (Y7.wrap ((i:Int)+1))) I)->B a b c (Δ (i:Int)) w k)(r:∀(a b c:x1)(w:x3)(k:x1->x1->x1->x1->x3->Prop),e n a b c w->B a b c (Δ (n:Int)) w k):tZ a b c (Δ 0) w B:=by
 refine⟨λa b c t w=>∃i:Nat,t=Δ (i:Int)/\i<=n/\e i a b c w,λa b c t _=>n-(b0 t).toNat,by grind,?_⟩
 grind [lm,b0]
theorem sa.range{a b c d:x1}{B:x1->x1->x1->x1->x1->x3->(x1->x1->x1->x1->x1->x3->Prop)->Prop}(n:Nat)(e:Nat->x1->x1->x1->x1->x3->Prop)(p:n<=9223372036854775807)(q:e 0 a b c d w)(r:∀(i:Nat)(a b c d:x1)(w:x3)(k:x1->x1->x1->x1->x1->x3->Prop),i<n->e i a b c d w->(∀a' f h j I,e (i+1) a' f h j I->k a' f h j (Δ (Y7.wrap ((i:Int)+1))) I)->B a b c d (Δ (i:Int)) w k)(s:∀(a b c d:x1)(w:x3)(k:x1->x1->x1->x1->x1->x3->Prop),e n a b c d w->B a b c d (Δ (n:Int)) w k):sa a b c d (Δ 0) w B:=by
 refine⟨λa b c d t w=>∃i:Nat,t=Δ (i:Int)/\i<=n/\e i a b c d w,λa b c d t _=>n-(b0 t).toNat,by grind,?_⟩
 grind [lm,b0]
section
variable{P:X5}{w:x3}{m:Bool}{S R:ah}
theorem LN(l:Λ):(l.map λx=>[X2 k x]).flatten=ints k l:=by
 induction l<;>grind
theorem pN{g:Nat}(h:ao .i64 e w g v l):bM (λr=>r=g) R w [v] l:=by
 have j:(l.map λx=>[X2 .i64 x]).flatten=ints .i64 l:=LN l;refine⟨v,rfl,l.map λx=>[Δ x],g,λ_ _=>False,⟨by grind,λ_ _ h=>h,by grind⟩,⟨Ξ,λi c a f p=>?_⟩,?_,λ_=>⟨.inr rfl,e,?_⟩⟩
 .rw[x8,p]at f;simp at f;exact f.symm
 .rw[j];exact qZ h Ω
 .rw[j];exact h
def nP.val(x:nP k):Int:=x
theorem Cl(h:bM S R w [v] l):∃g e,ao .i64 e w g v l/\(v= .slice ν 0 0\/S g):=by
 obtain⟨vs,g,F,_,he,U,hm⟩:=kA h;obtain⟨h1,e,a⟩:=hm rfl;rw[Ci he]at a;exact⟨g,e,a,h1⟩
end
end Go.Vc
namespace Go.Proofs.YtkcigodpbndobaaGreatDoor
open Go Go.Vc Go.RowKit Go.Proofs Go.Proofs.Tryz
set_option maxRecDepth 100000
def right(k:Int):Prop:=1<=k/\k<=2147483648
def cJ(a k:Int):Prop:=right k/\0<=a/\a<=k
instance (k:Int):Decidable (right k):=by unfold right;infer_instance
instance (a k:Int):Decidable (cJ a k):=by unfold cJ;infer_instance
theorem Cm{k:Int}:aj x7 KF [Δ k] w λv I=>v= .bool (decide (right k))/\Ext w I:=by
 refine az func212 ?_;simp only[cz,cI,oG,ai];refine⟨λh=>⟨?_,Ext.refl _⟩,λh=>⟨?_,Ext.refl _⟩⟩
 .congr 1;simp[right,h]
 .rw[ms];intro a;exact h a.1
theorem lk{k:Int}:aj x7 KA [Δ a,Δ k] w λv I=>v= .bool (decide (cJ a k))/\Ext w I:=by
 refine az func202 ?_;simp only[cz];refine Cm.X ?_;rintro _ J _ ⟨rfl,e⟩;simp only[cI,oG,ai];refine⟨λh=>⟨λf=>⟨?_,e⟩,λf=>⟨?_,e⟩⟩,λh=>⟨?_,e⟩⟩
 .congr 1;simp[cJ,h,f]
 .rw[ms];intro j;exact f j.2.1
 .rw[ms];intro j;exact h j.1
theorem LO{k:Int}:aj x7 Lp [Δ k] w λv I=>v= .bool (decide (right k))/\Ext w I:=by
 refine az func290 ?_;simp only[cz,bL,oG,ai];refine⟨λh=>⟨?_,Ext.refl _⟩,λh=>⟨?_,Ext.refl _⟩⟩
 .congr 1;have bi:1<=k:=Ω
  simp[right,bi]
 .rw[ms];intro a;have:=a.1;omega
theorem Cn{k:Int}:aj x7 KY [Δ a,Δ k] w λv I=>v= .bool (decide (cJ a k))/\Ext w I:=by
 refine az func241 ?_;simp only[cz];refine LO.X ?_;rintro _ J _ ⟨rfl,e⟩;simp only[cI,oG,ai];refine⟨λh=>⟨λf=>⟨?_,e⟩,λf=>⟨?_,e⟩⟩,λh=>⟨?_,e⟩⟩
 .congr 1;simp[cJ,h,f]
 .rw[ms];intro j;exact f j.2.1
 .rw[ms];intro j;exact h j.1
def aA:Λ->Int
 |[]=>1
 |x::r=>x*aA r
theorem q0:∀(a b:Λ),aA (a++b)=aA a*aA b
 |[],b=>by simp[aA]
 |x::a,b=>by simp[aA,q0 a b,Int.mul_assoc]
theorem q1{i:Nat}{x:Int}(h:l[i]?=σ x):aA (l.take (i+1))=aA (l.take i)*x:=by
 rw[u7,h,q0];simp[aA]
def bS(l:Λ):Prop:=l.length<=6/\∀x∈l,1<=x/\x<=32
theorem bS.take(h:bS l)(i:Nat):bS (l.take i):=⟨by rw[c7];have:=h.1;omega,λx a=>h.2 x (U1 a)⟩
theorem bS.drop(h:bS l)(i:Nat):bS (l.drop i):=⟨by rw[List.length_drop];have:=h.1;omega,λx a=>h.2 x (List.mem_of_mem_drop a)⟩
theorem oI:∀(l:Λ),(∀x∈l,1<=x/\x<=32)->1<=aA l/\aA l<=32 ^ l.length
 |[],_=>by simp[aA]
 |x::r,h=>by
  obtain⟨h1,a⟩:=oI r λy e=>h y (.tail _ e);obtain⟨f,j⟩:=h x (.head _);simp only[aA,Y3];constructor
  .have:=Int.mul_le_mul f h1 Ω Ω;simpa using this
  .have:=Int.mul_le_mul j a Ω Ω;rw[Int.pow_succ];rw[Int.mul_comm (32 ^ r.length) 32];exact this
theorem prod_bound(h:bS l):1<=aA l/\aA l<=1073741824:=by
 obtain⟨h1,a⟩:=oI l h.2;refine⟨h1,Int.le_trans a ?_⟩;have:(32:Int) ^ l.length<=32 ^ 6:=by
  have e:=h.1
  match l.length,e with
  |0,_=>decide
  |1,_=>decide
  |2,_=>decide
  |3,_=>decide
  |4,_=>decide
  |5,_=>decide
  |6,_=>decide
 simpa using this
def ct:Λ->Λ->Int->Option Int
 |[],[],n=>σ n
 |k::s,v::t,n=>if 0<=v/\v<k then ct s t (n*k+v)else ν
 |_,_,_=>ν
theorem xN:∀(s t:Λ)(n:Int),s.length≠t.length->ct s t n=ν
 |[],[],_,h=>m6 rfl h
 |[],_::_,_,_=>rfl
 |_::_,[],_,_=>rfl
 |k::s,v::t,n,h=>by
  unfold ct;split
  .exact xN s t _ (by simpa using h)
  .rfl
def b1:Λ->Int->Λ
 |[],_=>[]
 |k::s,n=>(n / aA s) % k::b1 s n
theorem ix:∀(s:Λ)(n:Int),(b1 s n).length=s.length
 |[],_=>rfl
 |_::s,n=>by simp[b1,ix s n]
theorem Co:∀{s:Λ}{n:Int}{i:Nat}{k:Int},s[i]?=σ k->(b1 s n)[i]?=σ ((n / aA (s.drop (i+1))) % k)
 |a::s,n,0,k,h=>by simp at h;subst h;simp[b1]
 |a::s,n,i+1,k,h=>by
  simp only[List.getElem?_cons_succ]at h;simp only[b1,List.getElem?_cons_succ,List.drop_succ_cons];exact Co h
theorem mL:∀{s t:Λ}{m n:Int},(∀x∈s,1<=x/\x<=32)->ct s t m=σ n->m*aA s<=n/\n<(m+1)*aA s
 |[],[],m,n,_,h=>by simp[ct]at h;subst h;simp[aA];omega
 |k::s,v::t,m,n,U,h=>by
  unfold ct at h;split at h
  .rename_i p;have e:=mL (λx a=>U x (.tail _ a)) h;have q:=(oI s λx a=>U x (.tail _ a)).1;simp only[aA];have f:m*(k*aA s)=m*k*aA s:=(Int.mul_assoc _ _ _).symm;have j:(m+1)*(k*aA s)=(m*k+k)*aA s:=by rw[<-Int.mul_assoc,Int.add_mul,Int.one_mul]
   rw[f,j];constructor
   .refine Int.le_trans ?_ e.1;exact V6 Ω Ω
   .refine Int.lt_of_lt_of_le e.2 ?_;exact V6 Ω Ω
  .cases h
 |[],_::_,_,_,_,h=>by cases h
 |_::_,[],_,_,_,h=>by cases h
def bl:Λ->List (Λ)
 |[]=>[[]]
 |k::s=>(Z2 k.toNat).flatMap λ(v:Nat)=>(bl s).map λt=>(v:Int)::t
theorem j2:∀{s:Λ},(∀x∈s,1<=x/\x<=32)->(bl s).length=(aA s).toNat
 |[],_=>rfl
 |k::s,h=>by
  have e:=j2 λx a=>h x (.tail _ a);have hk:=h k (.head _);have f:=(oI s λx a=>h x (.tail _ a)).1;simp only[bl,aA,List.length_flatMap,o4,e];rw[List.map_const',List.length_range,List.sum_replicate_nat,Int.toNat_mul Ω Ω]
theorem uJ:∀{s x:Λ},x∈bl s->x.length=s.length
 |[],x,h=>by simp[bl]at h;subst h;rfl
 |k::s,x,h=>by
  simp only[bl,List.mem_flatMap,o8]at h;obtain⟨v,_,t,a,rfl⟩:=h;simp[uJ a]
theorem xO{s x:Λ}(h:(bl s)[j]?=σ x):x.length=s.length:=uJ (x5 h)
theorem q2(h:aI .i64 w sv l)(U:bS l):
  aj x7 Kb [.agg #[sv]] w λv I=>v=Δ (aA l)/\Ext w I:=by
 refine az func164 ?_;refine bm λg w0 r f j=>?_;rw[aQ bn.p 0 j rfl,aS al.u (h.W f)];refine⟨λn t J=>Ext w J/\∃i:Nat,t=Δ i/\i<=l.length/\n=Δ (aA (l.take i)),λ_ t _=>l.length-(b0 t).toNat,⟨f,0,rfl,X7 _,rfl⟩,?_⟩;rintro _ _ J ⟨a,i,rfl,hi,rfl⟩;have s:=U.1;simp only[aP,ai];refine⟨λy=>?_,λz=>⟨?_,a⟩⟩
 .obtain⟨x,e⟩:=aF (l:=l) (i:=i) Ω;rw[be al.u ae.i Ψ (h.W a) e];have q:=prod_bound (U.take (i+1));rw[q1 e]at q;simp only[iO,aM];rw[lm Ω Ω,lm Ω Ω,<-q1 e];refine⟨⟨a,i+1,rfl,Ω,rfl⟩,?_⟩;simp only[b0];omega
 .have:i=l.length:=Ω
  rw[this,o6]
theorem LP{i:Nat}(h:aI .i64 w sv l)(U:bS l)(hi:i<l.length):
  aj x7 Le [.agg #[sv],Δ i] w λv I=>v=Δ (aA (l.drop (i+1)))/\Ext w I:=by
 have B:=U.1;refine az func264 ?_;refine bm λg w0 C f j=>?_;have a:=h.W f;simp only[cz,aP,ai];refine⟨λE=>Ω,λ_=>?_⟩;rw[aQ bn.p 0 j rfl,aS al.u a];simp only[cI,ai];refine⟨λG=>Ω,λ_=>?_⟩;rw[aQ bn.p 0 j rfl];simp only[aM];have r:Y7.wrap ((i:Int)+1)=((i+1:Nat):Int):=by rw[lm Ω Ω];omega
 rw[r];have s:=a;obtain⟨_,b,o,base,cap,rfl,H,J,K,L⟩:=id a;rw[eA al.u ae.i lT gW dZ Ω Ω Ω];have e:=b4.part (l:=i+1) (h:=l.length) (m:=cap) s Ω Ω Ω Ω;generalize y:(x1.slice (if cap=i+1 then base else W6 (λx=>x.add ((i+1)*1)) base) (l.length-(i+1)) (cap-(i+1)))=q at e ⊢;have z:((ints .i64 l).drop ((i+1)*1)).take ((l.length-(i+1))*1)=ints .i64 (l.drop (i+1)):=by
  rw[n9 Ξ,V0,ints,<-List.map_drop]
 rw[z]at e;rw[dw (cs:=#[q]) (by subst y;kernel_rfl)];refine(q2 (aI.of e) (U.drop (i+1))).X ?_;rintro _ V _ ⟨rfl,A⟩;exact⟨rfl,f.F A⟩
def mM(s t:Λ):x1:=match ct s t 0 with
 |some n=>.tuple #[Δ n,Δ 0]
 |none=>.tuple #[Δ 0,Δ 3]
theorem Cp{s t:Λ}(h:aI .i64 w sv s)(q:aI .i64 w aN t)(U:bS s):
  aj x7 Jh [.agg #[sv],aN] w λv I=>v=mM s t/\Ext w I:=by
 have K:=U.1;refine az func85 ?_;refine bm λg w0 L e r=>?_;rw[aS al.u (q.W e),aQ bn.p 0 r rfl,aS al.u (h.W e)];simp only[bJ,ai];refine⟨λM=>⟨?_,e⟩,λz=>?_⟩
 .unfold mM;rw[xN _ _ _ Ω]
 .have z:s.length=t.length:=Ω
  rw[aS al.u (q.W e)];refine⟨λ_ _ n c J=>Ext w0 J/\∃(i:Nat)(m:Int),c=Δ i/\i<=t.length/\n=Δ m/\0<=m/\m<aA (s.take i)/\ct s t 0=ct (s.drop i) (t.drop i) m,λ_ _ _ c _=>t.length-(b0 c).toNat,
   ⟨Ext.refl _,0,0,rfl,X7 _,rfl,R6 _,by simp[aA],rfl⟩,?_⟩
  rintro _ _ _ _ J ⟨j,i,m,rfl,hi,rfl,A,N,f⟩;have a:=e.F j;simp only[aP,ai];refine⟨λO=>?_,λP=>⟨?_,a⟩⟩
  .obtain⟨v,B,C⟩:∃v,t[i]?=σ v/\t.drop i=v::t.drop (i+1):=⟨t[i],x6 Ω,X1 Ω⟩;obtain⟨k,hk,E⟩:∃k,s[i]?=σ k/\s.drop i=k::s.drop (i+1):=⟨s[i],x6 Ω,X1 Ω⟩;rw[C,E]at f;have G:=prod_bound (U.take (i+1));have Q:=prod_bound (U.take i);have R:=U.2 k (x5 hk);rw[q1 hk]at G;have y:¬(0<=v/\v<k)->mM s t= .tuple #[Δ 0,Δ 3]:=λH=>by unfold mM;rw[f];simp[ct,H]
   rw[be al.u ae.i Ψ (q.W a) B];simp only[cz,aP,ai,bY];refine⟨λS=>⟨(y Ω).symm,a⟩,λV=>?_⟩;rw[aQ bn.p 0 (r.W j) rfl,be al.u ae.i Ψ (h.W a) hk];simp only[cI,ai];refine⟨λW=>⟨(y Ω).symm,a⟩,λX=>?_⟩;rw[aQ bn.p 0 (r.W j) rfl,be al.u ae.i Ψ (h.W a) hk];have Y:0<=m*k/\m*k+k<=aA (s.take i)*k:=by
    constructor
    .exact Int.mul_nonneg A Ω
    .have:=V6 (show m+1<=aA (s.take i) by omega) (show 0<=k by omega);rw[Int.add_mul,Int.one_mul]at this;exact this
   simp only[iO,aM];rw[lm (x:=m*k) Ω Ω,lm (x:=m*k+v) Ω Ω,lm Ω Ω];refine⟨⟨j,i+1,m*k+v,rfl,Ω,rfl,Ω,by rw[q1 hk];omega,?_⟩,?_⟩
   .rw[f];simp[ct,show 0<=v/\v<k from⟨Ω,Ω⟩]
   .simp only[b0];omega
  .have:i=t.length:=Ω
   rw[this,List.drop_of_length_le Ω,List.drop_of_length_le Ω]at f;unfold mM;rw[f];rfl
theorem LQ{e:Nat}{a b:Λ}(h1:b4 w 1 s1 e (ints .i64 a))(z:b4 w 1 s2 j (ints .i64 b)):
  aj x7 Bw [s1,s2] w λv I=>v= .bool (decide (a=b))/\Ext w I:=by
 have P:a.length=e:=by simpa using h1.1
 have Q:b.length=j:=by simpa using z.1
 have A:=h1.le;obtain⟨_,R,S,U,W,rfl,X,Y,E,G⟩:=h1;obtain⟨_,Z,aa,ab,ac,rfl,ad,af,H,K⟩:=z;refine az func33 ?_;simp only[iv al.u,bJ,ai];refine⟨λB=>⟨?_,Ext.refl _⟩,λC=>?_⟩
 .rw[ms];rintro rfl;omega
 .have C:e=j:=Ω
  refine⟨λt4 p J=>Ext w J/\∃i:Nat,p=Δ i/\i<=e/\a.take i=b.take i,λ_ p _=>e-(b0 p).toNat,⟨Ext.refl _,0,rfl,X7 _,rfl⟩,?_⟩;rintro t4 _ J ⟨f,i,rfl,hi,q⟩;simp only[aP,ai,eu];refine⟨λr V L _ _=>?_,λag=>⟨?_,f⟩⟩
  .have r:i<e:=Ω
   have f:=f.F L;obtain⟨x,s⟩:=aF (l:=a) (i:=i) Ω;obtain⟨y,h⟩:=aF (l:=b) (i:=i) Ω;have M:=jY f (G i _ (mK s));have N:=jY f (K i _ (mK h));rw[fv al.u ae.i r E,V0,ax Ψ M,fv al.u ae.i (C▸r) H,V0,ax Ψ N];simp only[bJ,ai,aM];refine⟨λB=>⟨?_,f⟩,λah=>⟨⟨f,i+1,?_,Ω,xL q s h Ω⟩,?_⟩⟩
   .rw[ms];rintro rfl;rw[s]at h;cases h;exact B rfl
   .rw[lm Ω (by simp only[maxLen]at A;omega)];rfl
   .rw[lm Ω (by simp only[maxLen]at A;omega)];simp only[b0];omega
  .have O:i=e:=Ω
   subst O;rw[m7];rw[n9 Ω,n9 Ω]at q;exact q
theorem LR{s:x1}{a:Λ}(h1:b4 w 1 s n (ints .i64 a))(B:n<=1000000):
  aj x7 Bx [s] w λv I=>Ext w I/\∃g,w.heap.size<=g/\bZ I g ae 1 v n (ints .i64 a):=by
 have j:=h1;obtain⟨p,C,E,G,H,rfl,K,L,q,M⟩:=h1;refine az func43 ?_;simp only[uE al.u,bU];refine⟨λf=>⟨Ext.refl _,w.heap.size,p9 _,?_⟩,λ_=>?_⟩
 .have:n=0:=by
   rcases Nat.eq_zero_or_pos n with h|h
   .exact h
   .rw[q h]at f;cases f
  subst this;have:ints .i64 a=[]:=Z0 (by simpa using p);rw[this];exact bZ.nil _ _ _ _
 .refine lU al.u ae.i Ω (cs:=#[]) Ψ ?_;intro g J N e x;refine pH al.u al.u ae.i rfl (bZ.full x rfl Ω) (j.W e) (kx _ _) Ω (by simp only[maxLen];omega) ?_;intro O y V P z A;refine⟨e.then A (by rintro r Q rfl;omega),y,?_,?_⟩
  .have:=e.size;omega
  .simpa using z
theorem LS{e:Nat}{a b:Λ}(h1:b4 w 1 s1 e (ints .i64 a))(z:b4 w 1 s2 j (ints .i64 b)):
  aj x7 Bu [s1,s2] w λv I=>v= .bool (decide (a=b))/\Ext w I:=by
 have P:a.length=e:=by simpa using h1.1
 have Q:b.length=j:=by simpa using z.1
 have A:=h1.le;obtain⟨_,R,S,U,W,rfl,X,Y,E,G⟩:=h1;obtain⟨_,Z,aa,ab,ac,rfl,ad,ae,H,K⟩:=z;refine az func25 ?_;simp only[iv aw.u,bJ,ai];refine⟨λB=>⟨?_,Ext.refl _⟩,λC=>?_⟩
 .rw[ms];rintro rfl;omega
 .have C:e=j:=Ω
  refine⟨λt4 p J=>Ext w J/\∃i:Nat,p=Δ i/\i<=e/\a.take i=b.take i,λ_ p _=>e-(b0 p).toNat,⟨Ext.refl _,0,rfl,X7 _,rfl⟩,?_⟩;rintro t4 _ J ⟨f,i,rfl,hi,q⟩;simp only[aP,ai,eu];refine⟨λr V L _ _=>?_,λaf=>⟨?_,f⟩⟩
  .have r:i<e:=Ω
   have f:=f.F L;obtain⟨x,s⟩:=aF (l:=a) (i:=i) Ω;obtain⟨y,h⟩:=aF (l:=b) (i:=i) Ω;have M:=jY f (G i _ (mK s));have N:=jY f (K i _ (mK h));rw[fv aw.u ap.i r E,V0,ax Ψ M,fv aw.u ap.i (C▸r) H,V0,ax Ψ N];simp only[bJ,ai,aM];refine⟨λB=>⟨?_,f⟩,λag=>⟨⟨f,i+1,?_,Ω,xL q s h Ω⟩,?_⟩⟩
   .rw[ms];rintro rfl;rw[s]at h;cases h;exact B rfl
   .rw[lm Ω (by simp only[maxLen]at A;omega)];rfl
   .rw[lm Ω (by simp only[maxLen]at A;omega)];simp only[b0];omega
  .have O:i=e:=Ω
   subst O;rw[m7];rw[n9 Ω,n9 Ω]at q;exact q
theorem LU{s:x1}{a:Λ}(h1:b4 w 1 s n (ints .i64 a))(B:n<=1000000):
  aj x7 BN [s] w λv I=>Ext w I/\∃g,w.heap.size<=g/\bZ I g ap 1 v n (ints .i64 a):=by
 have j:=h1;obtain⟨p,C,E,G,H,rfl,K,L,q,M⟩:=h1;refine az func147 ?_;simp only[uE aw.u,bU];refine⟨λf=>⟨Ext.refl _,w.heap.size,p9 _,?_⟩,λ_=>?_⟩
 .have:n=0:=by
   rcases Nat.eq_zero_or_pos n with h|h
   .exact h
   .rw[q h]at f;cases f
  subst this;have:ints .i64 a=[]:=Z0 (by simpa using p);rw[this];exact bZ.nil _ _ _ _
 .refine lU aw.u ap.i Ω (cs:=#[]) Ψ ?_;intro g J N e x;refine pH aw.u aw.u ap.i rfl (bZ.full x rfl Ω) (j.W e) (kx _ _) Ω (by simp only[maxLen];omega) ?_;intro O y V P z A;refine⟨e.then A (by rintro r Q rfl;omega),y,?_,?_⟩
  .have:=e.size;omega
  .simpa using z
theorem uK{a b:Λ}(h1:aI .i64 w s1 a)(e:aI .i64 w s2 b):
  aj x7 Bw [s1,s2] w λv I=>v= .bool (decide (a=b))/\Ext w I:=LQ h1 e
theorem j3{s:x1}{a:Λ}(h1:aI .i64 w s a)(e:a.length<=1000000):
  aj x7 Bx [s] w λv I=>Ext w I/\∃g,w.heap.size<=g/\ao .i64 ae I g v a:=LR h1 e
theorem Cq{a b:Λ}(h1:aI .i64 w s1 a)(e:aI .i64 w s2 b):
  aj x7 Bu [s1,s2] w λv I=>v= .bool (decide (a=b))/\Ext w I:=LS h1 e
theorem xP{s:x1}{a:Λ}(h1:aI .i64 w s a)(e:a.length<=1000000):
  aj x7 BN [s] w λv I=>Ext w I/\∃g,w.heap.size<=g/\ao .i64 ap I g v a:=LU h1 e
theorem LV{n:Int}(h:aI .i64 w sv l)(U:bS l)(x:0<=n)(Y:n<aA l):
  aj x7 Ky [.agg #[sv],Δ n] w λv I=>Ext w I/\∃aN g,v= .tuple #[aN,Δ 0]/\w.heap.size<=g/\ao .i64 ae I g aN (b1 l n):=by
 have Z:=U.1;have aa:=prod_bound U;refine az func200 ?_;refine bm λg w0 ab y a=>?_;have ac:=h.cells;simp only[cz,aP,ai];refine⟨λad=>Ω,λ_=>?_⟩;rw[bB bn.p bn.i rfl a.range];refine(q2 (h.W y) U).X ?_;rintro _ J _ ⟨rfl,f⟩;simp only[cI,ai];refine⟨λaf=>Ω,λ_=>?_⟩;have j:=y.F f;rw[aQ bn.p 0 (a.W f) rfl,aS al.u (h.W j)];refine ky al.u ae.i Ω Ω ?_;intro E V ah z L;simp only[iv al.u];have M:=j.F z;have s0:=y.size;have s1:=f.size;have ak:=a.lt;refine⟨λt q=>Ext w q/\Ext w0 q/\∃i:Nat,t=Δ i/\i<=l.length/\ag q E ae (ints .i64 ((b1 l n).take i++r8 (l.length-i) 0)),λt _=>l.length-(b0 t).toNat,
  ⟨M,f.F z,0,rfl,X7 _,by simpa using L⟩,?_⟩
 rintro _ q ⟨A,B,i,rfl,hi,G⟩;simp only[aP,ai];refine⟨λC=>?_,λam=>?_⟩
 .have C:i<l.length:=Ω
  rw[bB bn.p bn.i rfl (a.W B).range];refine(LP (h.W A) U C).X ?_;rintro _ an _ ⟨rfl,N⟩;simp only[eu];intro ap O _ _;have s:=N.F O;have H:=A.F s;obtain⟨k,hk⟩:∃k,l[i]?=σ k:=⟨l[i],x6 Ω⟩;have aq:=U.2 k (x5 hk);have au:=prod_bound (U.drop (i+1));have P:0<=n / aA (l.drop (i+1)):=Int.ediv_nonneg x Ω;have av:n / aA (l.drop (i+1))<=n:=Int.ediv_le_self _ x;rw[uD Ω,Int.tdiv_eq_ediv_of_nonneg x,lm Ω Ω,
   aQ bn.p 0 ((a.W B).W s) rfl,be al.u ae.i Ψ (h.W H) hk,
   sr Ω,Int.tmod_eq_emod_of_nonneg P,fv al.u ae.i C (λ_=>rfl),V0]
  refine bt ae.i rfl rfl (G.W s) (by simp[ix];omega) ?_;intro aw K ax Q;simp only[aM];rw[lm Ω Ω];have ay:=z.size;have aB:=j.size;refine⟨⟨H.then K (by rintro r R rfl;omega),(B.F s).then K (by rintro r R rfl;omega),i+1,rfl,Ω,?_⟩,?_⟩
  .have S:=Co (n:=n) hk;have e:(ints .i64 ((b1 l n).take i++r8 (l.length-i) 0)).set (0+i) (Δ (n / aA (l.drop (i+1)) % k))=ints .i64 ((b1 l n).take (i+1)++r8 (l.length-(i+1)) 0):=by
    have W:((b1 l n).take i).length=i:=by rw[c7,ix];omega
    rw[W7,ints,<-V3];congr 1;rw[List.set_append,m5 Ω,W,U5,show l.length-i=(l.length-(i+1))+1 by omega,List.replicate_succ,List.set_cons_zero,u7,S];simp
   rw[<-e];exact Q
  .simp only[b0];omega
 .have X:i=l.length:=Ω
  subst X;refine⟨A,_,E,rfl,by have:=j.size;omega,ao.of (bZ.full ?_ (by simp[ints,ix]) (by simp[maxLen];omega))⟩;have e:(b1 l n).take l.length++r8 (l.length-l.length) 0=b1 l n:=by rw[U5,n9 (by rw[ix];omega)];simp
  rw[<-e];exact G
def jE(x:Int):Prop:=1<=x/\x<=32
instance (x:Int):Decidable (jE x):=by unfold jE;infer_instance
theorem LW{x:Int}:aj x7 uv [Δ x] w λv I=>v= .bool (decide (¬jE x))/\Ext w I:=by
 refine az func162 ?_;simp only[cz,aP,bL,ai];refine⟨λh=>⟨?_,Ext.refl _⟩,λh=>⟨?_,Ext.refl _⟩⟩
 .rw[m7];intro a;have:=a.1;omega
 .congr 1;have:(32<x)=(¬jE x):=propext ⟨λe a=>by have:=a.2;omega,λe=>by
   by_cases f:32<x
   .exact f
   .exact m6 ⟨Ω,Ω⟩ e⟩
  simp only[this]
theorem LX(h:aI .i64 w sv l):
  aj x7 xC [sv,.func (.func uv) #[] #[]] w λv I=>Ext w I/\∃n:Int,v=Δ n/\((0<=n)=¬∀x∈l,jE x):=by
 have z:=h.le;refine az func239 ?_;rw[aS al.u h];refine⟨λ_ t J=>Ext w J/\∃i:Nat,t=Δ i/\i<=l.length/\∀x∈l.take i,jE x,λ_ t _=>l.length-(b0 t).toNat,⟨Ext.refl _,0,rfl,X7 _,Ξ⟩,?_⟩;rintro _ _ J ⟨e,i,rfl,hi,f⟩;simp only[aP,ai];refine⟨λA=>?_,λB=>⟨e,-1,rfl,?_⟩⟩
 .obtain⟨x,j⟩:=aF (l:=l) (i:=i) Ω;rw[be al.u ae.i Ψ (h.W e) j];show aj x7 uv [Δ x] J _;refine LW.X ?_;rintro _ V _ ⟨rfl,p⟩;simp only[ai,aM];refine⟨λq=>⟨e.F p,i,rfl,?_⟩,λr=>?_⟩
  .exact propext ⟨λ_ s=>q (s x (x5 j)),λ_=>Ω⟩
  .rw[lm Ω Ω];refine⟨⟨e.F p,i+1,rfl,Ω,λy a=>?_⟩,?_⟩
   .rw[u7,j]at a;rcases o9.1 a with a|a
    .exact f y a
    .simp at a;subst a;exact Z6.1 r
   .simp only[b0];omega
 .have:i=l.length:=Ω
  rw[this,o6]at f;exact propext ⟨λh=>Ω,λh=>m6 f h⟩
theorem LY(h:aI .i64 w sv l):
  aj x7 uw [sv,.func (.func uv) #[] #[]] w λv I=>v= .bool (decide (¬∀x∈l,jE x))/\Ext w I:=by
 refine az func163 ?_;refine(LX h).X ?_;rintro _ J _ ⟨a,n,rfl,e⟩;simp only[cI];exact⟨by congr 1;simp only[e],a⟩
def LZ(w:x3)(l:Λ)(v:x1)(I:x3):Prop:=
 Ext w I/\
   (¬bS l->v= .tuple #[.agg #[.slice ν 0 0],Δ 1])/\
   (bS l->4096<aA l->v= .tuple #[.agg #[.slice ν 0 0],Δ 5])/\
   (bS l->aA l<=4096->∃g aN,v= .tuple #[.agg #[aN],Δ 0]/\w.heap.size<=g/\ao .i64 ae I g aN l)
theorem Cr(h:aI .i64 w sv l):aj x7 Jf [sv] w (LZ w l):=by
 refine az func83 ?_;refine bx bn.i λak J am a s=>?_;have an:=s.lt;refine aV (λv V=>Ext w V/\Ext J V/\∃c:Bool,v= .bool c/\((c=ro)=¬bS l)) ?_ ?_
 .rintro _ V ⟨x,y,c,rfl,H⟩;simp only[bU];refine⟨λW=>?_,λX=>?_⟩
  .have I:¬bS l:=by rw[<-H];exact W
   rw[dw (cs:=#[.slice ν 0 0]) Ψ];refine cb (vs:=[.slice ν 0 0]) bn.i rfl rfl (by simp;rfl) (s.W y) ?_;intro ao Y ap Z;rw[fD bn.p bn.i rfl Z.range];exact⟨x.then Y (by rintro r z rfl;omega),λ_=>rfl,λh=>m6 h I,λh=>m6 h I⟩
  .have f:bS l:=by
    have K:¬(c=ro):=by simp[X]
    rw[H]at K;exact Classical.not_not.1 K
   have aq:=f.1;refine(j3 (h.W x) Ω).X ?_;rintro aN au _ ⟨A,ab,av,hm⟩;have L:=hm.ls.cells;rw[dw (cs:=#[aN]) (by obtain⟨_,_,_,_,_,rfl,_⟩:=hm.ls;kernel_rfl)];refine bx bn.i λgs aw ax B ac=>?_;refine cb (vs:=[aN]) bn.i rfl rfl (by intro u e;simp at e;subst e;exact L.2) ac ?_;intro aA M aB N;rw[bB bn.p bn.i rfl N.range];have aC:=A.size;have aD:=B.size;have aE:=y.size;have aF:=(B.aa _).F M;have C:=B.then M (by rintro r z rfl;omega);have ad:=(x.F A).F C;have O:=hm.W C;refine(q2 O.ls f).X ?_;rintro _ aG _ ⟨rfl,j⟩;have P:=ad.F j;have Q:=s.W (((y.F A).F C).F j);simp only[bL,ai];refine⟨λae=>?_,λaf=>?_⟩
   .rw[dw (cs:=#[.slice ν 0 0]) Ψ];refine cb (vs:=[.slice ν 0 0]) bn.i rfl rfl (by simp;rfl) Q ?_;intro ag q ah E;rw[fD bn.p bn.i rfl E.range];exact⟨P.then q (by rintro r z rfl;omega),λh=>m6 f h,λ_ _=>rfl,λ_ h=>Ω⟩
   .rw[bB bn.p bn.i rfl (N.W j).range];refine cb (vs:=[aN]) bn.i rfl rfl (by intro u e;simp at e;subst e;exact L.2) Q ?_;intro ag q ah E;rw[fD bn.p bn.i rfl E.range];have aH:=a.size;exact⟨P.then q (by rintro r z rfl;omega),λh=>m6 f h,λ_ h=>Ω,λ_ _=>⟨ab,aN,rfl,Ω,(O.W j).aa q Ω⟩⟩
 .intro ay R;rw[aS al.u (h.W a)];simp only[bL,ai];refine⟨λae=>R _ _ ⟨a,Ext.refl _,ro,rfl,?_⟩,λaf=>?_⟩
  .exact propext ⟨λ_ U=>by have:=U.1;omega,λ_=>rfl⟩
  .refine (LY (h.W a)).X ?_;rintro _ V _ ⟨rfl,S⟩;refine R _ _ ⟨a.F S,S,_,rfl,?_⟩;rw[pl];exact propext ⟨λG U=>G U.2,λG U=>G ⟨Ω,U⟩⟩
theorem xQ{P:X5}(f:0<=a)(h1:a<4294967296):
  ab P (aO .and t cx cy (.int .u64 a) (.int .u64 4294967295)) w K=K (.int .u64 a):=ab.of λI _=>by
 obtain⟨n,rfl⟩:=T0 f;have q:n<4294967296:=Ω
 have e:(U6 64 (n:Int) &&& U6 64 4294967295).toNat=n:=by
  rw[BitVec.toNat_and,BitVec.toNat_ofInt,BitVec.toNat_ofInt];have h:((n:Int) % ((2 ^ 64:Nat):Int)).toNat=n:=Ω
  have j:((4294967295:Int) % ((2 ^ 64:Nat):Int)).toNat=2 ^ 32-1:=Φ
  rw[h,j,Nat.and_two_pow_sub_one_eq_mod];omega
 have p:(U6 U2.bits (n:Int) &&& U6 U2.bits 4294967295).toNat=n:=e;simp only[aO,eqGuard,binOp,Op.intBits,p];rw[lw Ω Ω];rfl
theorem sw{P:X5}(f:0<=a)(h1:a<4294967296):
  ab P (aO .shr t cx cy (.int .u64 a) (.int .u64 32)) w K=K (.int .u64 0):=ab.of λI _=>by
 have e:a.fdiv (2 ^ min 32 U2.bits)=0:=by
  have:(2:Int) ^ min 32 U2.bits=4294967296:=rfl;rw[this,Int.fdiv_eq_ediv_of_nonneg _ Ω];omega
 simp[aO,eqGuard,binOp,Op.shift,e]
theorem Cs{x:Int}(e:0<=x/\x<65536)(a:0<=y/\y<65536):
  aj x7 La [.int .u64 x,.int .u64 y] w λv I=>v= .tuple #[.int .u64 0,.int .u64 (x*y)]/\Ext w I:=by
 have h:0<=x*y/\x*y<4294967296:=⟨Int.mul_nonneg e.1 a.1,by
  have:x*y<=65535*65535:=Int.mul_le_mul Ω Ω a.1 Ω;omega⟩
 refine az func256 ?_;refine aj.X (K:=λv I=>v= .tuple #[.int .u64 0,.int .u64 (x*y)]/\Ext w I) ?_ ?_
 .refine az func305 ?_;rw[xQ Ω Ω,sw Ω Ω,xQ Ω Ω,sw Ω Ω];simp only[iO,Int.zero_mul,Int.mul_zero];rw[lw Ω Ω,show U2.wrap 0=0 from rfl,sw Ω Ω];simp only[aM,Int.add_zero];rw[show U2.wrap 0=0 from rfl,xQ Ω Ω,sw Ω Ω];simp only[iO,aM,Int.zero_mul,Int.mul_zero,Int.add_zero,show U2.wrap 0=0 from rfl];rw[sw Ω Ω];simp only[iO,aM,Int.add_zero,show U2.wrap 0=0 from rfl];exact⟨trivial,Ext.refl _⟩
 .rintro _ J _ ⟨rfl,f⟩;rw[bo,bp];exact⟨rfl,f⟩
theorem Ct{eB:x1}{c:Int}(h:aI .i64 w eB [c])(Y:n<65536):
  aj x7 KP [eB,Δ n] w λv I=>Ext w I/\∃g,w.heap.size<=g/\ao .i64 ap I g v (r8 n c):=by
 refine az func230 ?_;refine dk (λJ=>w=J) ?_ ?_
 .rintro _ rfl;rw[aS aw.u h,e1 ae.u nG.u,e1 ae.u nG.u,lw Ξ Ξ,lw Ω Ω];refine(Cs Ξ Ω).X ?_;rintro _ V _ ⟨rfl,y⟩;rw[bo,bp];have E:(([c].length:Int)*n)=(n:Int):=Ξ
  rw[E];refine dk (λa=>V=a) ?_ ?_
  .rintro _ rfl;rw[e1 nG.u ae.u,lm Ω Ω];refine ky aw.u ap.i Ω Ω ?_;intro g Z aa G H;have z:=y.F G;have ab:=y.size;refine pI aw.u ap.i H (λ_=>rfl) Ξ (h.W z) (kx _ _) ?_;intro ac K ad A;have L:=z.then K (by rintro r M rfl;omega);have st:over (ints .i64 (r8 n 0)) 0 ((ints .i64 [c]).take n)=ints .i64 (r8 (min 1 n) c++r8 (n-min 1 n) 0):=by
    rcases Nat.eq_zero_or_pos n with rfl|e
    .simp[over]
    .rw[n9 Θ,nN Θ];have:min 1 n=1:=Ω
     simp[this,ints]
   rw[st]at A;refine⟨λt f=>Ext w f/\∃i:Nat,t=Δ i/\i<=n/\(0<n->0<i)/\ag f g ap (ints .i64 (r8 i c++r8 (n-i) 0)),λt _=>n-(b0 t).toNat,
    ⟨L,min 1 n,Ξ,Ω,Ω,A⟩,?_⟩
   rintro _ f ⟨p,i,rfl,hi,af,q⟩;simp only[iv aw.u,aP,ai,eu];refine⟨λN O s _ _=>?_,λah=>?_⟩
   .have N:i<n:=Ω
    have B:=q.W s;rw[eA aw.u ap.i lT gW dZ Ω Ω Ω,
     eA aw.u ap.i iP mJ dZ Ω Ω Ω]
    have P:b4 O 1 (.slice (σ ⟨g,0,ν⟩) n n) n (ints .i64 (r8 i c++r8 (n-i) 0)):=(bZ.full B (by simp<;>omega) (by simp[maxLen]<;>omega)).sl;have e:=P.part (l:=0) (h:=i) (m:=n) Ω Ω Ω Ω;have Q:((ints .i64 (r8 i c++r8 (n-i) 0)).drop (0*1)).take ((i-0)*1)=ints .i64 (r8 i c):=by
     simp[ints]
    rw[Q]at e;refine pI aw.u ap.i B (o:=i) (λ_=>?_) (by simp<;>omega) e (kx _ _) ?_
    .rw[m5 Ω];simp[W5]
    .intro ak R al C;have am:=p.size;have an:=s.size;have S:over (ints .i64 (r8 i c++r8 (n-i) 0)) i ((ints .i64 (r8 i c)).take (n-i))=ints .i64 (r8 (i+min i (n-i)) c++r8 (n-(i+min i (n-i))) 0):=by
      apply j5;intro j;rw[kw _ _ _ (by simp[ints]<;>omega)];simp only[ints,l7,List.map_replicate,List.getElem?_append,List.getElem?_take,List.getElem?_replicate,c7,List.length_replicate]
      repeat' split
      all_goals first|rfl|omega
     rw[S]at C;have U:min (i-0) (n-i)=min i (n-i):=Ω
     simp only[aM,U];have W:Y7.wrap ((i:Int)+((min i (n-i):Nat):Int))=((i+min i (n-i):Nat):Int):=by rw[lm Ω Ω];omega
     rw[W];refine⟨⟨(p.F s).then R (by rintro r M rfl;omega),_,rfl,Ω,Ω,C⟩,?_⟩;simp only[b0,u9];omega
   .have:i=n:=Ω
    subst this;rw[U5,List.replicate_zero,V1]at q;exact⟨p,g,Ω,ao.of (bZ.full q Ξ (by simp[maxLen];omega))⟩
  .intro ay x;refine aV (λv a=>v= .bool rs/\V=a) ?_ ?_
   .rintro _ _ ⟨rfl,rfl⟩;rw[aX];exact x _ rfl
   .intro aq X;simp only[bL,ai];refine⟨λh=>Ω,λ_=>X _ _ ⟨?_,rfl⟩⟩;rw[ms];omega
 .intro ay x;simp only[aP,ai];exact⟨λh=>Ω,λ_=>x _ rfl⟩
def li(v:x1)(r:Nat):Prop:=∃a n c,v= .slice (σ a) n c/\a.block=r
theorem bE{g:Nat}(h:ao k e w g v l){r:Nat}(f:li v r):r=g/\g<w.heap.size:=by
 obtain⟨a,n,c,rfl,rfl⟩:=f;obtain⟨_,⟨h,_⟩|⟨cap,cs,h,j,_⟩⟩:=h
 .cases h
 .cases h;exact⟨rfl,j.lt⟩
theorem bk{g:Nat}(h:ao k e w g v l)(a:af S w I)(f:∀r,li v r->¬S r):ao k e I g v l:=by
 refine⟨h.1,h.2.imp id λ⟨cap,cs,h1,j,p⟩=>⟨cap,cs,h1,j.aa a (f g ⟨_,_,_,h1,rfl⟩),p⟩⟩
def ce(w:x3)(g a:Nat)(sv:x1)(szs:Λ)(k:Int)(cs:Λ):Prop:=
 (∃a1 gs,ag w g cu [sv,Δ k,a1]/\ao .i64 ae w gs sv szs/\ao .i64 ap w a a1 cs)/\(g≠a/\¬li sv a/\aA szs<=4096)/\bS szs/\cs.length=(aA szs).toNat
theorem ce.W{g e:Nat}{k:Int}{cs:Λ}(h:ce w g e sv szs k cs)(a:Ext w I):ce I g e sv szs k cs:=by
 obtain⟨⟨a1,gs,h1,f,j⟩,p⟩:=h;exact⟨⟨a1,gs,h1.W a,f.W a,j.W a⟩,p⟩
def Cu(w:x3)(l:Λ)(k a:Int)(v:x1)(I:x3):Prop:=
 Ext w I/\
  (¬bS l->v= .tuple #[.pointer ν,Δ 1])/\
  (bS l->4096<aA l->v= .tuple #[.pointer ν,Δ 5])/\
  (bS l->aA l<=4096->¬cJ a k->v= .tuple #[.pointer ν,Δ 3])/\
  (bS l->aA l<=4096->cJ a k->∃g e sv,v= .tuple #[Γ g,Δ 0]/\w.heap.size<=g/\w.heap.size<=e/\(∀r,li sv r->w.heap.size<=r)/\
   ce I g e sv l k (r8 (aA l).toNat a))
theorem sx{k A:Int}(h:aI .i64 w sv l):aj x7 xv [sv,Δ k,Δ A] w (Cu w l k A):=by
 refine az func144 ?_;refine(Cr h).X ?_;rintro v J _ ⟨K,Z,aa,ac⟩;obtain⟨aN,e,rfl,ad,he⟩:∃(aN:x1)(e:Int),v= .tuple #[.agg #[aN],Δ e]/\aN.oneCell'=ro/\
   ((e=1/\¬bS l)\/(e=5/\bS l/\4096<aA l)\/(e=0/\bS l/\aA l<=4096/\∃g,w.heap.size<=g/\ao .i64 ae J g aN l)):=by
  by_cases U:bS l
  .by_cases z:aA l<=4096
   .obtain⟨g,aN,rfl,h1,L⟩:=ac U z;exact⟨aN,0,rfl,L.ls.cells.2,.inr (.inr ⟨rfl,U,z,g,h1,L⟩)⟩
   .exact⟨_,_,aa U Ω,rfl,.inr (.inl ⟨rfl,U,Ω⟩)⟩
  .exact⟨_,_,Z U,rfl,.inl ⟨rfl,U⟩⟩
 rw[bo,bp];refine bx bn.i λaO V aP af ag=>?_;refine cb (vs:=[aN]) bn.i rfl rfl (by intro u M;simp at M;subst M;exact ad) ag ?_;intro aQ ah aR al;have N:=af.then ah (by rintro r j rfl;omega);have O:=K.F N;simp only[bJ,ai];refine⟨λam=>⟨O,?_⟩,λaS=>?_⟩
 .rcases he with⟨rfl,B⟩|⟨rfl,U,z⟩|⟨rfl,_⟩
  .exact⟨λ_=>rfl,λh=>m6 h B,λh=>m6 h B,λh=>m6 h B⟩
  .exact⟨λh=>m6 U h,λ_ _=>rfl,λ_ h=>Ω,λ_ h=>Ω⟩
  .exact m6 rfl am
 .obtain⟨rfl,U,z,gs,aT,hm⟩:e=0/\bS l/\aA l<=4096/\∃g,w.heap.size<=g/\ao .i64 ae J g aN l:=by
   rcases he with⟨rfl,B⟩|⟨rfl,U,z⟩|h
   .omega
   .omega
   .exact h
  have aU:=prod_bound U;refine lk.X ?_;rintro _ aV _ ⟨rfl,E⟩;have P:=O.F E;simp only[bA,bU];refine⟨λan=>⟨P,λh=>m6 U h,λ_ h=>Ω,λ_ _ _=>rfl,λ_ _ h=>by simp[h]at an⟩,λaq=>?_⟩;have au:cJ A k:=by simpa using aq
  simp only[cz,eu];intro Q G _ _;have av:=P.F G;have C:=(N.F E).F G;have R:=(al.W E).W G;rw[bB bn.p bn.i rfl R.range,bB bn.p bn.i rfl R.range];have s1:=K.size;have aW:=C.size;have S:((aA l).toNat:Int)=aA l:=Ω
  have W:∀{x:x3}{s:x1}{y:Nat},Ext Q x->Q.heap.size<=y->ao .i64 ap x y s (r8 (aA l).toNat A)->
    ab x7 (Instr.build cu #[(0,.agg #[aN]),(1,Δ k),(2,s)]) x λax=>aC x7 (Instr.box cu ax) x λay X=>Cu w l k A (.tuple #[ay,Δ 0]) X:=by
   intro x s y q Y j;rw[dw (cs:=#[aN,Δ k,s]) (by
    obtain⟨_,_,_,_,_,rfl,_⟩:=j.ls;obtain⟨_,_,_,_,_,rfl,_⟩:=hm.ls;kernel_rfl)]
   refine bm λg X aX H aB=>?_;have aY:=q.size;have aD:li s y:=by
    obtain⟨aZ,⟨_,aE⟩|⟨cap,cs,rfl,_⟩⟩:=j
    .simp at aE;omega
    .exact⟨_,_,_,rfl,rfl⟩
   have a1:=(bE j aD).2;refine⟨(av.F q).F H,λh=>m6 U h,λ_ h=>Ω,λ_ _ h=>m6 au h,λ_ _ _=>⟨g,y,aN,rfl,Ω,Ω,λr aF=>?_,⟨s,gs,aB,((hm.W C).W q).W H,j.W H⟩,⟨Ω,λaG=>?_,z⟩,U,Ξ⟩⟩
   .have:=(bE hm aF).1;omega
   .have:=bE hm aG;omega
  constructor
  .refine dr aw.u ap.i rfl λeB ak aH aJ a I=>⟨.inl a,?_⟩;refine(q2 ((hm.W C).W a).ls U).X ?_;rintro _ aK _ ⟨rfl,f⟩;refine⟨.inl (a.F f),?_⟩;rw[<-S];refine(Ct (I.W f).ls Ω).X ?_;rintro s x _ ⟨q,y,Y,j⟩;have aL:=a.size;have aM:=f.size;exact⟨.inl ((a.F f).F q),W ((a.F f).F q) Ω j⟩
  .refine (q2 (hm.W C).ls U).X ?_;rintro _ aH _ ⟨rfl,a⟩;refine⟨.inl a,?_⟩;refine dr aw.u ap.i rfl λeB ak aK aJ f I=>⟨.inl (a.F f),?_⟩;rw[<-S];refine(Ct I.ls Ω).X ?_;rintro s x _ ⟨q,y,Y,j⟩;have aL:=a.size;have aM:=f.size;exact⟨.inl ((a.F f).F q),W ((a.F f).F q) Ω j⟩
theorem oJ{g:Nat}{a:List x1}{o:Nat}(h:ag w g e cs)(f:∀j v,a[j]?=σ v->cs[o+j]?=σ v):w.rangeAt g o a:=λj v p=>h.cell (f j v p)
theorem Cv{g f:Nat}{t:Λ}{k:Int}{cs:Λ}(h:ce w g f sv szs k cs)(q:aI .i64 w aN t):
  aj x7 KT [Γ g,aN] w λv I=>v=mM szs t/\Ext w I:=by
 obtain⟨⟨a1,gs,r,hm,s⟩,_,U,_⟩:=h;refine az func235 ?_;rw[cW dv.u];simp only[j0,aX];rw[bR,aT cu.p rfl,bB (cs:=[sv]) bn.p bn.i rfl (oJ r (by
  intro j v a
  match j,a with
  |0,a=>exact a))]
 refine(Cp hm.ls q U).X ?_;rintro _ J _ ⟨rfl,e⟩;unfold mM;cases ct szs t 0 with
 |none=>rw[bo,bp];exact⟨rfl,e⟩
 |some n=>rw[bo,bp];exact⟨rfl,e⟩
def sy(szs t cs:Λ):x1:=match ct szs t 0 with
 |some n=>.tuple #[Δ (cs.getD n.toNat 0),Δ 0]
 |none=>.tuple #[Δ 0,Δ 3]
theorem Cw{t cs:Λ}{n:Int}(U:bS szs)(a:cs.length=(aA szs).toNat)(h:ct szs t 0=σ n):n=(n.toNat:Int)/\n.toNat<cs.length:=by
 have:=mL U.2 h;simp only[Int.zero_mul,Int.zero_add,Int.one_mul]at this;omega
theorem uL{g f:Nat}{t:Λ}{k:Int}{cs:Λ}(h:ce w g f sv szs k cs)(j:aI .i64 w aN t):
  aj x7 BS [Γ g,aN] w λv I=>v=sy szs t cs/\Ext w I:=by
 refine az func186 ?_;refine(Cv h j).X ?_;rintro _ J _ ⟨rfl,a⟩;obtain⟨⟨a1,gs,q,hm,r⟩,_,U,s⟩:=h.W a;unfold mM sy;cases hi:ct szs t 0 with
 |none=>
  rw[bo,bp];simp only[bJ,ai];exact⟨λ_=>⟨trivial,a⟩,λh=>by simp at h⟩
 |some n=>
  obtain⟨x,e⟩:=Cw U s hi;rw[bo,bp];simp only[bJ,ai];refine⟨λh=>m6 rfl h,λ_=>?_⟩;rw[aK cu.p 2 q rfl,
   fm x aw.u ap.i Ψ r.ls (x6 e)]
  refine⟨?_,a⟩;rw[u5,x6 e];rfl
def q3(szs t:Λ)(k c:Int)(cs:Λ):Λ:=match ct szs t 0 with
 |some n=>if cJ c k then cs.set n.toNat c else cs
 |none=>cs
def Cx(szs t:Λ)(k c:Int):Int:=match ct szs t 0 with
 |some _=>if cJ c k then 0 else 3
 |none=>3
theorem Cy{g f:Nat}{t:Λ}{k c:Int}{cs:Λ}(h:ce w g f sv szs k cs)(C:aI .i64 w aN t):
  aj x7 JY [Γ g,aN,Δ c] w λv I=>v=Δ (Cx szs t k c)/\af (λr=>r=f) w I/\ce I g f sv szs k (q3 szs t k c cs):=by
 refine az func146 ?_;refine(Cv h C).X ?_;rintro _ J _ ⟨rfl,a⟩;have h1:=h.W a;obtain⟨⟨a1,gs,e,hm,j⟩,_,U,q⟩:=h1;unfold mM Cx q3;cases hi:ct szs t 0 with
 |none=>
  rw[bo,bp];simp only[bJ,ai];exact⟨λ_=>⟨trivial,a.aa _,h.W a⟩,λh=>by simp at h⟩
 |some n=>
  obtain⟨P,Q⟩:=Cw U q hi;rw[bo,bp];simp only[bJ,ai];refine⟨λh=>m6 rfl h,λ_=>?_⟩;rw[aK cu.p 1 e rfl];refine lk.X ?_;rintro _ V _ ⟨rfl,s⟩;have y:=(h.W a).W s;by_cases z:cJ c k
  .simp only[z,decide_true,bA,Y6,aX,if_true];obtain⟨⟨a1,gs,e,hm,j⟩,⟨E,A⟩,U,q⟩:=y;have R:=j;obtain⟨S,⟨rfl,W⟩|⟨cap,full,rfl,G,H,K,L,B⟩⟩:=j
   .omega
   .rw[aK cu.p 2 e rfl,
     B9 aw.u ap.i Ω Ω (λ_=>rfl)]
    refine bt ap.i rfl rfl G Ω ?_;intro X x Y M;refine⟨trivial,((a.F s).aa _).F x,⟨_,gs,e.aa x Ω,bk hm x (λr N O=>A.1 (O▸N)),?_⟩,⟨E,A⟩,U,by simp[q]⟩;refine⟨Ξ,.inr ⟨cap,full.set (0+n.toNat*1) (Δ c),?_,M,by simpa using H,K,by simpa using L,?_⟩⟩
    .simp
    .simp only[U4,W7,V0]at B ⊢;rw[List.take_set,B,ints,ints,V3]
  .simp only[z,decide_false,bA,X4,bY,if_false];exact⟨trivial,(a.F s).aa _,y⟩
def c0(b:Int):Bool:=decide (b=32\/b=9\/b=10\/b=13)
def b7(b:Int):Bool:=decide (33<=b/\b<=126)
def pO:Nat->Λ->List (Λ)×Bool
 |0,_=>([],ro)
 |n+1,p=>
  match p.dropWhile c0 with
  |[]=>([],ro)
  |b::q=>
   if b7 b then
    match(b::q).dropWhile b7 with
    |[]=>([(b::q).takeWhile b7],ro)
    |c::r=>if c0 c then(((b::q).takeWhile b7)::(pO n (c::r)).1,(pO n (c::r)).2)else([],rs)
   else([],rs)
def lex(p:Λ):List (Λ)×Bool:=pO (p.length+1) p
theorem q4(f:Int->Bool):∀(l:Λ),(l.dropWhile f).length<=l.length
 |[]=>p9 _
 |x::l=>by
  rw[List.dropWhile_cons];split
  .exact Y2 (q4 f l) (Nat.le_succ _)
  omega
theorem uM{f:Int->Bool}{x:Int}(h:f x=ro):((x::l).dropWhile f).length<=l.length:=by
 grind [List.dropWhile_cons,q4]
theorem Cz:∀{n m:Nat}{p:Λ},p.length<n->p.length<m->pO n p=pO m p
 |n+1,m+1,p,j,hm=>by
  unfold pO;have h1:=q4 c0 p;cases f:p.dropWhile c0 with
  |nil=>rfl
  |cons b q=>
   rw[f]at h1;simp only;by_cases a:b7 b=ro
   .rw[m3 a,m3 a];have e:=uM (l:=q) a;cases h:(b::q).dropWhile b7 with
    |nil=>rfl
    |cons c r=>
     rw[h]at e;simp only[Y3]at h1 e;simp only;rw[Cz (n:=n) (m:=m) (p:=c::r) (by grind) (by grind)]
   grind
theorem mN(p:Λ):lex p=match p.dropWhile c0 with
  |[]=>([],ro)
  |b::q=>
   if b7 b then
    match(b::q).dropWhile b7 with
    |[]=>([(b::q).takeWhile b7],ro)
    |c::r=>if c0 c then(((b::q).takeWhile b7)::(lex (c::r)).1,(lex (c::r)).2)else([],rs)
   else([],rs):=by
 unfold lex
 conv=>lhs;unfold pO
 have h1:=q4 c0 p;cases a:p.dropWhile c0<;>grind [uM,Cz]
theorem q5:∀(n:Nat)(p:Λ),p.length<=n->(lex p).1.length<=p.length
 |n,p,s=>by
  rw[mN];have h1:=q4 c0 p;cases f:p.dropWhile c0 with
  |nil=>simp
  |cons b q=>
   rw[f]at h1;simp only;by_cases a:b7 b=ro
   .rw[m3 a];have e:=uM (l:=q) a;cases h:(b::q).dropWhile b7 with
    |nil=>grind
    |cons c r=>
     rw[h]at e;simp only[Y3]at h1 e;simp only;by_cases j:c0 c=ro
     .rw[m3 j]
      match n with
      |0=>omega
      |n+1=>
       have:=q5 n (c::r) (by grind)
       grind
     grind
   grind
theorem uN:∀(n:Nat)(p:Λ),p.length<=n->∀w∈(lex p).1,w≠[]/\(∀b∈w,b7 b=ro)/\w.length<=p.length
 |n,p,y,w,hw=>by
  rw[mN]at hw;have h1:=q4 c0 p;cases f:p.dropWhile c0 with
  |nil=>grind
  |cons b q=>
   rw[f]at h1 hw;simp only at hw;have z:(b::q).length<=p.length:=h1;by_cases a:b7 b=ro
   .rw[m3 a]at hw;have e:=uM (l:=q) a;have h:(b::q).takeWhile b7≠[]/\(∀x∈(b::q).takeWhile b7,b7 x=ro)/\((b::q).takeWhile b7).length<=p.length:=
     by grind [List.takeWhile_cons,List.all_takeWhile,List.takeWhile_sublist]
    cases j:(b::q).dropWhile b7 with
    |nil=>
     grind
    |cons c r=>
     rw[j]at e hw;simp only[Y3]at h1 e;simp only at hw;by_cases s:c0 c=ro
     .rw[m3 s]at hw;rcases T5.1 hw with rfl|hw
      .exact h
      .match n with
       |0=>omega
       |n+1=>
        have:=uN n (c::r) (by grind) w hw
        grind
     grind
   grind
def au:Int:=4611686018427387904
def gI(b:Int):Bool:=decide (48<=b/\b<=57)
def fE(n b:Int):Int:=min au (10*n+(b-48))
def lY:Λ->Option Int
 |[]=>ν
 |l=>if l.all gI then σ (l.foldl fE 0)else ν
def ib:Λ->Option Int
 |45::l=>(lY l).map λn=>-n
 |l=>lY l
theorem xR:∀{l:Λ}{n:Int},l.all gI=ro->0<=n/\n<=au->0<=l.foldl fE n/\l.foldl fE n<=au
 :=by
 intro a;induction a<;>grind [gI,fE]
structure aG where
 d8:List (Λ)
 m1:Int
 big:Bool
 m2:List (Λ×List (Λ×Int))
deriving DecidableEq
def dS(s:aG):Option (Λ×aG):=match s.d8 with
 |[]=>ν
 |w::l=>σ (w,{s with d8:=l})
def bc(lo hi:Int)(s:aG):Option (Int×aG):=match dS s with
 |none=>ν
 |some (w,s)=>match ib w with
  |none=>ν
  |some n=>if lo<=n/\n<=hi then σ (n,s)else ν
def ba(b:Bool)(s:aG):aG:={s with big:=s.big||b}
def c3{α:Type}(f:List α->aG->Option (α×aG)):Nat->List α->aG->Option (List α×aG)
 |0,acc,s=>σ (acc,s)
 |n+1,acc,s=>match f acc s with
  |none=>ν
  |some (a,s)=>c3 f n (acc++[a]) s
def ff(n:Int)(a:Nat)(s:aG):Option (Λ×aG):=c3 (λacc s=>match bc 0 (n-1) s with
 |none=>ν
 |some (v,s)=>if v∈acc then ν else σ (v,s)) a [] s
def kC:Λ->Λ->aG->Option (Λ×aG)
 |[],acc,s=>σ (acc,s)
 |k::l,acc,s=>match bc 0 (k-1) s with
  |none=>ν
  |some (v,s)=>kC l (acc++[v]) s
def eP(co:Λ)(acc:List (Λ×Int))(s:aG):Option ((Λ×Int)×aG):=match kC co [] s with
 |none=>ν
 |some (t,s)=>match bc 0 au s with
  |none=>ν
  |some (c,s)=>if t∈acc.map (·.1)then ν else σ ((t,c),s)
def dM(co:Λ)(s:aG):Option (List (Λ×Int)×aG):=match bc (-au) au s with
 |none=>ν
 |some (n,s)=>
  if n<0 then match s.m2[(-n-1).toNat]? with
   |none=>ν
   |some (z,l)=>if z=co then σ (l,s)else ν
  else c3 (eP co) n.toNat [] (ba (decide (16384<min (s.m1+n) au)) {s with m1:=min (s.m1+n) au})
def dD(co:Λ):Bool:=decide (4096<aA (co.map λk=>min k 4097))
structure cq where
 scope:Λ
 co:Λ
 other:Int
 lines:List (Λ×Int)
deriving DecidableEq
def dl(all:Λ)(s:aG):Option (cq×aG):=match bc (-au) au s with
 |none=>ν
 |some (a,s)=>match ff all.length a.natAbs s with
  |none=>ν
  |some (scope,s)=>
   let co:=scope.map λv=>all.getD v.toNat 0
   match bc 0 au (ba (decide (6<a.natAbs)||dD co) s)with
   |none=>ν
   |some (other,s)=>match dM co s with
    |none=>ν
    |some (lines,s)=>σ (⟨scope,co,other,lines⟩,if a<0 then{s with m2:=s.m2++[(co,lines)]}else s)
def fR(most:Int)(_:Λ)(s:aG):Option (Int×aG):=match bc 1 most s with
 |none=>ν
 |some (z,s)=>σ (z,ba (decide (32<z)) s)
structure b5 where
 name:Λ
 k:Int
 co:Λ
 d7:List cq
deriving DecidableEq
def iR(s:aG):Option (b5×aG):=match dS s with
 |none=>ν
 |some (name,s)=>match bc 1 au (ba (decide (64<name.length)) s)with
  |none=>ν
  |some (n,s)=>match bc 1 au (ba (decide (64<n)) s)with
   |none=>ν
   |some (most,s)=>match bc 0 au s with
    |none=>ν
    |some (count,s)=>match bc 1 au (ba (decide (256<count)) s)with
     |none=>ν
     |some (k,s)=>match c3 (fR most) n.toNat [] (ba (decide (2147483648<k)) s)with
      |none=>ν
      |some (co,s)=>match c3 (λ_ s=>dl co s) count.toNat [] s with
       |none=>ν
       |some (d7,s)=>σ (⟨name,k,co,d7⟩,s)
def eC(p:Λ):Option b5:=if 65536<p.length then ν else match iR ⟨(lex p).1,0,rs,[]⟩with
 |none=>ν
 |some (f,s)=>if s.d8=[]/\(lex p).2=ro/\s.big=rs then σ f else ν
def oK(n:Int)(a:Bool)(v:Int):Prop:=0<=n/\n<=4611686018427387909/\(a=ro->v=au)/\(a=rs->v=min au n)
theorem L0{n b v:Int}{a:Bool}(h:oK n a v)(e:48<=b/\b<=57):
  oK (if a=ro\/461168601842738790<n then n else 10*n+(b-48)) (a||decide (461168601842738790<n)) (fE v b):=by
 obtain⟨h1,f,j,p⟩:=h;unfold fE oK au at*;cases a<;>grind
theorem L1:oK 0 rs 0:=by grind [oK,au]
theorem L2{n v:Int}{a:Bool}(h:oK n a v):v=if a=ro\/4611686018427387904<n then 4611686018427387904 else n:=by
 obtain⟨h1,e,f,j⟩:=h
 grind [au]
structure Cell where
 v:Int
 st:Nat
structure mO where
 i:Nat
 c:Cell
structure uO where
 olds:Nat
 cells:Nat
 st:Nat
structure av where
 cells:List Cell
 olds:List mO
 marks:List uO
 kD:Nat
def av.bO(t:av):Λ:=t.cells.map (·.v)
def av.set(t:av)(i:Nat)(x:Int):av:=match t.cells[i]? with
 |none=>t
 |some c=>match t.marks.getLast? with
  |none=>{t with cells:=t.cells.set i ⟨x,c.st⟩}
  |some m=>if c.st<m.st/\i<m.cells then{t with olds:=t.olds++[⟨i,c⟩],cells:=t.cells.set i ⟨x,m.st⟩}else{t with cells:=t.cells.set i ⟨x,c.st⟩}
def av.grow(t:av)(n:Nat):av:={t with cells:=t.cells++r8 n ⟨0,0⟩}
def back(os:List mO)(cs:List Cell):List Cell:=os.foldr (λo cs=>cs.set o.i o.c) cs
theorem L3:∀(os:List mO)(cs:List Cell),(back os cs).length=cs.length
 :=by
 intro a;induction a<;>grind [back]
theorem back_append(a b:List mO)(cs:List Cell):back (a++b) cs=back a (back b cs):=by grind [back]
theorem L4:∀{os:List mO}{cs:List Cell}{n:Nat},(back os cs).take n=back (os.filter λo=>decide (o.i<n)) (cs.take n)
 :=by
 intro a;induction a<;>grind [back,List.take_set,List.take_set_of_le]
theorem L5{os:List mO}{cs:List Cell}(h:∀o∈os,o.i<n):(back os cs).take n=back os (cs.take n):=by
 grind [L4,List.filter_eq_self]
theorem CA:∀{os:List mO}{cs a:List Cell}{i:Nat},cs.length=a.length->(∃o∈os,o.i=i)->(back os cs)[i]?=(back os a)[i]?
 |[],_,_,_,_,⟨_,h,_⟩=>by cases h
 |o::os,cs,a,i,f,hm=>by
  show((back os cs).set o.i o.c)[i]?=((back os a).set o.i o.c)[i]?;rw[Y4,Y4];by_cases h:o.i=i
  .grind [L3]
  .rw[m5 h,m5 h];obtain⟨x,e,he⟩:=hm;rcases T5.1 e with rfl|e
   .omega
   .exact CA f ⟨x,e,he⟩
theorem L6:∀{os:List mO}{cs e:List Cell}{i:Nat},cs[i]?=e[i]? ->cs.length=e.length->(back os cs)[i]?=(back os e)[i]?
 :=by
 intro a;induction a<;>grind [back]
def gJ:av->List av->Prop
 |t,[]=>t.marks=[]/\t.olds=[]/\(∀c∈t.cells,c.st<=t.kD)/\t.kD<=1000000
 |t,s::h=>gJ s h/\(∀c∈t.cells,c.st<=t.kD)/\∃m new,t.marks=s.marks++[m]/\m.olds=s.olds.length/\m.cells=s.cells.length/\t.olds=s.olds++new/\m.cells<=t.cells.length/\(back new t.cells).take m.cells=s.cells/\
   (∀c∈s.cells,c.st<m.st)/\(∀c∈t.cells,c.st<=m.st)/\(∀(i:Nat)c,i<m.cells->t.cells[i]?=σ c->c.st=m.st->∃o∈new,o.i=i)/\(∀o∈new,o.i<m.cells)/\m.st<=t.kD/\s.kD<=t.kD
theorem gJ.len:∀{h:List av}{t:av},gJ t h->t.marks.length=h.length
 :=by
 intro a;induction a<;>grind [gJ]
theorem gJ.grow{h:List av}{t:av}(hk:gJ t h):gJ (t.grow n) h:=by
 cases h with
 |nil=>
  refine⟨hk.1,hk.2.1,λc a=>?_,hk.2.2.2⟩;rcases o9.1 a with a|a
  .exact hk.2.2.1 c a
  grind
 |cons s h=>
  obtain⟨h1,f,m,new,j,p,a3,a4,a5,z,q,r,a9,w,x,y⟩:=hk;have e:∀{b:Nat},(∀c∈t.cells,c.st<=b)->∀c∈(t.grow n).cells,c.st<=b:=λA c a=>by
   rcases o9.1 a with a|a
   all_goals grind
  refine⟨h1,e f,m,new,j,p,a3,a4,by show m.cells<=(t.cells++_).length;grind,?_,q,e r,λi c hi a he=>?_,w,x,y⟩
  .show (back new (t.cells++_)).take m.cells=_
   grind [L5]
  .have a:(t.cells++r8 n ⟨0,0⟩)[i]?=σ c:=a
   grind
theorem L7{s:av}{m:uO}{l:List uO}(h:l=s.marks++[m]):l.getLast? =σ m:=by grind
theorem gJ.set{h:List av}{t:av}{i:Nat}{x:Int}(hk:gJ t h):gJ (t.set i x) h:=by
 unfold av.set;cases w:t.cells[i]? with
 |none=>exact hk
 |some c=>
  have K:=(x4.1 w).1;have f:=x5 w;have e:∀{b st:Nat},(∀c∈t.cells,c.st<=b)->st<=b->∀d∈t.cells.set i ⟨x,st⟩,d.st<=b:=by grind
  cases h with
  |nil=>
   obtain⟨h1,a,y,F⟩:=hk;simp only[h1,List.getLast?_nil];exact⟨rfl,a,e y (y c f),F⟩
  |cons s h=>
   obtain⟨h1,a,m,new,p,z,a3,a4,a5,G,A,B,a9,H,q,C⟩:=hk;simp only[L7 p];by_cases E:c.st<m.st/\i<m.cells
   .rw[m3 E];refine⟨h1,e a q,m,new++[⟨i,c⟩],p,z,a3,by grind,by grind,?_,A,by grind,λj d I r he=>?_,λo L=>?_,q,C⟩
    .show (back (new++[⟨i,c⟩]) (t.cells.set i _)).take m.cells=_;rw[back_append];have:back [⟨i,c⟩] (t.cells.set i ⟨x,m.st⟩)=t.cells:=by
      show(t.cells.set i _).set i c=_;rw[List.set_set];refine j5 λj=>?_
      grind
     grind
    .have r:(t.cells.set i ⟨x,m.st⟩)[j]?=σ d:=r;by_cases J:i=j
     .exact⟨⟨i,c⟩,Ξ,J⟩
     grind
    grind
   .rw[m5 E];refine⟨h1,e a (a c f),m,new,p,z,a3,a4,by grind,?_,A,e B (B c f),λj d I r he=>?_,H,q,C⟩
    .rw[<-G];show(back new (t.cells.set i _)).take m.cells=_;refine j5 λj=>?_
     grind [CA,L6]
    grind
theorem av.q6{t:av}{i:Nat}{x:Int}:(t.set i x).bO=t.bO.set i x:=by
 grind [av.set,av.bO,List.set_eq_of_length_le,V3]
theorem av.L8{t:av}:(t.grow n).bO=t.bO++r8 n 0:=by
 grind [av.grow,av.bO,List.map_replicate]
end Go.Proofs.YtkcigodpbndobaaGreatDoor
namespace Go.Vc
open Go Go.RowKit
section
variable{P:X5}{w:x3}{m:Bool}{S R:ah}
theorem uP{b k l:Nat}{low high:Option x1}(j:P.underlying t=σ (.slice e))(hi:aR P e k b z)(a:b4 w k v n cs)(h1:nK low l)(p:nL high n h)(q:l<=h)(an:h<=n)(r:∀f,b4 w k f (h-l) ((cs.drop (l*k)).take ((h-l)*k))->K f):
  ab P (V4 t v low high ν) w K:=by
 have s:=a;obtain⟨_,x,o,base,cap,rfl,y,_⟩:=a;rw[eA j hi h1 p dZ q Ω (p9 _)]
 grind [b4.part]
theorem uQ{b i:Nat}(j:y=(i:Int))(p:P.underlying t=σ (.slice e))(hi:aR P e 1 b z)(h:aI k w v l)(q:i<=l.length)(r:∀a,aI k w a (l.drop i)->K a):ab P (V4 t v (σ (.int f y)) ν ν) w K:=by
 refine uP p hi h (mI i y j) gW q (p9 _) λa bi=>r a (aI.of (n:=l.length-i) ?_)
 grind [n9,List.map_drop]
theorem L9{b i:Nat}(j:y=(i:Int))(p:P.underlying t=σ (.slice e))(hi:aR P e 1 b z)(h:aI k w v l)(q:i<=l.length)(r:∀a,aI k w a (l.take i)->K a):ab P (V4 t v ν (σ (.int f y)) ν) w K:=by
 refine uP p hi h iP (nM i y j) (X7 _) q λa bi=>r a (aI.of (n:=i) ?_)
 grind [S7]
theorem uR{b:Nat}{parts:Array (Nat×x1)}{K:x1->x3->Prop}(a:P.underlying t=σ (.slice e))(hi:aR P e 1 b (Δ 0))(x:n<=100000)(f:l.length=n)(h:Instr.fill (λj=>σ (j*1,1)) ((Array.range (n*1)).map ((if n*1=0 then#[]else(X2 .i64 0).cells)[·% (if n*1=0 then#[]else(X2 .i64 0).cells).size]!)) parts.toList=σ (ints .i64 l).toArray)(p:∀v g I,g=w.heap.size->Ext w I->ao .i64 e I g v l->K v I):aC P (Y1 t n parts) w K:=
 lU a hi Ω h λg I q r s=>p _ g I q r (ao.of (bZ.full (by simpa using s) (by simp[f]) (by simp[maxLen];omega)))
end
section
variable{P:X5}{w:x3}
theorem CB{a f:r9}{h kn:o5}{b k:Nat}{base:Option Q0}{K:x1->x3->Prop}(r:y=(k:Int))(s:P.underlying t=σ (.slice e))(x:P.underlying a=σ (.int kn))(hi:aR P e 1 b z)(A:z.cells= #[z])(U:b4 w 1 (.slice base n cap) n xs)(B:0<k)(p:cap<n+k)(C:(n+k)*b<=140737488355328)(S:n+k<=9223372036854775807)(E:∀v g I,g=w.heap.size->Ext w I->bZ I g e 1 v (n+k) (xs++r8 k z)->K v I):aC P (j6 #[t,a] f #[.slice base n cap,.int h y]) w K:=by
 subst r;obtain⟨i,hi,T,rfl,F⟩:=hi;obtain⟨V,W,o,X,Y,he,Z,aa,G,H⟩:=U;cases he;have J:(j9.firstCells i.size n (.slice base n cap)).run P w.drew= .ok xs.toArray w.drew:=by
  rcases Nat.eq_zero_or_pos n with rfl|L
  .have:xs=[]:=by grind
   subst this;cases base<;>grind [run_firstCells_none,run_firstCells_some]
  .have:=G L;subst this;refine run_firstCells_some w.drew i.size n _ n cap xs (by grind) λj u M=>?_;rw[W5];exact H j u M
 have N:k*i.bytes<=281474976710656:=by
  grind
 have O:=Lib.run_append_grow_zeros (P:=P) w t a f e i z h kn s x hi F base n cap xs J k B Ω p Ω N (growslice_fits p C);have Q:n+k<=grownCap w (n+k) cap e:=grownCap_ge w _ _ _;have R:grownCap w (n+k) cap e<=maxLen:=by grind [grownCap_le_maxLen,maxLen]
 have q:∀m,S8 z.cells m=(r8 m z).toArray:=λm=>by
  rw[A];apply Array.ext
  all_goals grind [S8]
 refine .of O ((qG w _ (Nat.le_succ _)).F (qI _ _)) (E _ w.heap.size _ rfl ((r3 w _).F (qH _ _)) ⟨by grind,.inr ⟨_,xs++r8 k z++r8 (grownCap w (n+k) cap e-(n+k)) z,rfl,?_,Q,R,?_,?_⟩⟩)
 .rw[q,q];have:=heap_alloc_new w.drew (.cells (xs.toArray++(r8 k z).toArray++(r8 (grownCap w (n+k) cap e-(n+k)) z).toArray) e);rw[List.append_toArray,List.append_toArray]at this ⊢;exact this
 all_goals grind
theorem CC{g:Nat}(h:ag w g e cs):w.shape? g=σ (e,cs.length):=by
 grind [ag,x3.shape?]
theorem xS{a:r9}{base:Option Q0}(f:P.underlying t=σ (.slice e)):
  ab P (j9.cap_ #[t] a #[.slice base n c]) w K=K (Δ c):=ab.of λI _=>by simp[j9.cap_,run_underlying f,goInt]
theorem CD{g o k:Nat}(h:ag w g e cs)(hk:o+k<=cs.length)(f:k<=c)(p:c<=maxLen):b4 w 1 (.slice (σ ⟨g,o,ν⟩) k c) k ((cs.drop o).take k):=by
 refine⟨Θ,g,o,_,c,rfl,f,p,λ_=>rfl,λj v a=>?_⟩;have q:=(x4.1 a).1;simp at q;rw[Y5 Ω,List.getElem?_drop]at a;exact h.cell a
theorem Ma{f p q:r9}{J g o ec s:Nat}{x:x1}{base:Option Q0}{C:r9}{K:x1->x3->Prop}(E:P.underlying f=σ (.slice e))(hi:aR P e 1 J z)(a:ag w g C cs)(L:0<ec->base=σ ⟨g,o,ν⟩)(X:o+ec<=cs.length)(U:b4 w 1 x n xs)(h1:∀u∈xs.take ec,u.oneCell'=ro)(h:∀I,af (λr=>r=g) w I->I.heap.size=w.heap.size->ag I g C (over cs o (xs.take ec))->K (Δ (min n ec:Nat)) I):
  aC P (j9.copy_ #[f,p] q #[.slice base ec s,x]) w K:=by
 obtain⟨M,b,o',N,cap,rfl,_,_,O,Q⟩:=U;simp only[V0]at M;have F:(P.info? e).map (·.size)=σ 1:=hi.size;by_cases y:Nat.min n ec=0
 .have he:xs.take ec=[]:=by grind
  rw[he]at h;refine .of (run_copy_none (P:=P) w f p q e base N ec s n cap E F y) (cC.refl _) ?_;have G:min n ec=0:=y;rw[G]at h;exact h w (af.refl _ _) rfl a
 .have G:min n ec≠0:=y;have R:=O Ω;have S:=L Ω;subst R;subst S;have H:(xs.take ec).length=min n ec:=by grind
  obtain⟨T,A⟩:=nO (xs.take ec) cs o w a;have V:=run_copy_cells (P:=P) w f p q e g o ec s ⟨b,o',ν⟩ n cap (xs.take ec) E F H
   (λj u B=>by
    rw[W5];have W:=(x4.1 B).1;rw[Y5 Ω]at B;exact Q j u B)
   (λj W=>by rw[a.cell (x6 Ω)];rfl) (λj _=>a.frozen _ _) Ω
  refine .of V (A.cD a) ?_;rw[H];exact h _ A.aa A.size T
theorem Mb{a p B q:r9}{C g m:Nat}{x:x1}{K:x1->x3->Prop}(E:P.underlying t=σ (.slice e))(s:P.underlying a=σ (.slice B))(hi:aR P e 1 C z)(f:ag w g q cs)(U:b4 w 1 x m news)(h1:∀u∈news,u.oneCell'=ro)(F:n+m<=cap)(M:cap<=cs.length)(G:∀I,af (λr=>r=g) w I->I.heap.size=w.heap.size->ag I g q (over cs n news)->K (.slice (σ ⟨g,0,ν⟩) (n+m) cap) I):aC P (j6 #[t,a] p #[.slice (σ ⟨g,0,ν⟩) n cap,x]) w K:=by
 obtain⟨i,hi,y,rfl,N⟩:=hi;have H:news.length=m:=by simpa using U.1
 have J:Src P i.size a x m news w:=by
  rw[y];rcases Nat.eq_zero_or_pos m with rfl|hm
  .have:news=[]:=Z0 H;subst this;exact U.Cd s
  .exact U.src s h1 hm
 have A:=run_append_room_src (P:=P) w t a p e i E hi g 0 n cap x m news J F
  (λj O=>by rw[f.cell (x6 (by grind))];rfl) (λj _=>f.frozen _ _)
 rw[y,V0,W7]at A;obtain⟨L,h⟩:=nO news cs n w f;exact .of A (h.cD f) (G _ h.aa h.size L)
theorem xT{h p:r9}{q g o:Nat}{K:x1->x3->Prop}(s:P.underlying t=σ (.slice e))(hi:aR P e 1 q z)(x:z.cells= #[z])(h1:z.oneCell'=ro)(a:ag w g p cs)(y:0<n)(F:o+n<=cs.length)(A:∀I,af (λr=>r=g) w I->I.heap.size=w.heap.size->ag I g p (over cs o (r8 n z))->K (.tuple #[]) I):aC P (j9.clear_ #[t] h #[.slice (σ ⟨g,o,ν⟩) n cap]) w K:=by
 obtain⟨i,hi,G,rfl,B⟩:=hi;have C:=Lib.run_clear_slice (P:=P) w t e h z s (λw=>by simp[zeroValue,typeInfo,hi,B]) x h1 g o n cap y
  (λj H=>by rw[a.cell (x6 Ω)];rfl) (λj _=>a.frozen _ _)
 obtain⟨E,f⟩:=nO (r8 n z) cs o w a;exact .of C (f.cD a) (A _ f.aa f.size E)
end
section
variable{P:X5}{w:x3}
theorem iy{a:r9}{i b g:Nat}(j:y=(i:Int))(p:P.underlying t=σ (.slice e))(hi:aR P e 1 b z)(h:ao k a w g v l)(q:i<l.length):ab P (j4 t v (.int f y)) w K=K (.pointer (σ ⟨g,i,ν⟩)):=by
 subst j;obtain⟨_,⟨_,r⟩|⟨cap,cs,rfl,_⟩⟩:=h
 .omega
 .rw[fv p hi q (λ_=>rfl)];simp
theorem pP{i b:Nat}{x:Int}(j:y=(i:Int))(p:P.underlying t=σ (.slice e))(hi:aR P e 1 b z)(h:aI k w v l)(a:l[i]?=σ x)(q:∀b o,w.cell? ⟨b,o,ν⟩=σ (.int k x)->K (.pointer (σ ⟨b,o,ν⟩))):ab P (j4 t v (.int f y)) w K:=by
 subst j;have r:=(x4.1 a).1;obtain⟨_,_,_,_,_,rfl,_,_,s,A⟩:=h;rw[fv p hi r s,V0];exact q _ _ (A i _ (mK a))
theorem iz{a:r9}{i b g:Nat}{x:Int}{K:Unit->x3->Prop}(hi:aR P e 1 b z)(h:ao k a w g v l)(A:i<l.length)(f:∀I,af (λr=>r=g) w I->I.heap.size=w.heap.size->ao k a I g v (l.set i x)->K () I):aC P (o7 e (.pointer (σ ⟨g,i,ν⟩)) (.int k x)) w K:=by
 obtain⟨B,⟨_,C⟩|⟨cap,full,rfl,j,E,p,F,G⟩⟩:=h
 .omega
 .have q:i<full.length:=Ω
  refine bt hi rfl rfl j q λI s U y=>f I s U ⟨Ξ,.inr ⟨cap,full.set i (.int k x),Ξ,y,by grind,p,by grind,?_⟩⟩
  grind [List.take_set,V3]
theorem mP{b o:Nat}(a:lh P t=ro)(h:w.cell? ⟨b,o,ν⟩=σ v):cE P (u4 t (.pointer (σ ⟨b,o,ν⟩))) v w:=λI f=>by
 have bi:=jY f h;unfold lh at a;cases e:P.underlying t with
 |none=>grind
 |some d=>
  rw[e]at a;cases d<;>first|(cases a;done)|simp[u4,Instr.sureAddr,loadVar,isAgg,run_underlying e,bi]
theorem jk{S:ah}(h:aI k w v l)(x:af S w I)(y:∀r,S r->∀a n c,v= .slice (σ a) n c->a.block≠r):aI k I v l:=by
 obtain⟨h1,b,o,base,cap,rfl,p,q,e,z⟩:=h;refine⟨h1,b,o,base,cap,rfl,p,q,e,?_⟩;rcases Nat.eq_zero_or_pos l.length with f|f
 .intro j u A
  grind
 .have s:=e f;subst s
  grind [gH]
end
end Go.Vc
namespace Go.Vc
open Go Go.RowKit Go.ChangeShapes Go.WideShapes
structure oL(P:X5)(t:r9)(α:Type)[aq α](G:α->Prop):Prop where
 op:∀{H:Type}{enc:r9×x1->H}{w:x3}{base:Nat}{spare:Nat->Bool}{held:Bool}{fuel:Nat}{cs:List x1}{x:DataW H×List MemPlace},
  DataW.trod enc P w base spare held fuel t cs=σ x->∃a:α,Seen fo w cs a/\G a
section
variable{P:X5}{α β:Type}[aq α][aq β]
theorem CE{n:Int}(h:(Lit.int k n).wf=ro):k.min<=n/\n<=k.max:=by grind [Lit.wf]
theorem Mc(a:P.underlying t=σ (.int k)):oL P t (nP k) λn=>k.min<=n.val/\n.val<=k.max:=⟨λh=>by
 obtain⟨n,rfl,_,hw⟩:=DataW.trod_int a h;exact⟨(n:Int),rfl,CE hw⟩⟩
theorem uS(a:P.underlying t=σ (.int .i64)):oL P t Int λn=>Y7.min<=n/\n<=Y7.max:=⟨λh=>by
 obtain⟨n,rfl,_,hw⟩:=DataW.trod_int a h;exact⟨n,rfl,CE hw⟩⟩
theorem Md(a:Q0)(m n:Nat):(a.add m).add n=a.add (m+n):=by
 grind [Q0.add]
theorem Me{base:Nat}{a:Q0}(h:w.cells? base a n=σ cs):cs.length=n/\∀j v,cs[j]?=σ v->w.cell? (a.add j)=σ v:=by
 unfold x3.cells? at h;split at h
 .have e:cs.length=n:=by
   have:=mapM_some_length h
   grind
  refine⟨e,λj v f=>?_⟩;have p:=(x4.1 f).1;have:=mapM_some_get h j j (List.getElem?_range Ω)
  grind
 .cases h
theorem Mf{G:α->Prop}(E:P.underlying t=σ (.slice e))(he:oL P e α G)(F:P.cellsOf e=aq.n α)(N:0<aq.n α):oL P t (List α) λl=>∀a∈l,G a:=by
 constructor;intro H enc w base O Q fuel cs x h;rcases DataW.trod_slice E h with⟨rfl,_⟩|⟨a,len,cap,R,rest,n,_,rfl,rfl,S,T,hm,U,I,_,_⟩
 .exact⟨[],iQ,by grind⟩
 .
  have A:∀i,i<len->∃(c:List x1)(y:α),c.length=aq.n α/\(∀j v,c[j]?=σ v->w.cell? (a.add (i*aq.n α+j))=σ v)/\Seen fo w c y/\G y:=by
   intro i hi;have h1:=I i hi;rw[x6 Ω,F,Option.bind_eq_some_iff]at h1;obtain⟨c,f,p⟩:=h1;obtain⟨B,q⟩:=Me f;obtain⟨y,r,V⟩:=he.op p
   grind [Md]
  have all:∀m,m<=len->∃(vs:List (List x1))(l:List α),vs.length=m/\l.length=m/\(∀c∈vs,c.length=aq.n α)/\(∀(j:Nat)(v:x1),vs.flatten[j]?=σ v->w.cell? (a.add j)=σ v)/\
    (∀(i:Nat)(c:List x1)(y:α),vs[i]?=σ c->l[i]?=σ y->Seen fo w c y)/\∀y∈l,G y:=by
   intro m;induction m with
   |zero=>exact λ_=>⟨[],[],rfl,rfl,by grind,by grind,by grind,by grind⟩
   |succ m J=>
    intro hm;obtain⟨vs,l,h1,f,p,B,q,r⟩:=J Ω;obtain⟨c,y,g1,C,W,X⟩:=A m Ω;refine⟨vs++[c],l++[y],by simp[h1],by simp[f],λd K=>?_,λj v L=>?_,λi d z K M=>?_,λz M=>?_⟩
    .grind
    .have s:=kz p
     grind
    all_goals grind
  obtain⟨vs,l,h1,f,p,B,q,r⟩:=all len (p9 _);have s:=kz p;rw[h1]at s;have Y:0<len->a=⟨a.block,a.off,ν⟩:=λZ=>by
   obtain⟨c,y,g1,C,_⟩:=A 0 Ω;have:=C 0 c[0] (x6 Ω);rw[Nat.zero_mul]at this;exact xM this
  refine⟨l,⟨_,rfl,vs,0,λ_ _=>False,⟨by grind,by grind,by grind⟩,⟨Ω,q⟩,⟨by rw[s,f],a.block,a.off,σ a,cap,by rw[f],Ω,hm,by grind,by grind,λj v L=>?_⟩,by grind⟩,r⟩
  grind [W5]
structure uT(P:X5)(fs:List Field)(off:Nat)(α:Type)[aq α](G:α->Prop):Prop where
 op:∀{H:Type}{enc:r9×x1->H}{w:x3}{base:Nat}{spare:Nat->Bool}{held:Bool}{n:Nat}{cs:List x1},cs.length=off+aq.n α->
  (∀f∈fs,∃x,DataW.trod enc P w base spare held n f.type ((cs.drop f.offset).take (P.cellsOf f.type))=σ x)->∃a:α,Seen fo w (cs.drop off) a/\G a
theorem Mg{f:Field}{G:α->Prop}(h:oL P f.type α G)(p:f.offset=off)(q:P.cellsOf f.type=aq.n α):uT P [f] off α G:=by
 constructor;intro H enc w base r s n cs y e;obtain⟨x,j⟩:=e f (.head _);obtain⟨a,h1,z⟩:=h.op j
 grind [n9]
theorem uU{f:Field}{e:List Field}{G:α->Prop}{j:β->Prop}(h:oL P f.type α G)(r:f.offset=off)(s:P.cellsOf f.type=aq.n α)(y:uT P e (off+aq.n α) β j):
  uT P (f::e) off (α×β) λp=>G p.1/\j p.2:=by
 constructor;intro H enc w base F I n cs J q;obtain⟨x,z⟩:=q f (.head _);obtain⟨a,h1,A⟩:=h.op z;rw[r,s]at h1;have K:aq.n (α×β)=aq.n α+aq.n β:=rfl;obtain⟨b,B,C⟩:=y.op Ω λg E=>q g (.tail _ E);refine⟨(a,b),⟨(cs.drop off).take (aq.n α),cs.drop (off+aq.n α),λ_=>False,λ_=>False,?_,λ_ h=>h,λ_ h=>h,by grind,h1,B⟩,A,C⟩;rw[<-List.drop_drop,List.take_append_drop]
theorem Mh{a:List Field}{G:α->Prop}(e:P.underlying t=σ (.struct a.toArray))(j:uT P a 0 α G)(s:P.cellsOf t=aq.n α):oL P t α G:=by
 constructor;intro H enc w base y z fuel cs x h;obtain⟨xs,n,_,rfl,A,B,p⟩:=DataW.trod_struct e h;have:=j.op (cs:=cs) Ω λf q=>by
  obtain⟨i,hi,rfl⟩:=List.mem_iff_getElem.1 q;have r:i<xs.length:=by grind
  have:=p i a[i] (by simp[hi]);rw[x6 r]at this;exact⟨_,this⟩
 grind
end
end Go.Vc
namespace Go.Vc
open Go Go.RowKit
set_option maxRecDepth 100000
theorem Mi:(⟨#[]⟩:ByteArray)=strOfNums []:=rfl
theorem Mj{ay:x1->x1->x1->x3->Prop}{B:(x1->x1->x1->x3->Prop)->Prop}(G:x1->x1->x1->x3->Prop)(h1:∀t u v w,G t u v w->ay t u v w)(e:∀a:x1->x1->x1->x3->Prop,(∀t u v w,G t u v w->a t u v w)->B a):cz ay B:=e ay h1
theorem CF{ay:x1->x1->x1->x1->x3->Prop}{B:(x1->x1->x1->x1->x3->Prop)->Prop}(G:x1->x1->x1->x1->x3->Prop)(h1:∀s t u v w,G s t u v w->ay s t u v w)(e:∀a:x1->x1->x1->x1->x3->Prop,(∀s t u v w,G s t u v w->a s t u v w)->B a):cz ay B:=e ay h1
abbrev cc(l:Λ):x1:=.string (strOfNums l)
def Bytes(l:Λ):Prop:=∀b∈l,0<=b/\b<256
theorem pQ(l:Λ):(strOfNums l).size=l.length:=strOfNums_size l
theorem Mk(h:Bytes l){i:Nat}{b:Int}(hi:l[i]?=σ b):(strOfNums l)[i]?=σ (UInt8.ofNat b.toNat)/\((UInt8.ofNat b.toNat).toNat:Int)=b:=by
 have a:=h b (x5 hi);have e:=x4.1 hi;refine⟨?_,by rw[UInt8.toNat_ofNat'];omega⟩;have U:i<(strOfNums l).size:=by grind [pQ]
 rw[getElem?_pos (strOfNums l) i U];congr 1;show(strOfNums l).data[i]=_
 grind [strOfNums]
theorem str_inj{a b:Λ}(j:Bytes a)(p:Bytes b)(h:strOfNums a=strOfNums b):a=b:=by
 have h1:(strOfNums a).data.toList=(strOfNums b).data.toList:=by rw[h]
 rw[strOfNums_data,strOfNums_data]at h1;have key:∀{l:Λ},Bytes l->(l.map λn=>UInt8.ofNat n.toNat).map (λu=>((u.toNat:Nat):Int))=l:=λ{l}e=>by
  rw[S4]
  conv=>rhs;rw[<-List.map_id l]
  refine V2 λx f=>?_;have:=e x f
  grind [UInt8.toNat_ofNat']
 grind
theorem Ml(a b:Λ):strOfNums a++strOfNums b=strOfNums (a++b):=by
 apply ByteArray.ext;rw[ByteArray.data_append];simp[strOfNums]
theorem Mm(l:Λ)(i j:Nat):(strOfNums l).extract i j=strOfNums ((l.take j).drop i):=by
 apply ByteArray.ext
 grind [ByteArray.data_extract,strOfNums,List.map_drop,S7,List.drop_take]
theorem Mn(l:Λ):(strOfNums l).toList=l.map λn=>UInt8.ofNat n.toNat:=by
 grind [ByteArray.toList_eq,strOfNums_data]
theorem CG{a b:Λ}(e:Bytes a)(f:Bytes b):((strOfNums a).toList == (strOfNums b).toList)=decide (a=b):=by
 grind [Mn,str_inj,strOfNums]
section
variable{P:X5}{w:x3}
theorem pR{a:r9}(e:P.underlying t=σ .string):ab P (W0 #[t] a #[cc l]) w K=K (Δ l.length):=ab.of λI _=>by
 simp[W0,run_underlying e,goInt,pQ]
theorem sz{b:Int}{i:Nat}(a:y=(i:Int))(f:P.underlying t=σ .string)(h:Bytes l)(hi:l[i]?=σ b):ab P (Instr.index t (cc l) (.int k y)) w K=K (.int .u8 b):=ab.of λI _=>by
 subst a;obtain⟨h1,j⟩:=Mk h hi;have e:(0:Int)<=(i:Int):=Ω
 simp only[Instr.index,asIntOf,X8,W9,W3,run_underlying f]
 grind [W9]
theorem xU{a b:Λ}(h:a.length+b.length<=9223372036854775807):ab P (aO .add t cx cy (cc a) (cc b)) w K=K (cc (a++b)):=ab.of λI _=>by
 have:=run_string_add_sum (P:=P) (w:=I) (strOfNums a) (strOfNums b) (by grind [pQ])
 grind [aO,eqGuard,binOp,Ml]
theorem CH{a b:Λ}(e:Bytes a)(f:Bytes b):ab P (aO .eql t cx cy (cc a) (cc b)) w K=K (.bool (decide (a=b))):=ab.of λI _=>by
 simp[aO,eqGuard,binOp,Op.stringOp,CG e f]
theorem Mo{a b:Λ}(e:Bytes a)(f:Bytes b):ab P (aO .neq t cx cy (cc a) (cc b)) w K=K (.bool (decide (a≠b))):=ab.of λI _=>by
 simp[aO,eqGuard,binOp,Op.stringOp,CG e f]
theorem CI{i:Nat}(a:y=(i:Int))(f:P.underlying t=σ .string)(hi:i<=l.length):ab P (V4 t (cc l) (σ (.int k y)) ν ν) w K=K (cc (l.drop i)):=ab.of λI _=>by
 have j:=uF (P:=P) I (sl:=rs) (n:=(strOfNums l).size) (c:=(strOfNums l).size) (low:=σ (.int k y)) (high:=ν) (mx:=ν) (l:=i) (h:=(strOfNums l).size) (m:=(strOfNums l).size) (mI i y a) gW dZ (by grind [pQ]) (p9 _) (p9 _);have e:(strOfNums l).extract i (strOfNums l).size=strOfNums (l.drop i):=by grind [Mm,pQ]
 simp[V4,Instr.slice,run_underlying f,j,e]
theorem xV{s:r9}(U:P.underlying s=σ (.slice e))(he:P.underlying e=σ (.int .u8))(f:P.underlying t=σ .string)(h:aI .u8 w v l):ab P (convert s t v) w K=K (cc l):=ab.of λI p=>by
 obtain⟨q,b,o,base,cap,rfl,_,_,r,x⟩:=h.W p;have q:l.length=l.length*1:=Ω
 by_cases y:0<l.length
 .rw[r y];refine run_convert_bytes_arg I s e U he b o l.length cap l rfl (λi hi=>?_) t f;have j:l[i]?=σ l[i]:=x6 hi;rw[u5,j];exact x i _ (mK j)
 .have z:l=[]:=by grind
  subst z;cases base with
  |none=>
   rw[run_convert_bytes_nil I s e U he _ _ t f];rfl
  |some a=>
   rw[run_convert_bytes_string I s t e _ _ _ U he f];have:=run_bytesToString (P:=P) I a 0 cap [] (by grind [run_loadCells_list]);simp only[List.length_nil];rw[this];rfl
theorem xW{s:r9}{u:TypeDesc}{K:x1->x3->Prop}(U:P.underlying s=σ u)(q:P.underlying t=σ (.slice e))(he:P.underlying e=σ (.int .u8))(x:Bytes l)(hm:l.length<=1000000000)(y:∀v I,Ext w I->aI .u8 I v l->(∀r,(∃a n c,v= .slice (σ a) n c/\a.block=r)->w.heap.size<=r)->K v I):aC P (convert s t (cc l)) w K:=by
 have A:=Lib.bytesWorld_at_new w e (strOfNums l);have B:=λj f=>Lib.bytesWorld_at_old w e (strOfNums l) j f;have C:=Lib.bytesWorld_size w e (strOfNums l);refine .of (Lib.run_convert_string_bytes w s t e (strOfNums l) U q he) ⟨rfl,⟨rfl,Nat.le_succ _⟩,rfl,Ω,λr o z _=>?_⟩ (y _ _ ⟨Ω,λr o z _=>?_⟩ ?_ ?_)
 .grind
 .grind
 .rw[pQ];refine⟨Ξ,w.heap.size,0,_,_,rfl,?_,?_,λ_=>rfl,λj v h=>?_⟩
  .grind [grownCap_ge]
  .grind [grownCap_le_maxLen,maxLen]
  .have f:j<l.length:=by grind
   have p:l[j]?=σ l[j]:=x6 f;rw[W7,Lib.bytesWorld_cell w e (strOfNums l) j (by grind [pQ])];rw[mK p]at h;rw[<-Z7 h,strOfNums_data,u5,x8,p];have:=x l[j] (Q4 f)
   grind [UInt8.toNat_ofNat']
 grind
end
end Go.Vc
namespace Go.Proofs.YtkcigodpbndobaaGreatDoor
open Go Go.Vc Go.RowKit Go.Proofs Go.Proofs.Tryz
set_option maxRecDepth 100000
theorem CJ{b:Int}(h:c0 b=ro):b7 b=rs:=by
 have h:=rc h
 grind [b7]
theorem CK{b:Int}{p:Λ}(h:c0 b=ro):lex (b::p)=lex p:=by
 grind [mN,List.dropWhile_cons]
theorem Mp{b:Int}{p:Λ}(h:c0 b=rs)(a:b7 b=rs):lex (b::p)=([],rs):=by
 grind [mN,List.dropWhile_cons]
theorem CL{b:Int}{p:Λ}(h:b7 b=ro):lex (b::p)=match p.dropWhile b7 with
  |[]=>([b::p.takeWhile b7],ro)
  |c::r=>if c0 c then((b::p.takeWhile b7)::(lex (c::r)).1,(lex (c::r)).2)else([],rs):=by
 grind [CJ,mN,List.takeWhile_cons,List.dropWhile]
def j7:Λ->List (Λ)->Λ->Bool->List (Λ)×Bool
 |[],out,w,op=>(if op then out++[w]else out,ro)
 |b::p,out,w,op=>
  if c0 b then j7 p (if op then out++[w]else out) [] rs
  else if b7 b then j7 p out (if op then w++[b]else[b]) ro
  else(out,rs)
theorem sA:∀(p:Λ)(out:List (Λ))(w:Λ),j7 p out w rs=(out++(lex p).1,(lex p).2)/\
  j7 p out w ro=match p.dropWhile b7 with
   |[]=>(out++[w++p.takeWhile b7],ro)
   |c::r=>if c0 c then(out++[w++p.takeWhile b7]++(lex (c::r)).1,(lex (c::r)).2)else(out,rs)
 |[],out,w=>by simp[j7,mN []]
 |b::p,out,w=>by
  by_cases U:c0 b=ro
  .have hw:=CJ U;refine⟨?_,?_⟩
   .rw[j7,m3 U,(sA p _ _).1,CK U];simp
   .rw[j7,m3 U,m3 rfl,(sA p _ _).1,List.dropWhile_cons,m5 (by simp[hw])]
    grind [List.takeWhile_cons,CK]
  .have a:c0 b=rs:=by grind
   by_cases hw:b7 b=ro
   .refine⟨?_,?_⟩
    .rw[j7,m5 U,m3 hw,m5 Ξ,(sA p _ _).2,CL hw];cases p.dropWhile b7<;>grind
    .rw[j7,m5 U,m3 hw,m3 rfl,(sA p _ _).2,List.dropWhile_cons,m3 hw,List.takeWhile_cons,m3 hw]
     grind
   grind [j7,Mp,List.dropWhile_cons]
theorem Mq(p:Λ):j7 p [] [] rs=lex p:=by grind [sA]
def q7:Nat->Nat->Λ
 |0,_=>[]
 |k+1,n=>(if n<10 then[]else q7 k (n / 10))++[48+((n % 10:Nat):Int)]
def gg(n:Nat):Λ:=q7 (n+1) n
theorem CM:∀{k m n:Nat},n<k->n<m->q7 k n=q7 m n
 |k+1,m+1,n,h1,a=>by
  unfold q7;by_cases h:n<10
  .grind
  .rw[m5 h,m5 h,CM (k:=k) (m:=m) (n:=n / 10) Ω Ω]
theorem pS(n:Nat):gg n=(if n<10 then[]else gg (n / 10))++[48+((n % 10:Nat):Int)]:=by
 grind [gg,q7,CM]
theorem CN:∀(k n:Nat),n<k->∀b∈gg n,48<=b/\b<=57
 |k+1,n,hk,b,a=>by
  rw[pS]at a;rcases o9.1 a with a|a
  .by_cases h:n<10
   .grind
   .rw[m5 h]at a;exact CN k (n / 10) Ω b a
  grind
theorem CO(n:Nat):∀b∈gg n,48<=b/\b<=57:=CN (n+1) n Ω
def sB(l:Λ):Int:=l.foldl (λn b=>10*n+(b-48)) 0
theorem Mr(l:Λ)(b:Int):sB (l++[b])=10*sB l+(b-48):=by simp[sB]
theorem xX:∀(k n:Nat),n<k->sB (gg n)=n
 |k+1,n,hk=>by
  rw[pS,Mr];by_cases h:n<10
  .grind [sB]
  .rw[m5 h,xX k (n / 10) Ω];omega
theorem Ms{a b:Nat}(h:gg a=gg b):a=b:=by
 have h1:=xX (a+1) a Ω;have e:=xX (b+1) b Ω
 grind
theorem xY:∀(k n:Nat),n<10 ^ k->1<=k->(gg n).length<=k
 |k+1,n,h,_=>by
  rw[pS,p8];by_cases a:n<10
  .grind
  .rw[m5 a];have hk:1<=k:=by
    grind
   have e:(10:Nat) ^ (k+1)=10*10 ^ k:=Ω
   have:=xY k (n / 10) Ω hk
   grind
def eQ(t:Λ):Λ:=t.flatMap λv=>gg v.toNat++[32]
theorem Mt(t:Λ)(v:Int):eQ (t++[v])=eQ t++(gg v.toNat++[32]):=by simp[eQ]
theorem CP{r:Λ}(a:∀b∈l,b≠32):(l++32::r).takeWhile (λb=>decide (b≠32))=l/\(l++32::r).dropWhile (λb=>decide (b≠32))=32::r:=by
 induction l<;>grind [List.takeWhile_cons,List.dropWhile_cons]
theorem CQ:∀{a b:Λ},(∀x∈a,0<=x)->(∀x∈b,0<=x)->eQ a=eQ b->a=b
 |[],[],_,_,_=>rfl
 |[],y::b,_,_,h=>by simp[eQ]at h
 |x::a,[],_,_,h=>by simp[eQ]at h
 |x::a,y::b,f,j,h=>by
  have e:∀(z:Int)(l:Λ),eQ (z::l)=gg z.toNat++32::eQ l:=by grind [eQ]
  rw[e,e]at h;have d:∀z:Int,∀c∈gg z.toNat,c≠32:=λz c p=>by have:=CO _ c p;omega
  have s1:=CP (r:=eQ a) (d x);have s2:=CP (r:=eQ b) (d y);rw[h]at s1;have q:=s1.1.symm.F s2.1;have s:=s1.2.symm.F s2.2;have A:=f x (.head _);have B:=j y (.head _);have:=Ms q;have w:x=y:=Ω
  subst w;rw[CQ (by grind) (by grind) (List.cons.inj s).2]
theorem CR(t:Λ):Bytes (eQ t):=λb a=>by
 obtain⟨v,_,a⟩:=List.mem_flatMap.1 a;rcases o9.1 a with a|a
 .have:=CO _ b a;omega
 grind
theorem CS{b:Int}:aj x7 JK [.int .u8 b] w λv I=>v= .bool (c0 b)/\Ext w I:=by
 refine az func124 ?_;refine aV (λv J=>v= .bool (c0 b)/\Ext w J) (λ_ _ h=>h) λay a=>?_;rw[bh,ai];refine⟨λh=>a _ _ ⟨by unfold c0;rw[m7 (.inl h)],Ext.refl _⟩,λh1=>?_⟩;rw[bh,ai];refine⟨λh=>a _ _ ⟨by unfold c0;rw[m7 (.inr (.inl h))],Ext.refl _⟩,λe=>?_⟩;rw[bh,ai];refine⟨λh=>a _ _ ⟨by unfold c0;rw[m7 (.inr (.inr (.inl h)))],Ext.refl _⟩,λf=>?_⟩;rw[bh];refine a _ _ ⟨?_,Ext.refl _⟩;congr 1;unfold c0;rw[T1,pl,pl];omega
theorem Mu{b:Int}:aj x7 JJ [.int .u8 b] w λv I=>v= .bool (b7 b)/\Ext w I:=by
 refine az func123 ?_;refine aV (λv J=>v= .bool (b7 b)/\Ext w J) (λ_ _ h=>h) λay a=>?_;rw[cI,ai];refine⟨λh=>?_,λh=>a _ _ ⟨by unfold b7;rw[ms Ω],Ext.refl _⟩⟩;rw[oG];refine a _ _ ⟨?_,Ext.refl _⟩;congr 1;unfold b7;rw[T1,pl,pl];omega
def nS(w:x3)(g:Nat)(a:x1)(p:Λ)(at_:Nat)(bad:Int):Prop:=Bytes p/\p.length<=100000/\at_<=p.length/\ag w g ji [a,Δ (at_:Int),Δ bad]/\∃bu,ao .u8 cM w bu a p
theorem nS.W{g:Nat}{a:x1}{p:Λ}{at_:Nat}{bad:Int}(h:nS w g a p at_ bad)(e:Ext w I):nS I g a p at_ bad:=by
 obtain⟨h1,f,j,q,bu,r⟩:=h;exact⟨h1,f,j,q.W e,bu,r.W e⟩
theorem Mv(h:aI .u8 w v l)(A:l.length<=100000):aj x7 JE [v] w λf I=>Ext w I/\∃g,ao .u8 cM I g f l:=by
 have e:=h;obtain⟨B,b,o,base,cap,rfl,C,hm,p,E⟩:=h;refine az func117 ?_;rw[uE cS.u,bU];refine⟨λq=>⟨Ext.refl _,0,?_⟩,λ_=>?_⟩
 .have:l=[]:=by
   cases base with
   |none=>
        by_cases e:0<l.length
        .have:=p e;cases this
        .exact Z0 Ω
   |some a=>cases q
  subst this;exact ao.nil _ _ _ _
 .refine lU (k:=1) (cs:=#[]) cS.u cM.i Ω Ψ λg J G j r=>?_;have s:ao .u8 cM J g (.slice (σ ⟨g,0,ν⟩) 0 0) []:=ao.of (n:=0) (bZ.full (by simpa using r) rfl Ξ);refine jD cS.u cM.i rfl s (e.W j) Θ Θ λf x V H y z=>?_;exact⟨j.put z Ω,x,by simpa using y⟩
theorem CT(h:aI .u8 w v l)(q:Bytes l)(e:l.length<=100000):aj x7 By [v] w λr I=>Ext w I/\∃g,r=Γ g/\w.heap.size<=g/\∃a,nS I g a l 0 (-1):=by
 refine az func47 ?_;refine(Mv h e).X ?_;rintro a J _ ⟨f,bu,j⟩;rw[dw (cs:=#[a,Δ 0,Δ (-1)]) (by obtain⟨_,_,_,_,_,rfl,_⟩:=j.ls;kernel_rfl)];refine bm λg V x p s=>?_;have s1:=f.size;exact⟨f.F p,g,rfl,Ω,a,q,e,X7 _,s,bu,j.W p⟩
def runN(f:Int->Bool)(p:Λ):Nat:=(p.takeWhile f).length
theorem Mw(f:Int->Bool)(p:Λ):runN f p<=p.length:=(List.takeWhile_sublist f).length_le
theorem CU{f:Int->Bool}{p:Λ}{i:Nat}{b:Int}(hi:p[i]?=σ b)(e:f b=ro):i+runN f (p.drop i)=(i+1)+runN f (p.drop (i+1)):=by
 have a:=x4.1 hi;unfold runN;rw[X1 a.1,a.2,List.takeWhile_cons,m3 e,Y3];omega
theorem CV{f:Int->Bool}{p:Λ}{i:Nat}(h:∀b,p[i]?=σ b->f b=rs):runN f (p.drop i)=0:=by
 unfold runN;cases a:p[i]? with
 |none=>
  rw[List.drop_of_length_le (List.getElem?_eq_none_iff.1 a)];rfl
 |some b=>
  have e:=x4.1 a;rw[X1 e.1,e.2,List.takeWhile_cons,m5 (by simp[h b a])];rfl
theorem Mx{g at_:Nat}{A:x1}{p:Λ}{bad:Int}(h:nS w g A p at_ bad):aj x7 JI [Γ g] w λv I=>v=Δ ((at_+runN c0 (p.drop at_):Nat):Int)/\Ext w I:=by
 obtain⟨M,N,B,a,bu,q⟩:=h;refine az func122 ?_;rw[aK ji.p 1 a rfl];refine⟨λv J=>Ext w J/\∃i:Nat,v=Δ (i:Int)/\i<=p.length/\i+runN c0 (p.drop i)=at_+runN c0 (p.drop at_),λv _=>p.length-(b0 v).toNat,⟨Ext.refl _,at_,rfl,B,rfl⟩,?_⟩;rintro _ J ⟨j,i,rfl,hi,he⟩;refine aV (λv V=>Ext w V/\∃c:Bool,v= .bool c/\(c=ro↔ ∃b,p[i]?=σ b/\c0 b=ro)) ?_ ?_
 .rintro _ V ⟨r,c,rfl,s⟩;rw[bU];refine⟨λC=>?_,λx=>?_⟩
  .obtain⟨b,e,E⟩:=s.1 C;have G:=(x4.1 e).1;rw[aM,lm Ω Ω];exact⟨⟨r,i+1,rfl,G,by rw[<-he,CU e E]⟩,by simp only[b0];omega⟩
  .have H:=CV (f:=c0) (p:=p) (i:=i) λb a=>by
    cases U:c0 b with
    |false=>rfl
    |true=>rw[s.2 ⟨b,a,U⟩]at x;cases x
   exact⟨by rw[<-he,H,Nat.add_zero],r⟩
 .intro ay y;have z:=a.W j;rw[aK ji.p 0 z rfl,aS cS.u (q.W j).ls,aP,ai];refine⟨λO=>?_,λP=>y _ _ ⟨j,rs,rfl,⟨λh=>(by cases h),λ⟨b,a,_⟩=>by have:=(x4.1 a).1;omega⟩⟩⟩;have K:i<p.length:=Ω
  have e:=x6 K;rw[aK ji.p 0 z rfl,be cS.u cM.i Ψ (q.W j).ls e];refine CS.X ?_;rintro _ Q _ ⟨rfl,L⟩;exact y _ _ ⟨j.F L,_,rfl,⟨λh=>⟨_,e,h⟩,λ⟨b,a,h⟩=>by rw[e]at a;cases a;exact h⟩⟩
inductive My where
 |word (from_ to:Nat)
 |none
 |text (at_:Nat)
def gK(p:Λ)(at_:Nat):Nat:=at_+runN c0 (p.drop at_)
def j8(p:Λ)(a:Nat):Nat:=a+runN b7 (p.drop a)
open Classical in
noncomputable def q8(p:Λ)(at_:Nat):My:=
 if j8 p (gK p at_)<p.length/\(∀c,p[j8 p (gK p at_)]?=σ c->c0 c=rs)then .text (j8 p (gK p at_))else if gK p at_=j8 p (gK p at_)then .none else .word (gK p at_) (j8 p (gK p at_))
def sC(w:x3)(g:Nat)(e:x1)(p:Λ)(at_:Nat)(v:x1)(I:x3):Prop:=
 match q8 p at_ with
 | .word a b=>v= .tuple #[cc ((p.take b).drop a),Δ (a:Int),Δ 0]/\af (λr=>r=g) w I/\nS I g e p b (-1)
 | .none=>∃n:Nat,v= .tuple #[cc [],Δ (n:Int),Δ 2]/\Ext w I
 | .text b=>v= .tuple #[cc [],Δ (b:Int),Δ 11]/\af (λr=>r=g) w I/\nS I g e p at_ (b:Int)
theorem iS{aW:Nat->Prop}{a b c:x3}(h:af S a b)(k:af aW b c)(j:∀r,r<a.heap.size->aW r->S r):af S a c:=
 ⟨Y2 h.size k.size,λr o e U f=>k.aZ r o (h.aZ r o e U f) U λp=>f (j r (Z5.1 e).1 p)⟩
theorem cj{g:Nat}{p:r9}(h:ao k e w g v l)(q:ag w j p cs)(x:e≠p){r:Nat}(s:li v r):r≠j:=by
 obtain⟨rfl,_⟩:=bE h s;obtain⟨_,⟨rfl,_⟩|⟨_,_,_,f,_⟩⟩:=h
 .obtain⟨a,n,c,h,_⟩:=s;cases h
 .rintro rfl;unfold ag at q f;rw[q]at f;injection f with h1;injection h1 with z y;exact x y.symm
theorem Mz{s:r9}{e:o5}{b i:Nat}(p:x7.underlying s=σ (.slice t))(hi:aR x7 t 1 b z)(h:aI .u8 w v l)(q:i<=j)(r:j<=l.length)(x:∀a,aI .u8 w a ((l.take j).drop i)->K a):ab x7 (V4 s v (σ (.int e (i:Int))) (σ (.int f (j:Int))) ν) w K:=by
 refine uP p hi h (mI i _ rfl) (nM j _ rfl) q r λa bi=>x a (aI.of (n:=j-i) ?_);have y:((ints .u8 l).drop (i*1)).take ((j-i)*1)=ints .u8 ((l.take j).drop i):=by
  rw[V0,V0,ints,ints,List.map_drop,S7,List.drop_take]
 rw[y]at bi;exact bi
theorem MA{g at_:Nat}{E:x1}{p:Λ}(h:nS w g E p at_ (-1)):aj x7 xp [Γ g] w (sC w g E p at_):=by
 obtain⟨P,Q,an,e,bu,G⟩:=id h;refine az func53 ?_;rw[cW uA.u,j0,aX,aK ji.p 2 e rfl,cI,ai];refine⟨λh=>Ω,λ_=>?_⟩;refine(Mx h).X ?_;rintro _ V _ ⟨rfl,ao⟩;obtain⟨a,R⟩:∃a,a=at_+runN c0 (p.drop at_):=⟨_,rfl⟩;rw[<-R];have ap:a<=p.length:=by have:=Mw c0 (p.drop at_);rw[List.length_drop]at this;omega
 refine⟨λv H=>Ext V H/\∃i:Nat,v=Δ (i:Int)/\a<=i/\i<=p.length/\i+runN b7 (p.drop i)=a+runN b7 (p.drop a),λv _=>p.length-(b0 v).toNat,⟨Ext.refl _,a,rfl,p9 _,ap,rfl⟩,?_⟩;rintro _ H ⟨S,i,rfl,aq,hi,he⟩;have I:=ao.F S;have W:=e.W I;have X:=G.W I;refine aV (λv y=>Ext H y/\∃c:Bool,v= .bool c/\(c=ro↔ ∃b,p[i]?=σ b/\b7 b=ro)) ?_ ?_
 rotate_left
 .intro ay q;rw[aK ji.p 0 W rfl,aS cS.u X.ls,aP,ai];refine⟨λau=>?_,λav=>q _ _ ⟨Ext.refl _,rs,rfl,⟨λh=>(by cases h),λ⟨b,e,_⟩=>by have:=(x4.1 e).1;omega⟩⟩⟩;have z:i<p.length:=Ω
  have j:=x6 z;rw[aK ji.p 0 W rfl,be cS.u cM.i Ψ X.ls j];refine Mu.X ?_;rintro _ y _ ⟨rfl,A⟩;exact q _ _ ⟨A,_,rfl,⟨λh=>⟨_,j,h⟩,λ⟨b,e,h⟩=>by rw[j]at e;cases e;exact h⟩⟩
 rintro _ y ⟨A,c,rfl,s⟩;have J:=I.F A;have Y:=e.W J;have Z:=G.W J;rw[bU];refine⟨λK=>?_,λab=>?_⟩
 .obtain⟨b,j,aw⟩:=s.1 K;have ax:=(x4.1 j).1;rw[aM,lm Ω Ω];exact⟨⟨S.F A,i+1,rfl,Ω,ax,by rw[<-he,CU j aw]⟩,by simp only[b0];omega⟩
 have aE:=CV (f:=b7) (p:=p) (i:=i) λb e=>by
  cases U:b7 b with
  |false=>rfl
  |true=>rw[s.2 ⟨b,e,U⟩]at ab;cases ab
 have aA:i=a+runN b7 (p.drop a):=Ω
 refine aV (λv L=>Ext y L/\∃c:Bool,v= .bool c/\(c=ro↔i<p.length/\∀c,p[i]?=σ c->c0 c=rs)) ?_ ?_
 rotate_left
 .intro ay q;rw[aK ji.p 0 Y rfl,aS cS.u Z.ls,aP,ai];refine⟨λau=>?_,λav=>q _ _ ⟨Ext.refl _,rs,rfl,⟨λh=>(by cases h),λh=>Ω⟩⟩⟩;have z:i<p.length:=Ω
  have j:=x6 z;rw[aK ji.p 0 Y rfl,be cS.u cM.i Ψ Z.ls j];refine CS.X ?_;rintro _ L _ ⟨rfl,M⟩;rw[bA];refine q _ _ ⟨M,_,rfl,⟨λh=>⟨z,λc s=>?_⟩,λh=>by rw[h.2 _ j];rfl⟩⟩;rw[j]at s;cases s;cases U:c0 p[i]with
  |false=>rfl
  |true=>rw[U]at h;cases h
 rintro _ L ⟨M,aF,rfl,ac⟩;have x:=J.F M;have B:=e.W x;have C:=G.W x;have ad:∀r,li E r->r≠g:=λr aB=>cj C B Φ aB;have N:q8 p at_=open Classical in if i<p.length/\(∀c,p[i]?=σ c->c0 c=rs)then .text i else if a=i then .none else .word a i:=by
  unfold q8;rw[show gK p at_=a from R.symm,show j8 p a=i from aA.symm]
 rw[bU];refine⟨λK=>?_,λaf=>?_⟩
 .rw[bR,aT ji.p rfl];refine bt (g:=g) (o:=2) ae.i rfl rfl B Ξ λaG ag aH aC=>?_;unfold sC;rw[N,m3 (ac.1 K)];exact⟨rfl,(x.aa _).F ag,P,Q,an,aC,bu,bk C ag ad⟩
 .have ah:¬(i<p.length/\∀c,p[i]?=σ c->c0 c=rs):=λh=>by rw[ac.2 h]at af;cases af
  rw[bh,ai];refine⟨λaI=>?_,λaJ=>?_⟩
  .intro aL O _ _;rw[aK ji.p 0 (B.W O) rfl,aS cS.u (C.W O).ls];unfold sC;rw[N,m5 ah,m3 Ω];exact⟨p.length,rfl,x.F O⟩
  .rw[bR,aT ji.p rfl];refine bt (g:=g) (o:=1) ae.i rfl rfl B Ξ λaN ak aO al=>?_;have am:=bk C ak ad;rw[aK ji.p 0 al rfl];refine Mz cS.u cM.i am.ls aq hi λaQ aD=>?_;rw[xV cS.u cM.u dd.u aD];unfold sC;rw[N,m5 ah,m5 Ω];exact⟨rfl,(x.aa _).F ak,P,Q,hi,al,bu,am⟩
end Go.Proofs.YtkcigodpbndobaaGreatDoor
