/- own texts, made small by a tool (wip/ holds them as they were written): no statement of the seat. -/
import Derived.RangeFuncNested
import Derived.RangeFuncLeaves
import Derived.OrdersIn
import Derived.KernelRfl
import Derived.Deep.Upon
import Derived.RangeFuncBound
import Derived.Deep.MidRow
import Derived.Laws.Cover3
import Derived.Laws.Pointers
import Derived.Laws.StructEq
import Derived.Laws.Tables
import Derived.Below
import Derived.Laws.MakeOwn
import Derived.Lib.Overlaps
import Derived.Lib.AppendZerosOnto
import Derived.Lib.SliceRun
import Derived.OpenShut
import Derived.Lib.ConvBytes
import Derived.Laws.BytesArg
import Derived.Laws.Concat
import Derived.MapKept
import Derived.Carry
import Derived.WideKeyArr
import Derived.WideKeyMaps
import Derived.Laws.IdiomRangeMap
import Derived.Shelf.SlSortCmp.NoneTotal
import Derived.Shelf.SlSortCmp.WholeK
import Derived.Ground.SlsfProg
import Derived.Ground.NamesProg
import Derived.WideKeyEntry
import Derived.WalkKit
import Derived.Shelf.Sort.AssemblyIn
import Derived.Shelf.Slices.In.SortNone
import Derived.Sort.EveryDepth
import Derived.Test.YtkcigodpbndobaaGreatDoorProg
import Derived.Test.YtkcigodpbndobaaGreatDoorChecked
set_option linter.unusedVariables false
set_option linter.unusedSimpArgs false
set_option linter.unnecessarySimpa false
open Array renaming getElem?_eq_some_iff→Z9
open BitVec renaming ofInt→U2
open Bool renaming false→sp,true→rs,not_true→Y2,not_false→X1,and_eq_true→V8,eq_iff_iff→U5
open Decidable renaming not_not→Z2
open Go renaming Value→x1,World→x3,TypeId→r8,IntKind→o4,Builtin→j5,Program→X2,Oper→U6,Operand→T6,Addr→S6,FuncId→S9
open Go.Addr renaming add_mid→W0
open Go.Builtin renaming append_→j4,len_→X7,zeroCells→S1
open Go.Instr renaming loadAt→u4,fieldAt→u6,storeAt→o6,indexAt→j0,extract→c7,buildSlice→Z3,sliceAt→V6,alloc→S5
open Go.IntKind renaming i64→Y6,u64→V9
open Go.Proofs.Tryz renaming prog→x7
open Go.Result renaming andThen→X9
open Go.Sem renaming run_bind→X4,run_pure→W9
open Go.Sort renaming Holds→T9
open Go.Value renaming int→Y9,cells→T5
open Go.World renaming putObj_heap_other→R4
open Int renaming toNat_natCast→u7,mul_le_mul_of_nonneg_right→W6,eq_ofNat_of_zero_le→U8
open List renaming getElem?_eq_some_iff→x4,mem_of_getElem?→x5,getElem?_eq_getElem→x6,getElem?_map→x8,getD_eq_getElem?_getD→v8,take_add_one→u5,replicate→u9,length_map→r9,take_length→p8,length_append→p9,take_of_length_le→o7,mem_map→o8,mem_append→o9,map_append→n9,length_take→j6,ext_getElem?→j9,eq_nil_of_length_eq_zero→c9,mem_singleton→b8,range→Z4,getElem?_take_of_lt→Y3,length_cons→Y4,getElem?_append_right→Y5,getElem?_set→Y8,drop_eq_getElem_cons→X0,length_eq_one_iff→X3,getElem?_append_left→W8,append_nil→V2,map_congr_left→V3,mem_of_mem_take→V4,map_set→V5,length_set→U7,getElem_mem→T0,mem_range→T1,map_map→T8,map_take→S0,set_append_right→S7
open Nat renaming le_refl→o5,le_trans→Y1,zero_le→X8,zero_add→V0,mul_one→V1,mul_le_mul_right→V7,sub_self→U1,add_mul→T7,beq→S4
open Option renaming toList_some→l7,isNone_some→l9,some→b9,map_some→Z0,map→W3
open Option.some renaming inj→Z7,injEq→X6
set_option maxHeartbeats 16000000
open Option renaming some→σ,none→ν
abbrev Λ:=List Int
namespace Go
theorem _root_.Eq.F{α:Sort _}{a b c:α}(h:a=b)(g:b=c):a=c:=h.trans g
theorem _root_.Iff.F{a b c:Prop}(h:a<->b)(g:b<->c):a<->c:=h.trans g
theorem _root_.List.Perm.F{α:Type _}{a b c:List α}(h:a.Perm b)(g:b.Perm c):a.Perm c:=h.trans g
set_option linter.defProp false in
def _root_.Go.Calls.X:=@Calls.mono
theorem _root_.m5{c:Prop}{h:Decidable c}(hc:c){α:Sort _}{t e:α}:ite c t e=t:=if_pos hc
theorem _root_.m6{c:Prop}{h:Decidable c}(hnc:¬c){α:Sort _}{t e:α}:ite c t e=e:=if_neg hnc
theorem _root_.m7{a b:Prop}(h:a)(g:¬a):b:=absurd h g
theorem _root_.ms{p:Prop}[Decidable p](h:p):decide p=true:=decide_eq_true h
theorem _root_.pl{p:Prop}[Decidable p](h:¬p):decide p=false:=decide_eq_false h
theorem _root_.rc{p:Prop}[Decidable p]:(decide p=true)=p:=decide_eq_true_eq
theorem _root_.ro{p:Prop}[Decidable p](h:decide p=true):p:=of_decide_eq_true h
theorem Ω{p:Prop}(h:p:=by omega):p:=h
theorem Ψ{p:Prop}(h:p:=by kernel_rfl):p:=h
theorem Φ{p:Prop}(h:p:=by decide):p:=h
theorem Ξ{p:Prop}(h:p:=by simp):p:=h
theorem Θ{p:Prop}(h:p:=by simp;omega):p:=h
abbrev Γ(n:Nat):Value:=.pointer (some ⟨n,0,none⟩)
abbrev Δ:Int→Value:=Value.int .i64
end Go
variable{a y:Int}{c cap h j n off:Nat}{I w:x3}{S:Nat->Prop}{aO s1 s2 sv v z:x1}{args cs news vs xs:List x1}{K:x1->Prop}{l szs:Λ}{D:List Nat}{f k:o4}{e t:r8}{cx cy:Bool}
namespace Go.Vc
open Go Go.RowKit
def fI:Obj->Bool
 | .loop _=>sp
 | .deferred _=>sp
 | .mapIter ..=>sp
 |_=>rs
def book:Obj->Bool
 | .loop _=>rs
 | .deferred _=>rs
 |_=>sp
theorem Ad{o:Obj}(h:book o=rs):fI o=sp:=by cases o<;>first|rfl|cases h
def tF:Obj->Bool
 | .mapIter ..=>rs
 |_=>sp
theorem Hq{o:Obj}(h:tF o=rs):fI o=sp:=by cases o<;>first|rfl|cases h
structure Ext(w I:x3):Prop where
 size:w.heap.size<=I.heap.size
 a8:∀(r:Nat)(o:Obj),w.heap[r]?=σ o->fI o=rs->I.heap[r]?=σ o
theorem Ext.refl(w:x3):Ext w w:=⟨o5 _,λ_ _ h _=>h⟩
theorem Ext.F{a b c:x3}(h:Ext a b)(k:Ext b c):Ext a c:=
 ⟨Y1 h.size k.size,λr o e U=>k.a8 r o (h.a8 r o e U) U⟩
structure af(S:Nat->Prop)(w I:x3):Prop where
 size:w.heap.size<=I.heap.size
 a8:∀(r:Nat)(o:Obj),w.heap[r]?=σ o->fI o=rs->¬S r->I.heap[r]?=σ o
theorem Ext.aa(S:Nat->Prop)(h:Ext w I):af S w I:=⟨h.size,λr o a U _=>h.a8 r o a U⟩
theorem af.W(h:af S w I)(e:∀r,r<w.heap.size->¬S r):Ext w I:=
 ⟨h.size,λr o a U=>h.a8 r o a U (e r (Z9.1 a).1)⟩
theorem af.refl(S:Nat->Prop)(w:x3):af S w w:=⟨o5 _,by grind⟩
theorem af.F{a b c:x3}(h:af S a b)(k:af S b c):af S a c:=
 ⟨Y1 h.size k.size,λr o f U e=>k.a8 r o (h.a8 r o f U e) U e⟩
theorem af.X{T:Nat->Prop}{a b:x3}(h:af S a b)(f:∀r,r<a.heap.size->S r->T r):af T a b:=
 ⟨h.size,λr o e U j=>h.a8 r o e U λp=>j (f r (Z9.1 e).1 p)⟩
theorem Ext.then{a b c:x3}(h:Ext a b)(k:af S b c)(f:∀r,r<a.heap.size->¬S r):Ext a c:=
 ⟨Y1 h.size k.size,λr o e U=>k.a8 r o (h.a8 r o e U) U (f r (Z9.1 e).1)⟩
def k0(w I:x3):Prop:=I.tape=w.tape/\w.drawn<=I.drawn
theorem k0.lD(h:I.tape=w.tape:=by rfl)(k:I.drawn=w.drawn:=by rfl):k0 w I:=⟨h,Nat.le_of_eq k.symm⟩
theorem k0.F{a b c:x3}(k:k0 b c)(h:k0 a b):k0 a c:=⟨k.1.F h.1,Y1 h.2 k.2⟩
structure cA(w I:x3):Prop where
 os:I.os=w.os
 tape:k0 w I
 output:I.output=w.output
 size:w.heap.size<=I.heap.size
 a8:∀(r:Nat)(o:Obj),w.heap[r]?=σ o->fI o=sp->I.heap[r]?=σ o
structure cM(n:Nat)(w I:x3):Prop where
 os:I.os=w.os
 tape:k0 w I
 output:I.output=w.output
 size:w.heap.size<=I.heap.size
 a8:∀(r:Nat)(o:Obj),w.heap[r]?=σ o->book o=rs->I.heap[r]?=σ o
 old:∀(r:Nat)(o:Obj),r<n->w.heap[r]?=σ o->fI o=sp->I.heap[r]?=σ o
theorem cA.b(h:cA w I):cM n w I:=⟨h.os,h.tape,h.output,h.size,λr o a U=>h.a8 r o a (Ad U),λr o _ a U=>h.a8 r o a U⟩
theorem cM.refl(n:Nat)(w:x3):cM n w w:=⟨rfl,.lD,rfl,o5 _,λ_ _ h _=>h,by grind⟩
theorem cM.F{a b c:x3}(h:cM n a b)(k:cM n b c):cM n a c:=
 ⟨k.os.F h.os,k.tape.F h.tape,k.output.F h.output,Y1 h.size k.size,λr o e U=>k.a8 r o (h.a8 r o e U) U,λr o f e U=>k.old r o f (h.old r o f e U) U⟩
theorem cM.cB(h:cM n w I)(e:w.heap.size<=n):cA w I:=
 ⟨h.os,h.tape,h.output,h.size,λr o a U=>h.old r o (Nat.lt_of_lt_of_le (Z9.1 a).1 e) a U⟩
structure fJ(n:Nat)(w I:x3):Prop where
 os:I.os=w.os
 tape:k0 w I
 output:I.output=w.output
 size:w.heap.size<=I.heap.size
 old:∀(r:Nat)(o:Obj),r<n->w.heap[r]?=σ o->fI o=sp->I.heap[r]?=σ o
theorem cM.o(h:cM n w I):fJ n w I:=⟨h.os,h.tape,h.output,h.size,h.old⟩
theorem cA.o(h:cA w I):fJ n w I:=⟨h.os,h.tape,h.output,h.size,λr o _ a U=>h.a8 r o a U⟩
theorem fJ.X{m:Nat}(h:fJ n w I)(hm:m<=n):fJ m w I:=⟨h.os,h.tape,h.output,h.size,λr o a=>h.old r o (Nat.lt_of_lt_of_le a hm)⟩
theorem cM.Ae{m:Nat}{a b c:x3}(h:cM n a b)(k:fJ m b c)(hm:a.heap.size<=m):cM n a c:=
 ⟨k.os.F h.os,k.tape.F h.tape,k.output.F h.output,Y1 h.size k.size,
  λr o e U=>k.old r o (Nat.lt_of_lt_of_le (Z9.1 e).1 hm) (h.a8 r o e U) (Ad U),
  λr o f e U=>k.old r o (Nat.lt_of_lt_of_le (Z9.1 e).1 hm) (h.old r o f e U) U⟩
def e7(w I:x3):Prop:=∀(r:Nat)(o:Obj),w.heap[r]?=σ o->tF o=rs->I.heap[r]?=σ o
theorem e7.refl(w:x3):e7 w w:=λ_ _ h _=>h
theorem e7.F{a b c:x3}(h:e7 a b)(k:e7 b c):e7 a c:=λr o e U=>k r o (h r o e U) U
theorem cA.lE(h:cA w I):e7 w I:=λr o a U=>h.a8 r o a (Hq U)
abbrev fK:=Bool×Nat
theorem cA.refl(w:x3):cA w w:=⟨rfl,.lD,rfl,o5 _,λ_ _ h _=>h⟩
theorem cA.F{a b c:x3}(h:cA a b)(k:cA b c):cA a c:=
 ⟨k.os.F h.os,k.tape.F h.tape,k.output.F h.output,Y1 h.size k.size,λr o e U=>k.a8 r o (h.a8 r o e U) U⟩
theorem rR(w:x3)(n:Nat):Ext w {w with drawn:=n}:=⟨o5 _,λ_ _ h _=>h⟩
theorem qu(w:x3)(n:Nat)(h:w.drawn<=n):cA w {w with drawn:=n}:=⟨rfl,⟨rfl,h⟩,rfl,o5 _,λ_ _ h _=>h⟩
theorem qv(w:x3)(o:Obj):Ext w {w with heap:=w.heap.push o}:=
 ⟨Ξ,λr o' h _=>by
  grind⟩
theorem qw(w:x3)(o:Obj):cA w {w with heap:=w.heap.push o}:=
 ⟨rfl,.lD,rfl,Ξ,λr o' h _=>by
  grind⟩
inductive eM where
 |v (x:x1)
 |b (c:Bool)
 |u
def eM.val:eM->x1
 | .v x=>x
 | .b c=>.bool c
 | .u=>undef
def eM.ofConst:x1->eM
 | .bool c=>.b c
 |x=>.v x
theorem eM.Hr(x:x1):(eM.ofConst x).val=x:=by cases x<;>rfl
abbrev Env:=List (Nat×eM)
def look:Env->Nat->Option eM
 |[],_=>ν
 |(s,x)::r,t=>bif S4 s t then σ x else look r t
def eZ(e:Env):T6->Option eM
 | .tmp t=>look e t
 | .const x=>σ (eM.ofConst x)
 | .global g=>σ (.v (Γ g))
 | .func f=>σ (.v (.func (.func f) #[] #[]))
def c0(e:Env)(x:T6):x1:=
 match eZ e x with
 |some y=>y.val
 |none=>undef
def known(e:Env):List T6->Bool
 |[]=>rs
 |x::r=>(eZ e x).isSome&&known e r
def T9(N:Nat)(e:Env)(a:Act):Prop:=
 a.tmps.size=N/\∀t x,look e t=σ x->a.tmps.getD t undef=x.val
theorem T9.eZ{N:Nat}{e:Env}{a:Act}(h:T9 N e a){x:T6}{y:eM}(j:Vc.eZ e x=σ y):a.eval x=y.val:=by
 cases x with
 |tmp t=>exact h.2 t y j
 |const v=>simp[Vc.eZ]at j;subst j;simp[Act.eval,eM.Hr]
 |global g=>simp[Vc.eZ]at j;subst j;rfl
 |func f=>simp[Vc.eZ]at j;subst j;rfl
theorem T9.eval{N:Nat}{e:Env}{a:Act}(h:T9 N e a){x:T6}(j:(Vc.eZ e x).isSome=rs):a.eval x=c0 e x:=by
 obtain⟨y,f⟩:=Option.isSome_iff_exists.1 j;rw[h.eZ f];simp[c0,f]
theorem Af{e:Env}:∀{l:List T6},known e l=rs->∀x∈l,(eZ e x).isSome=rs
 :=by
 intro a;induction a<;>grind [known]
def ei(e:Env)(d:Option Tmp)(x:eM):Env:=
 match d with
 |some t=>(t,x)::e
 |none=>e
def k1(N:Nat)(d:Option Tmp):Bool:=
 match d with
 |some t=>Nat.blt t N
 |none=>rs
theorem T9.put{N:Nat}{e:Env}{a:Act}(h:T9 N e a){d:Option Tmp}(r:k1 N d=rs){x:eM}(p:x.val=v):
  T9 N (ei e d x) (a.put d v):=by
 cases d with
 |none=>exact h
 |some t=>
  have q:t<N:=by grind [k1,Nat.blt_eq]
  refine⟨by simp[Act.put,h.1],λs y U=>?_⟩;simp only[ei,look]at U;cases f:S4 t s with
  |true=>
   have j:=Nat.eq_of_beq_eq_true f;subst j;simp only[f,cond_true,X6]at U;subst U;simp[Act.put,h.1,q,p]
  |false=>
   have j:=Nat.ne_of_beq_eq_false f;simp only[f,cond_false]at U;have:=h.2 s y U;simp only[Act.put,Array.getD_eq_getD_getElem?]at this ⊢
   grind
def eN(r:Option Nat):Fence:={Fence.wide with round:=r}
theorem wz(r:Option Nat)(n:Nat):(eN r).depth.isSome=rs->1<=n:=by grind [eN,Fence.wide]
theorem Ag{r:Option Nat}{P:X2}{f:S9}{args:Array x1}{R:Ending->x3->Prop}(h:Calls P f args w R):CallsIn (eN r) n P f args w R:=by
 have:=(callsIn_wide (n:=n)).2 h;exact this
section
variable(P:X2)
def aD{α:Type}(s:Sem α)(w:x3)(K:α->x3->Prop):Prop:=∃v I,s.run P w= .ok v I/\cA w I/\K v I
def tG{α:Type}(free:fK)(s:Sem α)(w:x3)(K:α->x3->Prop):Prop:=∃v I,s.run P w= .ok v I/\(free.1=sp->cM free.2 w I)/\K v I
def Split(x:x1)(A B:Prop):Prop:=∃c,x= .bool c/\(c=rs->A)/\(c=sp->B)
def aY:Bool->T6
 |true=>.const (.bool rs)
 |false=>.tmp 0
def qx:T6->Bool
 | .const _=>rs
 |_=>sp
theorem Hs(op:BinOp)(t:r8)(x y:T6)(a b:x1):eqGuard op t x y a b=eqGuard op t (aY (qx x)) (aY (qx y)) a b:=by
 cases x<;>cases y<;>rfl
def aQ(op:BinOp)(t:r8)(cx cy:Bool)(a b:x1):Sem x1:=do eqGuard op t (aY cx) (aY cy) a b;binOp op t a b
def tH(s:Sem Next):Sem x1:=do
 match <-s with
 | .value v=>pure v
 |_=>stuck "no value"
def bR(x:x1):Sem x1:=tH (execOp (λ_=>x) {dst:=ν,op:=.nilCheck (.tmp 0),type:=0,pos:= "",after:=#[],guard:=ν})
def bP(a:T6->x1):List T6->List x1
 |[]=>[]
 |x::r=>a x::bP a r
theorem tI(a:T6->x1):∀l,bP a l=l.map a
 |[]=>rfl
 |x::r=>by simp[bP,tI a r]
theorem wA(a:T6->x1)(l:Array T6):(bP a l.toList).toArray=l.map a:=by
 grind [tI]
def partsOf(a:T6->x1):List (Nat×T6)->List (Nat×x1)
 |[]=>[]
 |x::r=>(x.1,a x.2)::partsOf a r
theorem Ah(a:T6->x1):∀l,partsOf a l=l.map λ(i,x)=>(i,a x)
 |[]=>rfl
 |x::r=>by simp[partsOf,Ah a r]
theorem Ht(a:T6->x1)(l:Array (Nat×T6)):(partsOf a l.toList).toArray=l.map λ(i,x)=>(i,a x):=by
 grind [Ah]
def opsOf:Op->List T6
 | .alloc _| .ready _| .waits _=>[]
 | .move x| .assign x| .box _ x| .load _ x| .nilCheck x| .unOp _ _ x| .convert _ _ x| .sliceToArrayPointer _ x| .makeInterface _ x
 | .makeChan _ x| .fieldAddr _ x _| .field _ x _| .range _ x| .next x _| .entry x| .typeAssert x _ _ _| .extract x _| .panic x| .recv _ x _=>[x]
 | .pick c a b=>[c,a,b]
 | .build _ e| .buildSlice _ _ e=>e.toList.map (·.2)
 | .store _ a v| .binOp _ _ a v _| .makeSlice _ a v| .indexAddr _ a v| .index _ a v| .lookup _ a v _| .mapEntry _ a v| .send a v=>[a,v]
 | .makeFunc _ first j=>first.toList++j.toList
 | .makeMap _ r=>match r with
  |some x=>[x]
  |none=>[]
 | .slice _ x l h m=>x::((match l with
  |some y=>[y]
  |none=>[])++((match h with
  |some y=>[y]
  |none=>[])++(match m with
  |some y=>[y]
  |none=>[])))
 | .mapUpdate _ m k v| .entryStore _ m k v| .insert _ m k v=>[m,k,v]
 | .call c=>match c.callee with
  | .value f=>f::c.args.toList
  | .invoke r _=>r::c.args.toList
  | .builtin _=>c.args.toList
 | .go _| .defer _| .select ..=>[]
theorem Hu{op:Op}(h1:∀c,op≠ .go c)(e:∀c,op≠ .defer c)(f:∀cs b,op≠ .select cs b):∀x∈op.operands,x∈opsOf op:=by
 intro x a;cases op<;>simp only[Op.operands,opsOf]at a ⊢<;>try (first|(simp at a;done)|(simp at a ⊢;exact a))
 all_goals grind [Call.operands]
def rS(e:T6->x1):Op->Option (Sem x1)
 | .pick c a b=>σ (do pure (if <-asBool (e c)then e a else e b))
 | .alloc j=>σ (S5 j rs (.tuple #[]))
 | .box j x=>σ (Instr.box j (e x))
 | .build t parts=>σ (Instr.build t (partsOf e parts.toList).toArray)
 | .buildSlice t len parts=>σ (Z3 t len (partsOf e parts.toList).toArray)
 | .load t a=>σ (u4 t (e a))
 | .nilCheck x=>σ (bR (e x))
 | .binOp op ju x y _=>σ (aQ op ju (qx x) (qx y) (e x) (e y))
 | .unOp op _ x=>σ (Op.unary op (e x))
 | .convert src dst x=>σ (convert src dst (e x))
 | .makeInterface ju x=>σ (Instr.makeInterface ju (e x))
 | .makeFunc fn first p=>σ (Instr.makeFunc fn (bP e first.toList).toArray (bP e p.toList).toArray)
 | .makeMap t r=>σ (Instr.makeMap t (r.map e))
 | .makeSlice t l c=>σ (Instr.makeSlice t (e l) (e c))
 | .slice t x lo hi mx=>σ (V6 t (e x) (lo.map e) (hi.map e) (mx.map e))
 | .fieldAddr s x f=>σ (u6 s (e x) f)
 | .field ju x f=>σ (Instr.field ju (e x) f)
 | .indexAddr t x h=>σ (j0 t (e x) (e h))
 | .index ju x h=>σ (Instr.index ju (e x) (e h))
 | .lookup ju x h ok=>σ (Instr.lookup ju (e x) (e h) ok)
 | .mapEntry t m k=>σ (Instr.mapEntry t (e m) (e k))
 | .range ju x=>σ (Instr.range ju (e x))
 | .entry q=>σ (Instr.entry (e q))
 | .typeAssert x ju w ok=>σ (Instr.typeAssert (e x) ju w ok)
 | .extract t h=>σ (c7 (e t) h)
 |_=>ν
def wB(e:T6->x1):Op->Option (Sem Unit)
 | .store t a x=>σ (o6 t (e a) (e x))
 | .mapUpdate t m k x=>σ (Instr.mapUpdate t (e m) (e k) (e x))
 | .insert t m k x=>σ (Instr.mapUpdate t (e m) (e k) (e x))
 | .entryStore t m s x=>σ (Instr.entryStore t (e m) (e s) (e x))
 |_=>ν
def qy(b:j5)(ats:Array r8)(a:r8)(args:Array x1):Option (Sem x1):=
 match b with
 | .append=>σ (j4 ats a args)
 | .cap=>σ (j5.cap_ ats a args)
 | .clear=>σ (j5.clear_ ats a args)
 | .copy=>σ (j5.copy_ ats a args)
 | .delete=>σ (j5.delete_ ats a args)
 | .len=>σ (X7 ats a args)
 | .max=>σ (j5.max_ ats a args)
 | .min=>σ (j5.min_ ats a args)
 |_=>ν
theorem Hv{s:Sem Next}(h:(tH s).run P w= .ok v I):s.run P w= .ok (.value v) I:=by
 unfold tH at h;rw[X4]at h;cases U:s.run P w with
 |halt x J=>grind [X9]
 |ok x J=>
  rw[U]at h;cases x<;>simp_all [X9,stuck,W9]
theorem Hw(x:x1)(b:Bool)(t:r8):Instr.next x b 0=Instr.next x b t:=rfl
theorem wC{f:T6->x1}{o:U6}{s:Sem x1}(h:rS f o.op=σ s)(a:s.run P w= .ok v I):
  (execOp f o).run P w= .ok (.value v) I:=by
 cases e:o.op with
 |nilCheck x=>
  rw[e]at h;cases h;have:=Hv P a
  grind [execOp]
 |pick c x y=>
  rw[e]at h;cases h;unfold execOp;simp only[e,X4,W9]at a ⊢;cases j:(asBool (f c)).run P w<;>grind [X9]
 |binOp op ju x y p=>
  rw[e]at h;cases h;unfold execOp;simp only[e];unfold aQ at a;rw[<-Hs]at a;simp only[X4,W9]at a ⊢;rw[a];rfl
 |_=>
  rw[e]at h
  first
   |(cases h;done)
   |(cases h;simp only[wA,Ht]at a;grind [execOp,X4,X9,W9])
   |(cases h;unfold execOp;simp only[e,X4,a,X9,W9])
theorem Hx{a:T6->x1}{o:U6}{s:Sem Unit}(h:wB a o.op=σ s){v:Unit}(f:s.run P w= .ok v I):
  (execOp a o).run P w= .ok .skip I:=by
 cases e:o.op with
 |_=>
  rw[e]at h
  first
   |(cases h;done)
   |(cases h;grind [execOp,X4,X9,W9])
def Enters(f:S9):Prop:=∀args w,(callFunc f args).run P w= .ok (.enter f args) w
inductive ak(f:S9)(args:List x1)(w:x3)(K:x1->x3->Prop):Prop
 |code (h1:Enters P f) (h2:Calls P f args.toArray w λe I=>∃v,e= .returned v/\cA w I/\K v I)
 |ext (v:x1) (I:x3) (h1:(callFunc f args.toArray).run P w= .ok (.value v) I) (h2:cA w I) (h3:K v I)
inductive gT(f:S9)(args:List x1)(w:x3)(K:x1->x3->Prop):Prop
 |code (h1:Enters P f) (h2:Calls P f args.toArray w λe I=>∃v,e= .returned v/\K v I)
 |ext (v:x1) (I:x3) (h1:(callFunc f args.toArray).run P w= .ok (.value v) I) (h3:K v I)
theorem gT.calls{f:S9}{K:x1->x3->Prop}(h:gT P f args w K)(a:Enters P f):Calls P f args.toArray w λe I=>∃v,e= .returned v/\K v I:=by
 cases h with
 |code _ h=>exact h
 |ext v I h1=>rw[a]at h1;cases h1
def ja(l:Nat)(args:List x1)(w:x3)(K:x1->x3->Prop):Prop:=
 YieldAt Fence.wide 0 P l args.toArray w λe I=>∃v,e= .returned v/\K v I
theorem ja.X{P:X2}{l:Nat}{K a:x1->x3->Prop}(h:ja P l args w K)(e:∀v I,K v I->a v I):ja P l args w a:=by
 obtain⟨fn,tmps,f,body,j,p⟩:=h;exact⟨fn,tmps,f,body,j,RoundIn.mono p λ_ I ⟨v,h1,q⟩=>⟨v,h1,e v I q⟩⟩
def tJ(free:Bool)(f:x1)(args:List x1)(w:x3)(K:x1->x3->Prop):Prop:=
 match f with
 | .func (.func g) first cap=>bif free then gT P g (first.toList++args++cap.toList) w K else ak P g (first.toList++args++cap.toList) w K
 | .func (.yield l) first _=>bif free then free=rs/\ja P l (first.toList++args) w K else ja P l (first.toList++args) w λv I=>cA w I/\K v I
 |_=>False
def ab(s:Sem x1)(w:x3)(K:x1->Prop):Prop:=∃v,(∀I,Ext w I->s.run P I= .ok v I)/\K v
def Hy:List (Nat×Nat):=[(9,23),(23,23)]
def Hz(s d:Nat):Bool:=Hy.any λp=>S4 p.1 s&&S4 p.2 d
def lF(o:U6):Bool:=
 match o.op with
 | .convert s d _=>!Hz s d
 | .move _| .assign _| .pick .. | .load .. | .nilCheck _| .binOp .. | .unOp .. | .makeInterface .. | .makeFunc .. | .slice .. | .fieldAddr .. | .field ..
 | .indexAddr .. | .index .. | .lookup .. | .extract .. | .build .. | .typeAssert ..=>rs
 | .call c=>
  match c.callee with
  | .builtin .len| .builtin .cap| .builtin .min| .builtin .max=>rs
  |_=>sp
 |_=>sp
def cC(s:Sem x1)(v:x1)(I:x3):Prop:=∀a,Ext I a->s.run P a= .ok v a
def nj(o:U6)(e:Env)(w:x3)(K:Env->(x3->Prop)->Prop):Prop:=
 bif known e (opsOf o.op)then
  match o.op with
  | .move x| .assign x=>
   match eZ e x with
   |some y=>K (ei e o.dst y) (λ_=>True)
   |none=>False
  | .pick c a b=>
   match eZ e c with
   |some (.b rs)=>(match eZ e a with|some y=>K (ei e o.dst y) (λ_=>True)|none=>False)
   |some (.b sp)=>(match eZ e b with|some y=>K (ei e o.dst y) (λ_=>True)|none=>False)
   |some (.v x)=>Split x (K (ei e o.dst (.v (c0 e a))) (λ_=>True)) (K (ei e o.dst (.v (c0 e b))) (λ_=>True))
   |some .u=>False
   |none=>False
  | .call c=>
   match c.callee with
   | .builtin b=>
    match qy b c.argTypes o.type (bP (c0 e) c.args.toList).toArray with
    |some s=>ab P s w λv=>K (ei e o.dst (.v v)) (cC P s v)
    |none=>False
   |_=>False
  |op=>
   match rS (c0 e) op with
   |some s=>ab P s w λv=>K (ei e o.dst (.v v)) (cC P s v)
   |none=>False
 else False
def wD(free:fK)(o:U6)(e:Env)(w:x3)(K:Env->x3->Prop):Prop:=
 bif known e (opsOf o.op)then
  match o.op with
  | .call c=>
   match c.callee with
   | .builtin b=>
    match qy b c.argTypes o.type (bP (c0 e) c.args.toList).toArray with
    |some s=>aD P s w λv I=>K (ei e o.dst (.v v)) I
    |none=>False
   | .value (.func f)=>
    bif free.1 then gT P f (bP (c0 e) c.args.toList) w λv I=>K (ei e o.dst (.v v)) I
    else ak P f (bP (c0 e) c.args.toList) w λv I=>K (ei e o.dst (.v v)) I
   | .value x=>tJ P free.1 (c0 e x) (bP (c0 e) c.args.toList) w λv I=>K (ei e o.dst (.v v)) I
   | .invoke _ _=>False
  | .next x str=>tG P free (Instr.next (c0 e x) str 0) w λv I=>K (ei e o.dst (.v v)) I
  |op=>
   match rS (c0 e) op with
   |some s=>aD P s w λv I=>K (ei e o.dst (.v v)) I
   |none=>
    match wB (c0 e) op with
    |some s=>aD P s w λ_ I=>K (ei e o.dst (.v undef)) I
    |none=>False
 else False
def qz(free:fK)(o:U6)(e:Env)(w:x3)(K:Env->x3->Prop):Prop:=
 bif lF o then nj P o e w (λa _=>K a w)else wD P free o e w K
theorem Enters.of{f:S9}{fn:Func}{c:Code}(a:P.funcs[f]?=σ fn)(e:fn.body=σ c)(h:(fn.name == "runtime.NumGoroutine")=sp):Enters P f:=by
 intro args w
 grind [callFunc,X4,program,Sem.run,X9,W9]
variable{P}
variable{N:Nat}{r:Option Nat}{o:U6}{e:Env}{a:Act}{w:x3}
theorem lG(f:T9 N e a)(hk:known e (opsOf o.op)=rs)(U:∀cs b,o.op≠ .select cs b)(h:∀c,o.op≠ .go c:=by simp_all)(j:∀c,o.op≠ .defer c:=by simp_all):
  execOp a.eval o=execOp (c0 e) o:=
 execOp_congr o U λx p=>f.eval (by grind [Af,Hu])
theorem rT{next:Act->x3->Prop}{Q:Exit->Act->x3->Prop}(f:T9 N e a)(hk:known e (opsOf o.op)=rs)(U:∀cs b,o.op≠ .select cs b)(j:∀c,o.op≠ .defer c){v:x1}{I:x3}(p:(execOp (c0 e) o).run P w= .ok (.value v) I)(h:next (a.put o.dst v) I)(q:∀c,o.op≠ .go c:=by simp_all):o.wpIn (eN r) 0 P a w next Q:=by
 refine⟨λ_ _=>trivial,?_⟩
 grind [U6.semAt_eq,lG,U6.uponIn_value]
theorem HA{next:Act->x3->Prop}{Q:Exit->Act->x3->Prop}(f:T9 N e a)(hk:known e (opsOf o.op)=rs)(U:∀cs b,o.op≠ .select cs b)(j:∀c,o.op≠ .defer c){I:x3}(p:(execOp (c0 e) o).run P w= .ok .skip I)(h:next (a.put o.dst undef) I)(q:∀c,o.op≠ .go c:=by simp_all):o.wpIn (eN r) 0 P a w next Q:=by
 refine⟨λ_ _=>trivial,?_⟩
 grind [U6.semAt_eq,lG,U6.uponIn_skip]
def fx(N:Nat)(free:fK)(K:Env->x3->Prop)(o:U6)(a:Act)(w:x3)(a':Act)(I:x3):Prop:=
 ∃e v,K e I/\T9 N e a'/\a'=a.put o.dst v/\(free.1=sp->cM free.2 w I)
theorem fx.of{free:fK}{K:Env->x3->Prop}{x:eM}(f:K (ei e o.dst x) I)(h:T9 N e a)(j:k1 N o.dst=rs)(p:x.val=v)(q:free.1=sp->cM free.2 w I):fx N free K o a w (a.put o.dst v) I:=⟨_,v,f,h.put j p,rfl,q⟩
theorem Ai{free:fK}{K:Env->x3->Prop}{Q:Exit->Act->x3->Prop}{f:S9}{args:Array x1}(p:T9 N e a)(q:k1 N o.dst=rs)(h:Calls P f args w λj I=>∃v,j= .returned v/\(free.1=sp->cM free.2 w I)/\K (ei e o.dst (.v v)) I):
  o.uponIn (eN r) 0 P a (fx N free K o a w) Q (.ok (.enter f args) w):=by
 rw[U6.uponIn_enter];refine⟨wz _ _,CallsIn.mono (Ag h) ?_⟩;rintro j I ⟨v,rfl,s,x⟩;exact fx.of x p q rfl s
theorem nk{x:T6}{y:eM}(h:eZ e x=σ y):c0 e x=y.val:=by simp[c0,h]
theorem Aj{l:List T6}{x:T6}(hk:known e l=rs)(a:x∈l):∃y,eZ e x=σ y:=Option.isSome_iff_exists.1 (Af hk x a)
theorem Ak{K:Env->(x3->Prop)->Prop}(h:nj P o e w K)(r:T9 N e a)(J:k1 N o.dst=rs):
  ∃v,∃st:x3->Prop,(∀I,Ext w I->(execOp a.eval o).run P I= .ok (.value v) I)/\(∃B,K B st/\T9 N B (a.put o.dst v))/\(∀c,o.op≠ .defer c)/\
   (∀I,st I->∀p,Ext I p->(execOp a.eval o).run P p= .ok (.value v) p):=by
 unfold nj at h;cases hk:known e (opsOf o.op)with
 |false=>grind
 |true=>
  rw[hk]at h;simp only[cond_true]at h;have put:∀{x:eM}{v:x1}{st:x3->Prop},K (ei e o.dst x) st->x.val=v->∃B,K B st/\T9 N B (a.put o.dst v):=λh1 C=>⟨_,h1,r.put J C⟩;cases f:o.op with
  |move x=>
   rw[f]at h;simp only at h;cases A:eZ e x with
   |none=>grind
   |some y=>
    rw[A]at h;have all:∀I:x3,(execOp a.eval o).run P I= .ok (.value y.val) I:=λI=>by
     rw[lG r hk (by simp[f])]
     grind [execOp,W9,nk]
    exact⟨y.val,_,by grind,put h rfl,Ξ,by grind⟩
  |assign x=>
   rw[f]at h;simp only at h;cases A:eZ e x with
   |none=>grind
   |some y=>
    rw[A]at h;have all:∀I:x3,(execOp a.eval o).run P I= .ok (.value y.val) I:=λI=>by
     rw[lG r hk (by simp[f])]
     grind [execOp,W9,nk]
    exact⟨y.val,_,by grind,put h rfl,Ξ,by grind⟩
  |pick c x y=>
   rw[f]at h;simp only at h;have F:=hk;rw[f]at F;obtain⟨R,A⟩:=Aj F (x:=x) (by simp[opsOf]);obtain⟨S,H⟩:=Aj F (x:=y) (by simp[opsOf]);have E:∀(t:Bool)(I:x3),c0 e c= .bool t->(execOp a.eval o).run P I= .ok (.value (if t=rs then c0 e x else c0 e y)) I:=by
    grind [lG,execOp,asBool,W9]
   cases j:eZ e c with
   |none=>grind
   |some L=>
    rw[j]at h;cases L with
    |b t=>
     cases t with
     |true=>
      simp only[A]at h;exact⟨_,_,λI _=>E rs I (nk j),put h (by simp[nk A]),Ξ,λ_ _ I _=>E rs I (nk j)⟩
     |false=>
      simp only[H]at h;exact⟨_,_,λI _=>E sp I (nk j),put h (by simp[nk H]),Ξ,λ_ _ I _=>E sp I (nk j)⟩
    |v z=>
     obtain⟨t,M,O,Q⟩:=h;have q:=λI=>E t I (by rw[nk j];exact M);cases t with
     |true=>exact⟨_,_,λI _=>q I,put (O rfl) rfl,Ξ,by grind⟩
     |false=>exact⟨_,_,λI _=>q I,put (Q rfl) rfl,Ξ,by grind⟩
    |u=>exact h.elim
  |call c=>
   rw[f]at h;simp only at h;cases j:c.callee with
   |builtin b=>
    rw[j]at h;simp only at h;rw[wA]at h;cases U:qy b c.argTypes o.type (c.args.map (c0 e))with
    |none=>grind
    |some s=>
     rw[U]at h;obtain⟨v,q,G⟩:=h;have all:∀I:x3,s.run P I= .ok v I->(execOp a.eval o).run P I= .ok (.value v) I:=λI q=>by
      rw[lG r hk (by simp[f])];unfold execOp;cases b<;>simp only[qy]at U<;>first|(cases U;done)|(cases U;simp[f,j,resolve,invoke,builtin,q,X9])
     exact⟨v,_,by grind,put G rfl,Ξ,λI h1 p C=>all p (h1 p C)⟩
   |value x=>grind
   |invoke x m=>grind
  |_=>
   rw[f]at h
   first
    |(simp only[rS]at h;done)
    |(obtain⟨v,q,G⟩:=h
      refine⟨v,_,λI hw=>?_,put G rfl,Ξ,λI h1 p C=>?_⟩
      .rw[lG r hk (by simp[f])];exact wC P (by rw[f];rfl) (q I hw)
      .rw[lG r hk (by simp[f])];exact wC P (by rw[f];rfl) (h1 p C))
theorem HB{free:fK}{K:Env->x3->Prop}{Q:Exit->Act->x3->Prop}(h:wD P free o e w K)(p:T9 N e a)(C:k1 N o.dst=rs):
  o.wpIn (eN r) 0 P a w (fx N free K o a w) Q:=by
 unfold wD at h;cases hk:known e (opsOf o.op)with
 |false=>grind
 |true=>
  rw[hk]at h;simp only[cond_true]at h;cases j:o.op with
  |call c=>
   rw[j]at h;simp only at h;cases F:c.callee with
   |builtin b=>
    rw[F]at h;simp only at h;rw[wA]at h;cases U:qy b c.argTypes o.type (c.args.map (c0 e))with
    |none=>grind
    |some s=>
     rw[U]at h;obtain⟨v,I,z,A,q⟩:=h;refine rT p hk (by simp[j]) (by simp[j]) (v:=v) ?_ (fx.of q p C rfl λ_=>A.b);unfold execOp;cases b<;>simp only[qy]at U<;>first|(cases U;done)|(cases U;simp[j,F,resolve,invoke,builtin,z,X9])
   |value x=>
    rw[F]at h;have step:∀(d:Deferred)(y:x1),c0 e x=y->Deferred.ofValue y (c.args.map (c0 e))=pure d->
      (invoke d.target d.args).run P w=(execOp (c0 e) o).run P w:=by
     grind [execOp,resolve]
    have G:∀(g:S9)(first cap:Array x1),c0 e x= .func (.func g) first cap->
      (execOp (c0 e) o).run P w=(callFunc g (first.toList++bP (c0 e) c.args.toList++cap.toList).toArray).run P w:=by
     intro g first cap B
     rw[<-step {target:=.fn (.func g) cap,args:=first++c.args.map (c0 e)} _ B rfl];simp only[invoke];have H:first++c.args.map (c0 e)++cap=(first.toList++bP (c0 e) c.args.toList++cap.toList).toArray:=by grind [tI]
     rw[H]
    have enter:∀(g:S9)(first cap:Array x1),c0 e x= .func (.func g) first cap->Enters P g->
      (execOp (c0 e) o).run P w= .ok (.enter g (first.toList++bP (c0 e) c.args.toList++cap.toList).toArray) w:=by
     intro g first cap B E
     rw[G g first cap B,E]
    have go:∀(g:S9)(first cap:Array x1),c0 e x= .func (.func g) first cap->
      (bif free.1 then gT P g (first.toList++bP (c0 e) c.args.toList++cap.toList) w λv I=>K (ei e o.dst (.v v)) I
       else ak P g (first.toList++bP (c0 e) c.args.toList++cap.toList) w λv I=>K (ei e o.dst (.v v)) I)->
      o.wpIn (eN r) 0 P a w (fx N free K o a w) Q:=by
     intro g first cap B h
     obtain⟨fr,M⟩:=free;cases fr with
     |true=>
      rcases h with⟨E,L⟩|⟨v,I,z,q⟩
      .refine⟨λ_ _=>trivial,?_⟩
       grind [U6.semAt_eq,lG,Ai]
      .rw[<-G g first cap B]at z;exact rT p hk (by simp[j]) (by simp[j]) z (fx.of q p C rfl (by grind))
     |false=>
      rcases h with⟨E,L⟩|⟨v,I,z,A,q⟩
      .refine⟨λ_ _=>trivial,?_⟩;rw[U6.semAt_eq _ _ _ (by simp[j]),lG p hk (by simp[j])];rw[enter g first cap B E];exact Ai p C (L.X (by grind [cA.b]))
      .rw[<-G g first cap B]at z;exact rT p hk (by simp[j]) (by simp[j]) z (fx.of q p C rfl λ_=>A.b)
    have J:tJ P free.1 (c0 e x) (bP (c0 e) c.args.toList) w (λv I=>K (ei e o.dst (.v v)) I)->
      o.wpIn (eN r) 0 P a w (fx N free K o a w) Q:=by
     intro h;unfold tJ at h;split at h
     .grind
     .rename_i l first cap B
      obtain⟨fn,tmps,O,body,R,S⟩:ja P l (first.toList++bP (c0 e) c.args.toList) w λv I=>(free.1=sp->cM free.2 w I)/\K (ei e o.dst (.v v)) I:=by
       obtain⟨fr,M⟩:=free;cases fr with
       |true=>exact ja.X h.2 (by grind)
       |false=>exact ja.X h λv I hk=>⟨λ_=>hk.1.b,hk.2⟩
      refine⟨λ_ _=>trivial,?_⟩;rw[U6.semAt_eq _ _ _ (by simp[j]),lG p hk (by simp[j])];have:(execOp (c0 e) o).run P w= .ok (.round l fn tmps O body) w:=by
       rw[<-step {target:=.fn (.yield l) cap,args:=first++c.args.map (c0 e)} _ B rfl,<-R];have H:(first.toList++bP (c0 e) c.args.toList).toArray=first++c.args.map (c0 e):=by grind [tI]
       rw[H];rfl
      rw[this,U6.uponIn_round];refine⟨wz _ _,?_⟩;have T:=S;refine RoundIn.mono T ?_;rintro V I ⟨v,rfl,A,q⟩;exact fx.of q p C rfl A
     grind
    cases x with
    |func f=>exact go f #[] #[] rfl (by simpa using h)
    |tmp t=>exact J h
    |const v=>exact J h
    |global g=>exact J h
   |invoke x m=>grind
  |next x str=>
   rw[j]at h;obtain⟨v,I,z,A,q⟩:=h;refine rT p hk (by simp[j]) (by simp[j]) (v:=v) ?_ (fx.of q p C rfl A)
   grind [Hw,execOp,X4,X9,W9]
  |_=>
   rw[j]at h
   first
    |(simp only[rS,wB]at h;done)
    |(obtain⟨v,I,z,A,q⟩:=h
      exact rT p hk (by simp[j]) (by simp[j]) (wC P (by rw[j];rfl) z) (fx.of q p C rfl λ_=>A.b))
    |(obtain⟨v,I,z,A,q⟩:=h
      exact HA p hk (by simp[j]) (by simp[j]) (Hx P (by rw[j];rfl) z) (fx.of q p C rfl λ_=>A.b))
theorem tK{free:fK}{K:Env->x3->Prop}{Q:Exit->Act->x3->Prop}(h:qz P free o e w K)(j:T9 N e a)(p:k1 N o.dst=rs):
  o.wpIn (eN r) 0 P a w (fx N free K o a w) Q:=by
 unfold qz at h;cases q:lF o with
 |false=>grind [HB]
 |true=>
  rw[q]at h;have h:nj P o e w (λf _=>K f w):=h;obtain⟨v,st,s,⟨f,x,y⟩,z,_⟩:=Ak h j p;refine⟨λ_ _=>trivial,?_⟩;rw[U6.semAt_eq _ _ _ z,s w (Ext.refl _),U6.uponIn_value];exact⟨f,v,x,y,rfl,λ_=>cM.refl _ _⟩
end
section
variable{P:X2}
def Still{α:Type}(P:X2)(s:Sem α):Prop:=∀w v J,s.run P w= .ok v J->J=w/\∀I,s.run P I= .ok v I
theorem Still.pure{α:Type}(a:α):Still P (Pure.pure a:Sem α):=λw v J h=>by
 rw[W9]at h;cases h;exact⟨rfl,λI=>by rw[W9]⟩
theorem Still.bind{α β:Type}{s:Sem α}{f:α->Sem β}(U:Still P s)(j:∀a,Still P (f a)):Still P (s >>= f):=λw v J h=>by
 rw[X4]at h;cases e:s.run P w with
 |halt x V=>grind [X9]
 |ok a V=>
  rw[e]at h;obtain⟨rfl,p⟩:=U w a V e;obtain⟨rfl,q⟩:=j a _ v J h;exact⟨rfl,λI=>by rw[X4,p I];exact q I⟩
theorem Still.never{α:Type}{s:Sem α}(h:∀w v J,s.run P w≠ .ok v J):Still P s:=λw v J bf=>m7 bf (h w v J)
theorem Still.stuck{α:Type}(m:String):Still P (stuck m:Sem α):=.never λw v J h=>by simp[Go.stuck]at h
theorem Still.unsupported{α:Type}(m):Still P (unsupported m:Sem α):=.never λw v J h=>by simp[Go.unsupported]at h
theorem Still.program:Still P program:=λw v J h=>by cases h;exact⟨rfl,λ_=>rfl⟩
theorem Still.underlying(t:r8):Still P (underlying t):=Still.bind .program (by grind [Still.pure,Still.stuck])
theorem Still.typeInfo(t:r8):Still P (typeInfo t):=Still.bind .program λp=>by
 grind [Still.pure,Still.stuck]
theorem Still.sizeOf(t:r8):Still P (sizeOf t):=Still.bind (.typeInfo t) λ_=>Still.pure _
theorem Still.boundsPanic{α:Type}(k:o4)(x y:Int)(c:BoundsCode):Still P (boundsPanic k x y c:Sem α):=.never λw v J h=>by
 have e:∀(s:Sem Bool)(w:x3)(v:α)(J:x3),(s >>= λb=>(runtimePanic (.bounds (Y6.wrap x) y b c):Sem α)).run P w≠ .ok v J:=by
  intro s w v J h;rw[X4]at h;cases f:s.run P w with
  |halt x V=>rw[f]at h;simp[X9]at h
  |ok a V=>rw[f]at h;simp[X9,Go.runtimePanic,Go.goPanic]at h
 unfold Go.boundsPanic at h;dsimp only at h;split at h
 .exact e _ _ _ _ h
 .exact e _ _ _ _ h
theorem Still.asIntOf(v:x1):Still P (asIntOf v):=by
 unfold Go.asIntOf;split
 .exact Still.pure _
 .exact Still.unsupported _
 .exact Still.stuck _
theorem Still.sureAddr(v:x1):Still P (Instr.sureAddr v):=by
 unfold Instr.sureAddr
 grind [Still.pure,Still.stuck]
theorem Still.extract(v:x1)(i:Nat):Still P (c7 v i):=by
 unfold c7
 grind [Still.pure,Still.stuck]
theorem Still.indexAt(t:r8)(x i:x1):Still P (j0 t x i):=by
 have tail:∀(t:r8)(k:o4)(i:Int)(base:Option S6)(len:Nat)(e:r8),Still P (do
   let f:=len<=1&&(match <-Go.underlying t with| .array ..=>rs|_=>sp)
   match base with
   |some a=>
    if 0<=i/\i<len then Pure.pure (x1.pointer (σ (a.add (i.toNat*(<-Go.sizeOf e)))))
    else if f then Go.unsupported (.noEntry "op/indexAddr.an index out of range at an array of length 0 or 1 (ledger 616)")
    else Go.boundsPanic k i len .index
   |none=>Go.boundsPanic k i 0 .index):=by
  intro t k i base len e;refine .bind (.underlying t) λd=>?_;cases base with
  |none=>grind [Still.boundsPanic]
  |some a=>
   dsimp only;split
   .exact .bind (.sizeOf e) λ_=>.pure _
   grind [Still.unsupported,Still.boundsPanic]
 unfold j0;refine .bind (.asIntOf i) λh=>?_;refine .bind (.underlying t) λd=>?_;split
 .refine .bind (.sureAddr _) λb=>?_;refine .bind (.pure _) λy=>?_;exact tail _ _ _ _ _ _
 .refine .bind (.pure _) λy=>?_;exact tail _ _ _ _ _ _
 .refine .bind (.stuck _) λy=>?_;exact tail _ _ _ _ _ _
end
section
variable(P:X2)
def tL(free:fK)(ops:Array U6)(o:U6)(e:Env)(w:x3)(K:Env->x3->Prop):Prop:=
 match o.guard with
 |none=>qz P free o e w K
 |some (j,b)=>
  match(ops[j]?).bind (·.dst)with
  |none=>False
  |some s=>
   match look e s with
   |some (.b c)=>bif xor c b then K (ei e o.dst .u) w else qz P free o e w K
   |some (.v x)=>
    Split x (bif b then qz P free o ((s,.b rs)::e) w K else K (ei ((s,.b rs)::e) o.dst .u) w)
     (bif b then K (ei ((s,.b sp)::e) o.dst .u) w else qz P free o ((s,.b sp)::e) w K)
   |some .u=>K (ei e o.dst .u) w
   |none=>False
def qA(free:fK)(ops:Array U6):List U6->Env->x3->(Env->x3->Prop)->Prop
 |[],e,w,K=>K e w
 |o::l,e,w,K=>tL P free ops o e w λa I=>qA free ops l a I K
def wE(ops:Array U6)(o:U6)(e:Env)(w:x3)(K:Env->(x3->Prop)->Prop):Prop:=
 match o.guard with
 |none=>nj P o e w K
 |some (j,b)=>
  match(ops[j]?).bind (·.dst)with
  |none=>False
  |some s=>
   match look e s with
   |some (.b c)=>bif xor c b then K (ei e o.dst .u) (λ_=>True)else nj P o e w K
   |some (.v x)=>
    Split x (bif b then nj P o ((s,.b rs)::e) w K else K (ei ((s,.b rs)::e) o.dst .u) (λ_=>True))
     (bif b then K (ei ((s,.b sp)::e) o.dst .u) (λ_=>True)else nj P o ((s,.b sp)::e) w K)
   |some .u=>K (ei e o.dst .u) (λ_=>True)
   |none=>False
def nl(o:U6):Bool:=
 match o.op with
 | .move _| .assign _| .extract .. | .indexAddr ..=>rs
 |_=>sp
def oe(ops:Array U6):List Nat->Option Nat
 |[]=>ν
 |i::r=>match ops[i]? with
  |some o=>bif lF o then σ i else oe ops r
  |none=>oe ops r
def wF(p:Nat->Prop):List Nat->Prop
 |[]=>True
 |[i]=>p i
 |i::r=>p i/\wF p r
def ml(a:Array Nat)(j k:Nat):Bool:=!(S4 k j)&&(!((a.getD j 0).testBit k)&& !((a.getD k 0).testBit j))
def tM(same:Bool)(q:Nat)(w:x3)(st:x3->Prop)(a:List (x3×List (Nat×(x3->Prop)))):List (x3×List (Nat×(x3->Prop))):=
 match same,a with
 |true,g::r=>(g.1,(q,st)::g.2)::r
 |_,a=>(w,[(q,st)])::a
def rU(a:Array Nat)(j:Nat):List (Nat×(x3->Prop))->Bool
 |[]=>sp
 |x::r=>ml a j x.1||rU a j r
def rV(a:Array Nat)(j:Nat)(I:x3):List (Nat×(x3->Prop))->Prop
 |[]=>True
 |x::r=>bif ml a j x.1 then x.2 I/\rV a j I r else rV a j I r
def pf(a:Array Nat)(j:Nat)(I:x3)(C:Prop):List (x3×List (Nat×(x3->Prop)))->Prop
 |[]=>C
 |g::r=>bif rU a j g.2 then(Ext g.1 I\/rV a j I g.2)/\pf a j I C r else pf a j I C r
def og(free:fK)(ops:Array U6)(f:Array Nat):Nat->Array Bool->Bool->List (x3×List (Nat×(x3->Prop)))->Env->x3->(Env->x3->Prop)->Prop
 |0,a,_,_,e,w,K=>match Region.ready .any ops a with|[]=>K e w|_=>False
 |fuel+1,a,same,h,e,w,K=>
  match Region.ready .any ops a with
  |[]=>K e w
  |i::r=>
   match oe ops (i::r)with
   |some q=>
    bif Region.free .any ops a q then
     match ops[q]? with
     |some o=>wE P ops o e w λp st=>
       bif nl o then og free ops f fuel (a.setIfInBounds q rs) same h p w K
       else og free ops f fuel (a.setIfInBounds q rs) rs (tM same q w st h) p w K
     |none=>False
    else False
   |none=>
    wF (λj=>match ops[j]? with
     |some o=>tL P free ops o e w λp I=>pf f j I (og free ops f fuel (a.setIfInBounds j rs) sp h p I K) h
     |none=>False) (i::r)
def wG(free:fK)(ops:Array U6)(e:Env)(w:x3)(K:Env->x3->Prop):Prop:=
 bif Region.noSelect ops then og P free ops (Region.before ops) ops.size (Array.replicate ops.size sp) sp [] e w K else False
end
section
variable{P:X2}{N:Nat}{r:Option Nat}{free:fK}{ops:Array U6}
theorem HC{e:Env}{a:Act}(f:T9 N e a){s:Nat}{c:Bool}(q:(ops[j]?).bind (·.dst)=σ s){x:eM}(U:look e s=σ x)(p:x.val= .bool c):
  yielded ops a.tmps j=σ c:=by
 have h:=f.2 s x U;rw[p]at h;have r:a.tmps[s]?=σ (.bool c):=by
  rw[Array.getD_eq_getD_getElem?]at h
  grind [undef]
 grind [yielded]
theorem tN{e:Env}{a:Act}(f:T9 N e a){o:U6}{s:Nat}{b c:Bool}(h:o.guard=σ (j,b))(p:(ops[j]?).bind (·.dst)=σ s){x:eM}(U:look e s=σ x)(q:x.val= .bool c):Region.wanted o (yielded ops a.tmps)= !(xor c b):=by
 simp only[Region.wanted,h,HC f p U q]
 grind
theorem Al{e:Env}{a:Act}(f:T9 N e a){o:U6}{s:Nat}{b:Bool}(p:o.guard=σ (j,b))(q:(ops[j]?).bind (·.dst)=σ s)(U:look e s=σ .u):Region.wanted o (yielded ops a.tmps)=sp:=by
 have h:=f.2 s .u U;have r:yielded ops a.tmps j=ν:=by
  rw[Array.getD_eq_getD_getElem?]at h
  grind [yielded,eM.val,undef]
 grind [Region.wanted]
theorem T9.lit{e:Env}{a:Act}(h:T9 N e a){s:Nat}{x:eM}{c:Bool}(U:look e s=σ x)(p:x.val= .bool c):T9 N ((s,.b c)::e) a:=by
 refine⟨h.1,λt y f=>?_⟩;simp only[look]at f;cases j:S4 s t with
 |true=>
  have:s=t:=Nat.eq_of_beq_eq_true j;subst this;simp only[j,cond_true,X6]at f;subst f;rw[h.2 s x U,p];rfl
 |false=>simp only[j,cond_false]at f;exact h.2 t y f
theorem Am{o:U6}{e:Env}{a:Act}{K:Env->x3->Prop}{Q:Exit->Act->x3->Prop}(h:tL P free ops o e w K)(f:T9 N e a)(p:k1 N o.dst=rs):
  (Region.wanted o (yielded ops a.tmps)=rs/\o.wpIn (eN r) 0 P a w (fx N free K o a w) Q)\/
  (Region.wanted o (yielded ops a.tmps)=sp/\fx N free K o a w (a.put o.dst undef) w):=by
 unfold tL at h;cases q:o.guard with
 |none=>grind [Region.wanted,tK]
 |some E=>
  obtain⟨j,b⟩:=E;rw[q]at h;simp only at h;cases z:(ops[j]?).bind (·.dst)with
  |none=>grind
  |some s=>
   rw[z]at h;simp only at h;cases U:look e s with
   |none=>grind
   |some x=>
    rw[U]at h;cases x with
    |b c=>
     simp only at h;have hw:=tN f q z U rfl;cases F:xor c b with
     |true=>
      rw[F]at h hw;exact .inr ⟨hw,fx.of h f p rfl λ_=>cM.refl _ _⟩
     |false=>
      grind [tK]
    |v y=>
     simp only at h;obtain⟨c,rfl,A,B⟩:=h;have hw:=tN f q z U rfl;have C:=f.lit U rfl;cases c with
     |true=>
      have A:=A rfl;cases b with
      |true=>grind [tK]
      |false=>exact .inr ⟨hw,fx.of A C p rfl λ_=>cM.refl _ _⟩
     |false=>
      have B:=B rfl;cases b with
      |true=>exact .inr ⟨hw,fx.of B C p rfl λ_=>cM.refl _ _⟩
      |false=>grind [tK]
    |u=>exact .inr ⟨Al f q z U,fx.of h f p rfl λ_=>cM.refl _ _⟩
def gU(D:List Nat)(a a':Act):Prop:=a'.defers=a.defers/\∀t,t∉D->a'.tmps.getD t undef=a.tmps.getD t undef
theorem gU.refl(D:List Nat)(a:Act):gU D a a:=⟨rfl,λ_ _=>rfl⟩
theorem gU.F{a b c:Act}(h:gU D a b)(k:gU D b c):gU D a c:=⟨k.1.F h.1,λt e=>(k.2 t e).F (h.2 t e)⟩
theorem gU.put(a:Act){d:Option Tmp}(v:x1)(e:∀t,d=σ t->t∈D):gU D a (a.put d v):=by
 cases d with
 |none=>exact gU.refl _ _
 |some s=>
  refine⟨rfl,λt f=>?_⟩;have h:s≠t:=by grind
  simp only[Act.put,Array.getD_eq_getD_getElem?]
  grind
def oh(N:Nat)(free:fK)(K:Env->x3->Prop)(D:List Nat)(a:Act)(w:x3)(a':Act)(I:x3):Prop:=
 ∃e,K e I/\T9 N e a'/\gU D a a'/\(free.1=sp->cM free.2 w I)
theorem oh.step{K:Env->x3->Prop}{a e a':Act}{J:x3}(h:oh N free K D e J a' I)(hk:gU D a e)(j:free.1=sp->cM free.2 w J):
  oh N free K D a w a' I:=by
 obtain⟨p,h1,q,r,s⟩:=h;exact⟨p,h1,q,hk.F r,λf=>(j f).F (s f)⟩
def pg(N:Nat)(l:List U6):Bool:=l.all λo=>k1 N o.dst
theorem HD{K:Env->x3->Prop}{Q:Exit->Act->x3->Prop}(M:∀o∈ops.toList,∀t,o.dst=σ t->t∈D)(O:pg N ops.toList=rs):
  ∀(l:List U6)(k:Nat)(e:Env)(a:Act)(w:x3),(∀j,l[j]?=ops[k+j]?)->qA P free ops l e w K->T9 N e a->
   (∀a' I,oh N free K D a w a' I->Q .normal a' I)->wpOpsIn (eN r) 0 P ops Q (List.range' k l.length) a w:=by
 intro l;induction l with
 |nil=>
  intro k e a w _ h f p;exact p a w ⟨e,h,f,gU.refl _ _,λ_=>cM.refl _ _⟩
 |cons o l z=>
  intro k e a w x h f p;have y:=x 0;simp only[List.getElem?_cons_zero,Nat.add_zero]at y;have R:o∈ops.toList:=by
   grind
  have A:k1 N o.dst=rs:=by
   grind [pg]
  have B:∀j,l[j]?=ops[k+1+j]?:=λj=>by
   have:=x (j+1)
   grind
  have next:∀q J,fx N free (λC I=>qA P free ops l C I K) o a w q J->wpOpsIn (eN r) 0 P ops Q (List.range' (k+1) l.length) q J:=by
   rintro q J ⟨E,v,F,G,rfl,H⟩;refine z (k+1) E _ J B F G λa' I L=>p a' I (L.step (by grind [gU.put]) H)
  simp only[qA]at h;show wpOpsIn (eN r) 0 P ops Q (k::List.range' (k+1) l.length) a w;unfold wpOpsIn;rw[<-y];simp only;rcases Am h f A with⟨hw,s⟩|⟨hw,s⟩
  .rw[m5 hw];exact U6.wpIn_mono next s
  .rw[hw];exact⟨λ_ _=>trivial,next _ _ s⟩
theorem HE{K:Env->x3->Prop}{Q:Exit->Act->x3->Prop}{id:Nat}{e:Env}{a:Act}(f:∀o∈ops.toList,∀t,o.dst=σ t->t∈D)(j:pg N ops.toList=rs)(h:qA P free ops ops.toList e w K)(p:T9 N e a)(q:∀a' I,oh N free K D a w a' I->Q .normal a' I):
  (Code.region id ops sp).wpIn (eN r) 0 P Q a w:=by
 refine wpIn_region ?_;have:=HD (r:=r) f j ops.toList 0 e a w (by grind) h p q
 grind [List.range_eq_range']
end
section
variable{P:X2}{N:Nat}{r:Option Nat}{free:fK}{ops:Array U6}{Q:Exit->Act->x3->Prop}
theorem HF(e:Option Nat)(o:U6)(U:∀cs b,o.op≠ .select cs b)(a:Act)(d:Option Tmp)(v:x1)(h:∀t,d=σ t->t∉o.looksAt ops):
  o.semAt e (a.put d v).eval=o.semAt e a.eval:=by
 have he:=execOp_put o U a d v h;unfold U6.semAt;split
 .rename_i l c p;have:resolve (a.put d v).eval c o.type=resolve a.eval c o.type:=resolve_congr c o.type λx q=>Act.eval_put λt f j=>h t f (by
   subst j;refine List.mem_append_left _ (List.mem_filterMap.2 ⟨.tmp t,?_,rfl⟩)
   grind [Op.operands])
  rw[this]
 .exact he
def oi(o:U6)(w0:x3)(st:x3->Prop)(I:x3):Prop:=nl o=rs\/Ext w0 I\/∃J,st J/\Ext J I
theorem oi.W{o:U6}{w0:x3}{st:x3->Prop}(h:oi o w0 st w)(k:Ext w I):oi o w0 st I:=by
 rcases h with h|h|⟨J,h1,a⟩
 .exact .inl h
 .exact .inr (.inl (h.F k))
 .exact .inr (.inr ⟨J,h1,a.F k⟩)
theorem HG{o:U6}(hm:nl o=rs){e:T6->x1}(h:(execOp e o).run P w= .ok (.value v) w):(execOp e o).run P I= .ok (.value v) I:=by
 unfold nl at hm;split at hm
 .grind [execOp,W9]
 .grind [execOp,W9]
 .rename_i x i a;unfold execOp at h ⊢;simp only[a]at h ⊢;exact((Still.bind (Still.extract _ _) λ_=>Still.pure _) _ _ _ h).2 _
 .rename_i t x i a;unfold execOp at h ⊢;simp only[a]at h ⊢;exact((Still.bind (Still.indexAt _ _ _) λ_=>Still.pure _) _ _ _ h).2 _
 .cases hm
def jv(P:X2)(ops:Array U6)(o:U6)(v:x1)(a:Act)(w0:x3->Prop):Prop:=
 (Region.wanted o (yielded ops a.tmps)=rs/\(∀c,o.op≠ .defer c)/\∀I,w0 I->(execOp a.eval o).run P I= .ok (.value v) I)\/
 (Region.wanted o (yielded ops a.tmps)=sp/\v=undef)
theorem jv.put{o e:U6}{a:Act}{w0:x3->Prop}(f:jv P ops o v a w0)(U:∀cs b,o.op≠ .select cs b)(h:∀t,e.dst=σ t->t∉o.looksAt ops)(u:x1):
  jv P ops o v (a.put e.dst u) w0:=by
 unfold jv at*;rw[execOp_put o U a e.dst u h,wanted_put o a e.dst u h];exact f
theorem jv.go{i:Nat}{e:U6}{a:Act}{w0:x3->Prop}(hi:ops[i]?=σ e)(f:jv P ops e v a w0)(hw:w0 w){K:Act->x3->Prop}(h:K (a.put e.dst v) w):
  wpOpIn (eN r) 0 P ops Q i K a w:=by
 unfold wpOpIn;simp only[hi];rcases f with⟨h1,j,p⟩|⟨h1,rfl⟩
 .rw[m5 h1];refine⟨λ_ _=>trivial,?_⟩
  grind [U6.semAt_eq,U6.uponIn_value]
 .rw[h1];exact⟨λ_ _=>trivial,h⟩
theorem HH{e f:U6}(q:ops[j]?=σ f)(s:e.apart ops f=rs)(y:∀cs b,e.op≠ .select cs b)(z:∀cs b,f.op≠ .select cs b)(C:∀c a w,¬Q (.panic c) a w){K:Act->x3->Prop}{a:Act}{w:x3}{w0:x3->Prop}(p:jv P ops e v a w0)(h:wpOpIn (eN r) 0 P ops Q j K (a.put e.dst v) w):
  wpOpIn (eN r) 0 P ops Q j (λa' I=>jv P ops e v a' w0/\K (a'.put e.dst v) I) a w:=by
 obtain⟨h1,E,A⟩:=U6.apart_spec s;have a8:∀(a:Act),jv P ops e v a w0->∀u,jv P ops e v (a.put f.dst u) w0:=λa p u=>p.put y A u;have F:∀d,jv P ops e v {a with defers:=d::a.defers} w0:=λd=>p;unfold wpOpIn at*;simp only[q]at*;rw[wanted_put f a e.dst v h1]at h;split
 .rename_i hw;simp only[hw,if_true]at h;obtain⟨_,h⟩:=h;refine⟨λ_ _=>trivial,?_⟩;rw[HF _ f z a e.dst v h1]at h;generalize (f.semAt (eN r).round a.eval).run P w=B at*;cases B with
  |ok n I=>
   cases n<;>simp only[U6.uponIn]at h ⊢
   all_goals grind [Act.put_comm,Act.put_defers]
  |halt x I=>
   cases x<;>simp only[U6.uponIn]at h ⊢
   grind
 .rename_i hw;simp only[hw]at h;exact⟨λ_ _=>trivial,a8 a p _,by grind [Act.put_comm]⟩
def nn(ops:Array U6)(a:Array Nat):Bool:=
 (Z4 ops.size).all λj=>(Z4 ops.size).all λk=>!((a.getD j 0).testBit k)||
  (match ops[j]? with
   |some o=>o.after.any λe=>Region.binds .any e&&Nat.blt e.on j&&(S4 e.on k||(a.getD e.on 0).testBit k)
   |none=>sp)
def Down(ops:Array U6)(a:Array Bool):Prop:=
 ∀(x:Nat)(o:U6),ops[x]?=σ o->a.getD x sp=rs->∀e∈o.after,Region.binds .any e=rs->a.getD e.on sp=rs
theorem An{a:Array Nat}(f:nn ops a=rs){k:Nat}(p:j<ops.size)(hk:k<ops.size)(h:(a.getD j 0).testBit k=rs):
  ∃o,ops[j]?=σ o/\∃e∈o.after,Region.binds .any e=rs/\e.on<j/\(e.on=k\/(a.getD e.on 0).testBit k=rs):=by
 simp only[nn,List.all_eq_true,T1]at f
 grind [Nat.blt_eq,Nat.eq_of_beq_eq_true]
theorem HI{f:Array Nat}{a:Array Bool}(p:nn ops f=rs)(q:Down ops a):∀(j k:Nat),j<ops.size->k<ops.size->a.getD j sp=rs->
  (f.getD j 0).testBit k=rs->a.getD k sp=rs:=by
 intro j;induction j using Nat.strongRecOn with
 |_ j y=>
  intro k r hk s h;obtain⟨o,w,e,he,x,z,h⟩:=An p r hk h;have A:=q j o w s e he x
  grind
theorem HJ{e:Array Nat}{a:Array Bool}(p:nn ops e=rs)(q:Down ops a){k:Nat}(hk:k<ops.size)(f:j∈Region.ready .any ops a)(h:(e.getD j 0).testBit k=rs):a.getD k sp=rs:=by
 obtain⟨_,o,r,s⟩:=mem_ready.1 f
 grind [An,HI]
theorem Down.set{a:Array Bool}(h:Down ops a){i:Nat}(r:i∈Region.ready .any ops a):Down ops (a.setIfInBounds i rs):=by
 intro x o j f e he p;by_cases q:x=i
 .grind [mem_ready,getD_set_true]
 .rw[getD_set_ne sp (Ne.symm q)]at f;exact getD_set_true (h x o j f e he p)
def ph(ops:Array U6)(i:Nat):Bool:=match ops[i]? with
 |some o=>lF o
 |none=>sp
def oj(a:Array Nat)(e:List (x3×List (Nat×(x3->Prop))))(j:Nat)(I:x3):Prop:=∀g∈e,∀x∈g.2,ml a j x.1=rs->Ext g.1 I\/x.2 I
theorem wH{e:Array Nat}{j:Nat}{I:x3}:∀{l:List (Nat×(x3->Prop))},rV e j I l->∀x∈l,ml e j x.1=rs->x.2 I
 |[],_,_,h,_=>by cases h
 |y::l,h,x,a,f=>by
  unfold rV at h;cases p:ml e j y.1 with
  |true=>
   rw[p]at h;cases a with
   |head=>exact h.1
   |tail _ a=>exact wH h.2 x a f
  |false=>
   rw[p]at h;cases a with
   |head=>grind
   |tail _ a=>exact wH (by grind) x a f
theorem HK{e:Array Nat}:∀{l:List (Nat×(x3->Prop))},rU e j l=sp->∀x∈l,ml e j x.1=sp
 :=by
 intro a;induction a<;>grind [rU]
theorem wI{e:Array Nat}{j:Nat}{I:x3}{C:Prop}:∀{w:List (x3×List (Nat×(x3->Prop)))},pf e j I C w->C/\oj e w j I
 |[],h=>⟨h,λg z=>by cases z⟩
 |g::r,h=>by
  unfold pf at h;cases y:rU e j g.2 with
  |true=>
   rw[y]at h;obtain⟨h1,f⟩:=wI h.2;refine⟨h1,λp a x q s=>?_⟩;cases a with
   |head=>grind [wH]
   |tail _ a=>exact f p a x q s
  |false=>
   rw[y]at h;obtain⟨h1,f⟩:=wI (show pf e j I C r from h);refine⟨h1,λp a x q s=>?_⟩;cases a with
   |head=>grind [HK]
   |tail _ a=>exact f p a x q s
def wJ(ops:Array U6)(a:Array Nat)(e:List (x3×List (Nat×(x3->Prop))))(j:Nat)(w I:x3):Prop:=(ph ops j=rs->Ext w I)/\(ph ops j=sp->oj a e j I)
def jQ(r:Option Nat)(P:X2)(ops:Array U6)(f:Array Nat)(Q:Exit->Act->x3->Prop):Nat->Array Bool->List (x3×List (Nat×(x3->Prop)))->Act->x3->Prop
 |0,e,_,a,w=>Region.ready .any ops e=[]/\Q .normal a w
 |fuel+1,e,h,a,w=>(Region.ready .any ops e=[]->Q .normal a w)/\
  ∀i∈Region.ready .any ops e,wpOpIn (eN r) 0 P ops Q i (λa' I=>wJ ops f h i w I/\jQ r P ops f Q fuel (e.setIfInBounds i rs) h a' I) a w
theorem jQ.any{f:Array Nat}:∀(fuel:Nat)(e:Array Bool)(h:List (x3×List (Nat×(x3->Prop))))(a:Act)(w:x3),jQ r P ops f Q fuel e h a w->wpAnyIn (eN r) 0 P .any ops Q fuel e a w
 :=by
 intro a;induction a<;>grind [wpOpIn_mono,jQ,wpAnyIn]
theorem HL{e:Array Nat}{a:Array Bool}(h:nn ops e=rs)(p:Down ops a){i:Nat}{f:U6}(hi:ops[i]?=σ f)(q:i∈Region.ready .any ops a)(r:j∈Region.ready .any ops a)(s:j≠i):ml e j i=rs:=by
 grind [mem_ready,ml,Nat.eq_of_beq_eq_true,HJ]
theorem jQ.take{p:Array Nat}(N:nn ops p=rs)(O:Region.noSelect ops=rs)(R:∀c a w,¬Q (.panic c) a w){i:Nat}{q:U6}(hi:ops[i]?=σ q)(ac:lF q=rs){w0:x3}{A B:List (x3×List (Nat×(x3->Prop)))}(F:∀j I,oj p B j I->oj p A j I){st:x3->Prop}(S:nl q=sp->∀j I,ml p j i=rs->oj p B j I->Ext w0 I\/st I):
  ∀(fuel:Nat)(f:Array Bool)(a:Act)(w:x3),Down ops f->
   (∀j y,ops[j]?=σ y->j≠i->f.getD j rs=sp->(∀e∈y.after,Region.binds .any e=rs->e.on≠i)->q.apart ops y=rs)->
   i∈Region.ready .any ops f->jv P ops q v a (oi q w0 st)->oi q w0 st w->
   jQ r P ops p Q fuel (f.setIfInBounds i rs) B (a.put q.dst v) w->jQ r P ops p Q (fuel+1) f A a w:=by
 have ad:=Region.noSelect_spec O;have T:ph ops i=rs:=by grind [ph]
 have jR:∀(fuel:Nat)(f:Array Bool)(a:Act)(w:x3),jQ r P ops p Q fuel f B a w->jQ r P ops p Q fuel f A a w:=by
  intro fuel;induction fuel with
  |zero=>intro f a w h;exact h
  |succ fuel G=>intro f a w h;exact⟨h.1,λj s=>wpOpIn_mono (λa' I bf=>⟨⟨bf.1.1,λE=>F _ _ (bf.1.2 E)⟩,by grind⟩) (h.2 j s)⟩
 have ae:∀w,wJ ops p A i w w:=λw=>⟨λ_=>Ext.refl _,λh=>by rw[T]at h;cases h⟩;intro fuel;induction fuel with
 |zero=>
  intro f a w _ _ J C hw H;refine⟨by grind,λj s=>?_⟩;by_cases x:j=i
  .subst x;exact C.go hi hw (by grind)
  .have:=ready_mono s x;rw[H.1]at this;cases this
 |succ fuel G=>
  intro f a w K U J C hw H;refine⟨by grind,λj s=>?_⟩;by_cases x:j=i
  .subst x;exact C.go hi hw (by grind)
  .have h1:=H.2 j (ready_mono s x);have V:=HL N K hi J s x;obtain⟨af,y,W,ag⟩:=mem_ready.1 s;have ah:∀e∈y.after,Region.binds .any e=rs->e.on≠i:=by grind [mem_ready]
   have X:=HH W (by grind) (by grind) (by grind) R C h1;have Y:∀k ok,ops[k]?=σ ok->k≠i->(f.setIfInBounds j rs).getD k rs=sp->
     (∀e∈ok.after,Region.binds .any e=rs->e.on≠i)->q.apart ops ok=rs:=λk ok hk Z L aa=>by
    refine U k ok hk Z ?_ aa;by_cases ab:j=k
    .grind
    .rw[getD_set_ne rs ab]at L;exact L
   refine wpOpIn_mono (λa' I z=>⟨⟨z.2.1.1,λE=>F _ _ (z.2.1.2 E)⟩,G (f.setIfInBounds j rs) a' I (K.set s) Y (by grind [ready_mono]) z.1 ?_ ?_⟩) X
   .cases hm:nl q with
    |true=>exact .inl hm
    |false=>
     cases M:ph ops j with
     |true=>exact hw.W (z.2.1.1 M)
     |false=>exact .inr ((S hm j I V (z.2.1.2 M)).imp id (by grind [Ext.refl]))
   grind [Array.setIfInBounds_comm]
theorem Ao{p:Nat->Prop}:∀{l:List Nat},wF p l->∀i∈l,p i
 |[],_,_,h=>by cases h
 |[i],h,j,a=>by cases a with
  |head=>exact h
  |tail _ h=>cases h
 |i::k::l,h,j,a=>by
  obtain⟨h1,e⟩:=h;cases a with
  |head=>exact h1
  |tail _ a=>exact Ao e j a
theorem HM:∀{l:List Nat}{q:Nat},oe ops l=σ q->q∈l/\∃o,ops[q]?=σ o/\lF o=rs
 :=by
 intro a;induction a<;>grind [oe]
theorem HN{o:U6}{e:Env}{a:Act}{K:Env->(x3->Prop)->Prop}(h:wE P ops o e w K)(p:T9 N e a)(z:k1 N o.dst=rs):
  ∃v st,jv P ops o v a (oi o w st)/\∃f,K f st/\T9 N f (a.put o.dst v):=by
 unfold wE at h;have F:∀{e:Env},T9 N e a->nj P o e w K->Region.wanted o (yielded ops a.tmps)=rs->∃v st,jv P ops o v a (oi o w st)/\∃f,K f st/\T9 N f (a.put o.dst v):=λp h hw=>by
  obtain⟨v,st,h1,A,B,G⟩:=Ak h p z;exact⟨v,st,.inl ⟨hw,B,λI C=>C.elim (λhm=>HG hm (h1 w (Ext.refl w))) (by grind)⟩,A⟩
 have skip:∀{e:Env},T9 N e a->K (ei e o.dst .u) (λ_=>True)->Region.wanted o (yielded ops a.tmps)=sp->∃v st,jv P ops o v a (oi o w st)/\∃f,K f st/\T9 N f (a.put o.dst v):=λp h hw=>
  ⟨undef,_,.inr ⟨hw,rfl⟩,_,h,p.put z rfl⟩
 cases q:o.guard with
 |none=>grind [Region.wanted]
 |some E=>
  obtain⟨j,b⟩:=E;rw[q]at h;simp only at h;cases r:(ops[j]?).bind (·.dst)with
  |none=>grind
  |some s=>
   rw[r]at h;simp only at h;cases U:look e s with
   |none=>grind
   |some x=>
    rw[U]at h;cases x with
    |b c=>
     simp only at h;have hw:=tN p q r U rfl
     grind
    |v y=>
     simp only at h;obtain⟨c,rfl,H,J⟩:=h;have hw:=tN p q r U rfl;have L:=p.lit U rfl
     grind
    |u=>grind [Al]
theorem HO:∀{l:List Nat},oe ops l=ν->∀j∈l,ph ops j=sp
 :=by
 intro a;induction a<;>grind [oe,ph]
theorem HP{s:Array Nat}{same:Bool}{q:Nat}{st:x3->Prop}{f:List (x3×List (Nat×(x3->Prop)))}(U:same=rs->∃e r,f=(w,e)::r):
  (∀j I,oj s (tM same q w st f) j I->oj s f j I)/\(∀j I,ml s j q=rs->oj s (tM same q w st f) j I->Ext w I\/st I)/\∃e r,tM same q w st f=(w,e)::r:=by
 cases same with
 |true=>
  obtain⟨e,r,rfl⟩:=U rfl;refine⟨λj I h g p x y a=>?_,λj I a h=>h (w,(q,st)::e) (.head _) (q,st) (.head _) a,_,_,rfl⟩;cases p with
  |head=>exact h (w,(q,st)::e) (.head _) x (.tail _ y) a
  |tail _ p=>exact h g (.tail _ p) x y a
 |false=>
  refine⟨λj I h g p x y a=>h g (.tail _ p) x y a,λj I a h=>h (w,[(q,st)]) (.head _) (q,st) (.head _) a,_,_,rfl⟩
theorem HQ{K:Env->x3->Prop}{z:Array Nat}(U:nn ops z=rs)(V:Region.noSelect ops=rs)(W:∀c a w,¬Q (.panic c) a w)(aj:∀o∈ops.toList,∀t,o.dst=σ t->t∈D)(ak:pg N ops.toList=rs):
  ∀(fuel:Nat)(f:Array Bool)(same:Bool)(p:List (x3×List (Nat×(x3->Prop))))(e:Env)(a:Act)(w:x3),Down ops f->(same=rs->∃ab r,p=(w,ab)::r)->
   og P free ops z fuel f same p e w K->T9 N e a->
   (∀a' I,oh N free K D a w a' I->Q .normal a' I)->jQ r P ops z Q fuel f p a w:=by
 have al:∀{j:Nat}{o:U6},ops[j]?=σ o->o∈ops.toList:=λh=>by
  grind
 have ok:∀{j:Nat}{o:U6},ops[j]?=σ o->k1 N o.dst=rs:=by grind [pg]
 intro fuel;induction fuel with
 |zero=>
  intro f same p e a w B L h E C;unfold og at h;cases A:Region.ready .any ops f with
  |nil=>rw[A]at h;exact⟨A,C a w ⟨e,h,E,gU.refl _ _,λ_=>cM.refl _ _⟩⟩
  |cons i l=>grind
 |succ fuel M=>
  intro f same p e a w B L h E C;unfold og at h;cases A:Region.ready .any ops f with
  |nil=>
   rw[A]at h;refine⟨λ_=>C a w ⟨e,h,E,gU.refl _ _,λ_=>cM.refl _ _⟩,λi hi=>?_⟩;rw[A]at hi;cases hi
  |cons i l=>
   rw[A]at h;simp only at h;cases F:oe ops (i::l)with
   |some q=>
    rw[F]at h;simp only at h;obtain⟨am,o,s,X⟩:=HM F;cases O:Region.free .any ops f q with
    |false=>grind
    |true=>
     rw[O,s]at h;simp only[cond_true]at h;obtain⟨v,st,Y,G,y,Z⟩:=HN h E (ok s);have H:q∈Region.ready .any ops f:=by grind
     cases hm:nl o with
     |true=>
      rw[hm]at y;refine jQ.take U V W s X (λ_ _ h=>h) (by grind) fuel f a w B (Region.free_spec s O) H Y (.inr (.inl (Ext.refl _))) ?_;exact M _ same p G _ w (B.set H) L y Z λa' I x=>C a' I (x.step (by grind [gU.put]) λ_=>cM.refl _ _)
     |false=>
      rw[hm]at y;obtain⟨h1,ac,ad⟩:=HP L;refine jQ.take U V W s X h1 (λ_=>ac) fuel f a w B (Region.free_spec s O) H Y (.inr (.inl (Ext.refl _))) ?_;exact M _ rs _ G _ w (B.set H) (λ_=>ad) y Z λa' I x=>C a' I (x.step (by grind [gU.put]) λ_=>cM.refl _ _)
   |none=>
    rw[F]at h;simp only at h;refine⟨by grind,λj aa=>?_⟩;have R:=aa;rw[A]at R;have ae:=HO F j R;have x:=Ao h j R;cases s:ops[j]? with
    |none=>rw[s]at x;exact x.elim
    |some o=>
     rw[s]at x;simp only at x;unfold wpOpIn;simp only[s];have next:∀S J,fx N free (λG I=>pf z j I (og P free ops z fuel (f.setIfInBounds j rs) sp p G I K) p) o a w S J->
       wJ ops z p j w J/\jQ r P ops z Q fuel (f.setIfInBounds j rs) p S J:=by
      rintro S J ⟨af,v,y,ag,rfl,ah⟩;obtain⟨y,ai⟩:=wI y;exact⟨⟨λh=>(by rw[ae]at h;cases h),λ_=>ai⟩,
       M _ sp p af _ J (B.set aa) (by grind) y ag λa' I x=>C a' I (x.step (by grind [gU.put]) ah)⟩
     rcases Am x E (ok s)with⟨hw,T⟩|⟨hw,T⟩
     .rw[m5 hw];exact U6.wpIn_mono next T
     .rw[hw];exact⟨λ_ _=>trivial,next _ _ T⟩
theorem HR(hm:P.follows .mixedOrders=rs){K:Env->x3->Prop}{id:Nat}{e:Env}{a:Act}(j:nn ops (Region.before ops)=rs)(p:∀c a w,¬Q (.panic c) a w)(q:∀o∈ops.toList,∀t,o.dst=σ t->t∈D)(s:pg N ops.toList=rs)(h:∀I,Ext w I->Ext I w->cA w I->wG P free ops e I K)(y:T9 N e a)(z:∀a' I,oh N free K D a w a' I->Q .normal a' I):
  (Code.region id ops rs).wpIn (eN r) 0 P Q a w:=by
 refine wpIn_region_any hm ?_;have h:=h {w with drawn:=w.drawn+1} (rR w _) ⟨o5 _,λ_ _ h _=>h⟩ (by grind [qu]);unfold wG at h;cases f:Region.noSelect ops with
 |false=>grind
 |true=>
  rw[f]at h;refine jQ.any _ _ _ _ _ (HQ j f p q s ops.size _ sp [] e a _ ?_ (by grind) h y λa' I A=>z a' I (A.step (gU.refl _ _) λ_=>(qu w _ (Nat.le_succ _)).b));intro x o _ B;rcases Nat.lt_or_ge x ops.size with bf|bf
  .simp[bf]at B
  grind
end
def lH(t:Nat):List Nat->Bool
 |[]=>sp
 |s::r=>bif S4 s t then rs else lH t r
theorem HS{t:Nat}:∀{l:List Nat},lH t l=rs↔t∈l
 :=by
 intro a;induction a<;>grind [lH,Nat.eq_of_beq_eq_true,Nat.ne_of_beq_eq_false]
def pi:List U6->List Nat
 |[]=>[]
 |o::l=>match o.dst with
  |some d=>d::pi l
  |none=>pi l
def tmpsOf:List T6->List Nat
 |[]=>[]
 | .tmp t::l=>t::tmpsOf l
 |_::l=>tmpsOf l
def HT(ops:Array U6)(o:U6):List Nat:=
 match o.guard with
 |some (j,_)=>match(ops[j]?).bind (·.dst)with
  |some s=>[s]
  |none=>[]
 |none=>[]
def tO(D:List Nat):List Nat->List Nat
 |[]=>[]
 |t::r=>bif lH t D then tO D r else t::tO D r
def wK(D:List Nat):List Nat->List Nat
 |[]=>[]
 |t::r=>bif lH t D then t::wK D r else wK D r
def Ap(ops:Array U6):List U6->List Nat->List Nat
 |[],_=>[]
 |o::l,D=>tO D (tmpsOf (opsOf o.op)++HT ops o)++Ap ops l (match o.dst with
  |some d=>d::D
  |none=>D)
def dE:Code->List Nat
 | .region _ ops _=>pi ops.toList
 | .seq a b=>dE a++dE b
 | .cond _ a b=>dE a++dE b
 | .block _ c=>dE c
 | .loop c=>dE c
 | .scope c=>dE c
 |_=>[]
def k2(id:Nat):Code->Nat
 | .seq a b=>k2 id a+k2 id b
 | .cond _ a b=>k2 id a+k2 id b
 | .block _ c=>k2 id c
 | .loop c=>k2 id c
 | .scope c=>k2 id c
 | .exit i=>bif S4 i id then 1 else 0
 | .rangeFunc _ _ _ b=>k2 id b
 |_=>0
def HU(ops:Array U6):Bool:=
 let a:=Region.before ops;let e:=λ(i:Nat)=>match ops[i]? with|some o=>!(lF o)|none=>sp
 (Z4 ops.size).any λj=>e j&&((Z4 j).any λi=>e i&&(!((a.getD j 0).testBit i)&& !((a.getD i 0).testBit j)))
def mm:Code->Nat
 | .region _ ops e=>bif (e&&HU ops)||ops.any (·.guard.isSome)then 2 else 1
 | .seq a b=>bif S4 (mm a) 0 then 0 else mm b
 | .cond _ a b=>mm a+mm b
 | .block id c=>mm c+k2 id c
 | .loop _=>0
 | .scope c=>mm c
 | .exit _=>0
 | .goto _=>0
 | .ret=>0
 | .refuse _=>0
 |_=>1
def np:Code->List Nat
 | .region _ ops _=>pi ops.toList
 | .seq a b=>np a++np b
 | .cond _ a b=>bif S4 (mm a) 0 then np b else bif S4 (mm b) 0 then np a else wK (np a) (np b)
 | .block id c=>bif S4 (k2 id c) 0 then np c else[]
 | .scope c=>np c
 |_=>[]
def reads:Code->List Nat
 | .region _ ops _=>Ap ops ops.toList []
 | .seq a b=>reads a++tO (np a) (reads b)
 | .cond c a b=>tmpsOf [c]++(reads a++reads b)
 | .block _ c=>reads c
 | .loop c=>reads c
 | .scope c=>reads c
 | .rangeFunc f _ a b=>tmpsOf [f]++(reads a++reads b)
 |_=>[]
def lI:Code->Bool
 | .seq a b=>lI a||lI b
 | .cond _ a b=>lI a||lI b
 | .block _ c=>lI c
 | .loop c=>lI c
 | .scope c=>lI c
 | .rangeFunc ..=>rs
 |_=>sp
def wf(N:Nat):Code->Bool
 | .region _ ops e=>pg N ops.toList&&(!e||nn ops (Region.before ops))
 | .seq a b=>wf N a&&wf N b
 | .cond _ a b=>wf N a&&wf N b
 | .block _ c=>wf N c
 | .loop c=>wf N c
 | .scope c=>wf N c
 | .rangeFunc _ f a b=>(f.toList.all λt=>Nat.blt t N)&&(wf N a&&wf N b)
 |_=>rs
def pj:Nat->Type->Type
 |0,β=>β
 |n+1,β=>x1->pj n β
def app{β:Type}:(n:Nat)->pj n β->List x1->β
 |0,f,_=>f
 |n+1,f,[]=>app n (f undef) []
 |n+1,f,v::r=>app n (f v) r
def lam{β:Type}:(n:Nat)->(List x1->β)->pj n β
 |0,f=>f []
 |n+1,f=>λv=>lam n λr=>f (v::r)
def tP:(n:Nat)->pj n Prop->Prop
 |0,p=>p
 |n+1,p=>∀v,tP n (p v)
theorem wL{β:Type}:∀(n:Nat)(f:List x1->β)(vs:List x1),vs.length=n->app n (lam n f) vs=f vs
 :=by
 intro a b c;induction c generalizing a b<;>grind [app,lam]
theorem tQ:∀(n:Nat)(p:pj n Prop)(vs:List x1),tP n p->app n p vs
 |0,_,_,h=>h
 |n+1,_,[],h=>tQ n _ [] (h undef)
 |n+1,_,v::r,h=>tQ n _ r (h v)
def HV(n:Nat)(vs:List x1)(w:x3)(B:List x1->x3->(List x1->x3->Prop)->Prop):Prop:=
 ∃(a:pj n (x3->Prop))(e:pj n (x3->Nat)),app n a vs w/\
  tP n (lam n λus=>∀I,app n a us I->B us I λf h=>app n a f h/\app n e f h<app n e us I)
def HW(w:x3)(B:x3->(x3->Prop)->Prop):Prop:=
 ∃(a:x3->Prop)(e:x3->Nat),a w/\∀I,a I->B I λf=>a f/\e f<e I
def ce(a:x1)(w:x3)(B:x1->x3->(x1->x3->Prop)->Prop):Prop:=
 ∃(e:x1->x3->Prop)(f:x1->x3->Nat),e a w/\∀a I,e a I->B a I λa' h=>e a' h/\f a' h<f a I
def bT(a b:x1)(w:x3)(B:x1->x1->x3->(x1->x1->x3->Prop)->Prop):Prop:=
 ∃(e:x1->x1->x3->Prop)(f:x1->x1->x3->Nat),e a b w/\∀a b I,e a b I->B a b I λa' h j=>e a' h j/\f a' h j<f a b I
def mn(a b c:x1)(w:x3)(B:x1->x1->x1->x3->(x1->x1->x1->x3->Prop)->Prop):Prop:=
 ∃(e:x1->x1->x1->x3->Prop)(f:x1->x1->x1->x3->Nat),e a b c w/\
  ∀a b c I,e a b c I->B a b c I λa' h j p=>e a' h j p/\f a' h j p<f a b c I
def tR(a b c d:x1)(w:x3)(B:x1->x1->x1->x1->x3->(x1->x1->x1->x1->x3->Prop)->Prop):Prop:=
 ∃(e:x1->x1->x1->x1->x3->Prop)(f:x1->x1->x1->x1->x3->Nat),e a b c d w/\
  ∀a b c d I,e a b c d I->B a b c d I λa' h j p q=>e a' h j p q/\f a' h j p q<f a b c d I
def qB(a b c d e:x1)(w:x3)(B:x1->x1->x1->x1->x1->x3->(x1->x1->x1->x1->x1->x3->Prop)->Prop):Prop:=
 ∃(f:x1->x1->x1->x1->x1->x3->Prop)(h:x1->x1->x1->x1->x1->x3->Nat),f a b c d e w/\∀a b c d e I,f a b c d e I->B a b c d e I λa' j p q r s=>f a' j p q r s/\h a' j p q r s<h a b c d e I
def HX(a b c d e f:x1)(w:x3)(B:x1->x1->x1->x1->x1->x1->x3->(x1->x1->x1->x1->x1->x1->x3->Prop)->Prop):Prop:=
 ∃(h:x1->x1->x1->x1->x1->x1->x3->Prop)(j:x1->x1->x1->x1->x1->x1->x3->Nat),h a b c d e f w/\∀a b c d e f I,h a b c d e f I->B a b c d e f I λa' p q r s x y=>h a' p q r s x y/\j a' p q r s x y<j a b c d e f I
def ct{α:Type}(az:α)(B:α->Prop):Prop:=B az
def wM(n:Nat)(w:x3)(K:x3->Prop):Prop:=∀I,Ext w I->Ext I w/\fJ n w I->K I
def Over(n:Nat)(w:x3)(K:x3->Prop):Prop:=∀I,Ext w I->Ext I w/\fJ n w I->e7 w I->K I
def eu(w:x3)(K:x3->Prop):Prop:=∀I,Ext w I->Ext I w->cA w I->K I
def lJ(e:Env):List Nat->Option (List x1)
 |[]=>σ []
 |t::r=>match look e t with
  |some x=>match lJ e r with
   |some vs=>σ (x.val::vs)
   |none=>ν
  |none=>ν
def kl:List Nat->List x1->Env->Env
 |t::r,v::vs,e=>(t,.v v)::kl r vs e
 |_,_,e=>e
def ol(D:List Nat):Env->Env
 |[]=>[]
 |(t,x)::r=>bif lH t D then ol D r else(t,x)::ol D r
def rW(N:Nat)(D R:List Nat):List Nat:=(Z4 N).filter λt=>lH t D&&lH t R
def rX(N:Nat)(D R:List Nat)(e:Env):List Nat:=(Z4 N).filter λt=>lH t D&&((look e t).isSome&&lH t R)
def km:Code->Bool
 | .seq a b=>km a||km b
 | .cond _ a b=>km a||km b
 | .block _ c=>km c
 | .loop c=>km c
 | .scope c=>km c
 | .rangeFunc _ _ a b=>km a||km b
 | .ret=>rs
 |_=>sp
def HY(i:Nat)(l:List Nat):List Nat:=bif lH i l then l else i::l
def tS:List Nat->List Nat->List Nat
 |[],l=>l
 |i::r,l=>HY i (tS r l)
def wN(i:Nat):List Nat->List Nat
 |[]=>[]
 |j::r=>bif S4 i j then wN i r else j::wN i r
def k3:Code->List Nat
 | .seq a b=>tS (k3 a) (k3 b)
 | .cond _ a b=>tS (k3 a) (k3 b)
 | .block id c=>wN id (k3 c)
 | .loop c=>k3 c
 | .scope c=>k3 c
 | .rangeFunc _ _ a b=>tS (k3 a) (k3 b)
 | .exit i=>[i]
 |_=>[]
def om:List (Nat×(x3->Prop))->Nat->x3->Prop
 |[],_,_=>False
 |(j,k)::r,i,w=>(i=j/\k w)\/om r i w
def tT(K:Nat->x3->Prop):List Nat->List (Nat×(x3->Prop))
 |[]=>[]
 |i::r=>(i,λw=>K i w)::tT K r
theorem HZ{K:Nat->x3->Prop}:∀{l:List Nat}{i:Nat}{w:x3},om (tT K l) i w->K i w
 :=by
 intro a;induction a<;>grind [om,tT]
section
variable(P:X2)
def qC{a:Type}(G:Bool)(g:S9)(cap:List x1)(p:a)(q:a->Prop)(r:a->List x1->a->x3->Prop)(h:x3->Prop):Prop:=
 Enters P g/\∀(l:Nat)(az e:a->x3->Prop)(w:x3),
  (∀k J V,Ext J V->cM w.heap.size J V->az k J->az k V)->(∀k J V,Ext J V->cM w.heap.size J V->e k J->e k V)->
  (∀k j vs I,h I->r k vs j I->az k I->ja P l vs I λv f=>(v= .bool rs/\h f/\az j f/\(G=rs->cA I f))\/(v= .bool sp/\e k f))->
  h w->az p w->gT P g (.func (.yield l) #[] #[]::cap) w λ_ I=>(∃k,q k/\az k I)\/∃k,e k I
def wO(G:Bool)(g:S9)(cap:List x1)(n:Nat)(h:Nat->List x1->x3->Prop)(f:x3->Prop):Prop:=
 Enters P g/\∀(l:Nat)(az a:Nat->x3->Prop)(w:x3),
  (∀k J V,Ext J V->cM w.heap.size J V->az k J->az k V)->(∀k J V,Ext J V->cM w.heap.size J V->a k J->a k V)->
  (∀k vs I,k<n->f I->h k vs I->az k I->ja P l vs I λv e=>(v= .bool rs/\f e/\az (k+1) e/\(G=rs->cA I e))\/(v= .bool sp/\a k e))->
  f w->az 0 w->gT P g (.func (.yield l) #[] #[]::cap) w λ_ I=>az n I\/∃k,k<n/\a k I
def rY{e:Type}(o G:Bool)(g:S9)(cap:List x1)(p:e)(q:e->Prop)(s:e->List x1->e->x3->Prop)(h:(Nat->Prop)->x3->Prop):Prop:=
 Enters P g/\∀(l:Nat)(az f:(Nat->Prop)->e->x3->Prop)(w:x3),
  (∀D k J V,af (λr=>o=rs/\w.heap.size<=r/\¬D r) J V->fJ w.heap.size J V->az D k J->az D k V)->
  (∀D k J V,af (λr=>o=rs/\w.heap.size<=r/\¬D r) J V->fJ w.heap.size J V->f D k J->f D k V)->
  (∀D k j vs I,(∀r,D r->w.heap.size<=r/\r<I.heap.size)->w.heap.size<=I.heap.size->h D I->s k vs j I->az D k I->ja P l vs I λv a=>
   (v= .bool rs/\(∃D',(∀r,D' r->D r\/I.heap.size<=r/\r<a.heap.size)/\(∀r,D r->D' r)/\h D' a/\az D' j a)/\(G=rs\/o=rs->cA I a)/\I.heap.size<=a.heap.size/\(o=rs->af (λr=>r<w.heap.size\/D r) I a))\/(o=sp/\v= .bool sp/\f D k a))->
  (h (λ_=>False) w)->az (λ_=>False) p w->gT P g (.func (.yield l) #[] #[]::cap) w λ_ I=>(∃D k,q k/\az D k I)\/∃D k,f D k I
abbrev qD(g:S9)(cap:List x1)(n:Nat)(a:Nat->List x1->x3->Prop)(e:x3->Prop):Prop:=wO P sp g cap n a e
def H0(z:x1)(q:Nat)(w:x3)(B:List x1->x3->(Exit->x3->Prop)->Prop)(A C:x3->Prop)(E:List (Nat×(x3->Prop))):Prop:=
 ∃(h:Type)(o G:Bool)(g:S9)(cap:Array x1)(x:h)(y:h->Prop)(s:h->List x1->h->x3->Prop)(e:(Nat->Prop)->x3->Prop)(f:(Nat->Prop)->h->x3->Prop)(j:(Nat->Prop)->h->Exit->x3->Prop),
  z= .func (.func g) #[] cap/\rY P o G g cap.toList x y s e/\(∀k vs p w,s k vs p w->vs.length=q)/\
  (∀m w I,Ext w I->e m w->e m I)/\(∀m k J V,af (λr=>o=rs/\w.heap.size<=r/\¬m r) J V->fJ w.heap.size J V->f m k J->f m k V)/\(∀m k ex J V,af (λr=>o=rs/\w.heap.size<=r/\¬m r) J V->fJ w.heap.size J V->j m k ex J->j m k ex V)/\
  e (λ_=>False) w/\f (λ_=>False) x w/\
  tP q (lam q λvs=>∀m k p I,(∀r,m r->w.heap.size<=r/\r<I.heap.size)->w.heap.size<=I.heap.size->e m I->s k vs p I->f m k I->B vs I λex a=>match ex with
   | .normal=>bif o then(∃cn,(∀r,cn r->m r\/I.heap.size<=r/\r<a.heap.size)/\(∀r,m r->cn r)/\e cn a/\f cn p a)/\e7 I a/\af (λr=>r<w.heap.size\/m r) I a else e m a/\f m p a/\(G=rs->e7 I a)
   |ex=>bif o then False else j m k ex a)/\
  (∀m k I,y k->f m k I->A I)/\(∀m k I,j m k .ret I->C I)/\(∀m k i I,j m k (.exit i) I->om E i I)
def mo(z:x1)(w:x3)(B:x1->x3->(Exit->x3->Prop)->Prop)(A C:x3->Prop)(E:List (Nat×(x3->Prop))):Prop:=
 ∃(j:Type)(o G:Bool)(g:S9)(cap:Array x1)(x:j)(y:j->Prop)(s:j->List x1->j->x3->Prop)(f:(Nat->Prop)->x3->Prop)(h:(Nat->Prop)->j->x3->Prop)(p:(Nat->Prop)->j->Exit->x3->Prop),
  z= .func (.func g) #[] cap/\rY P o G g cap.toList x y s f/\(∀k vs q w,s k vs q w->vs.length=1)/\
  (∀m w I,Ext w I->f m w->f m I)/\(∀m k J V,af (λr=>o=rs/\w.heap.size<=r/\¬m r) J V->fJ w.heap.size J V->h m k J->h m k V)/\(∀m k ex J V,af (λr=>o=rs/\w.heap.size<=r/\¬m r) J V->fJ w.heap.size J V->p m k ex J->p m k ex V)/\
  f (λ_=>False) w/\h (λ_=>False) x w/\
  (∀a,∀m k q I,(∀r,m r->w.heap.size<=r/\r<I.heap.size)->w.heap.size<=I.heap.size->f m I->s k [a] q I->h m k I->B a I λex e=>match ex with
   | .normal=>bif o then(∃cn,(∀r,cn r->m r\/I.heap.size<=r/\r<e.heap.size)/\(∀r,m r->cn r)/\f cn e/\h cn q e)/\e7 I e/\af (λr=>r<w.heap.size\/m r) I e else f m e/\h m q e/\(G=rs->e7 I e)
   |ex=>bif o then False else p m k ex e)/\
  (∀m k I,y k->h m k I->A I)/\(∀m k I,p m k .ret I->C I)/\(∀m k i I,p m k (.exit i) I->om E i I)
def mp(z:x1)(w:x3)(B:x1->x1->x3->(Exit->x3->Prop)->Prop)(A C:x3->Prop)(E:List (Nat×(x3->Prop))):Prop:=
 ∃(j:Type)(o G:Bool)(g:S9)(cap:Array x1)(x:j)(y:j->Prop)(s:j->List x1->j->x3->Prop)(f:(Nat->Prop)->x3->Prop)(h:(Nat->Prop)->j->x3->Prop)(p:(Nat->Prop)->j->Exit->x3->Prop),
  z= .func (.func g) #[] cap/\rY P o G g cap.toList x y s f/\(∀k vs q w,s k vs q w->vs.length=2)/\
  (∀m w I,Ext w I->f m w->f m I)/\(∀m k J V,af (λr=>o=rs/\w.heap.size<=r/\¬m r) J V->fJ w.heap.size J V->h m k J->h m k V)/\(∀m k ex J V,af (λr=>o=rs/\w.heap.size<=r/\¬m r) J V->fJ w.heap.size J V->p m k ex J->p m k ex V)/\
  f (λ_=>False) w/\h (λ_=>False) x w/\
  (∀a b,∀m k q I,(∀r,m r->w.heap.size<=r/\r<I.heap.size)->w.heap.size<=I.heap.size->f m I->s k [a,b] q I->h m k I->B a b I λex e=>match ex with
   | .normal=>bif o then(∃cn,(∀r,cn r->m r\/I.heap.size<=r/\r<e.heap.size)/\(∀r,m r->cn r)/\f cn e/\h cn q e)/\e7 I e/\af (λr=>r<w.heap.size\/m r) I e else f m e/\h m q e/\(G=rs->e7 I e)
   |ex=>bif o then False else p m k ex e)/\
  (∀m k I,y k->h m k I->A I)/\(∀m k I,p m k .ret I->C I)/\(∀m k i I,p m k (.exit i) I->om E i I)
theorem wO.s{P:X2}{G:Bool}{g:S9}{cap:List x1}{e:Nat->List x1->x3->Prop}{a:x3->Prop}(h:wO P G g cap n e a):
  qC P G g cap 0 (λk=>k=n) (λk vs f w=>k<n/\f=k+1/\e k vs w) a:=by
 refine⟨h.1,λl az j w p q r ha x=>?_⟩;have:=h.2 l az (λk w=>j k w) w p q (λk vs I hk hy B z=>r k (k+1) vs I hy (by grind) z) ha x;cases this with
 |code h1 A=>exact .code h1 (A.X (by grind))
 |ext v I h1 C=>exact .ext v I h1 (by grind)
theorem qC.x{P:X2}{f:Type}{G:Bool}{g:S9}{cap:List x1}{s:f}{y:f->Prop}{z:f->List x1->f->x3->Prop}{j:x3->Prop}(h:qC P G g cap s y z j):rY P sp G g cap s y z λ_=>j:=by
 refine⟨h.1,λl az B w C E F hj N=>?_⟩;have:=h.2 l (λk I=>w.heap.size<=I.heap.size/\∃D,(∀r,D r->w.heap.size<=r/\r<I.heap.size)/\az D k I) (λk I=>∃D,B D k I) w
  (λk J V a q ⟨U,D,p,e⟩=>⟨Y1 U a.size,D,λr A=>⟨(p r A).1,Nat.lt_of_lt_of_le (p r A).2 a.size⟩,C D k J V (a.aa _) q.o e⟩) (λk J V a q ⟨D,e⟩=>⟨D,E D k J V (a.aa _) q.o e⟩)
  (λk H vs I hK L ⟨U,D,p,e⟩=>ja.X (F D k H vs I p U hK L e) (by grind)) hj (by grind)
 cases this with
 |code h1 M=>exact .code h1 (M.X (by grind))
 |ext v I h1 O=>exact .ext v I h1 (by grind)
theorem mo.old{P:X2}{C:x1}{B:x1->x3->(Exit->x3->Prop)->Prop}{E F:x3->Prop}{H:List (Nat×(x3->Prop))}(h:∃(e:Type)(G:Bool)(g:S9)(cap:Array x1)(r:e)(s:e->Prop)(q:e->List x1->e->x3->Prop)(f:x3->Prop)(j:e->x3->Prop)(p:e->Exit->x3->Prop),
  C= .func (.func g) #[] cap/\qC P G g cap.toList r s q f/\(∀k vs y w,q k vs y w->vs.length=1)/\
  (∀w I,Ext w I->f w->f I)/\(∀k w I,Ext w I->j k w->j k I)/\(∀k ex w I,Ext w I->p k ex w->p k ex I)/\
  f w/\j r w/\
  (∀a,∀k y I,f I->q k [a] y I->j k I->B a I λex z=>match ex with
   | .normal=>f z/\j y z/\(G=rs->e7 I z)
   |ex=>p k ex z)/\
  (∀k I,s k->j k I->E I)/\(∀k I,p k .ret I->F I)/\(∀k i I,p k (.exit i) I->om H i I)):mo P C w B E F H:=by
 obtain⟨e,G,g,cap,r,s,q,f,j,p,h1,K,L,M,N,O,Q,R,W,S,T,U⟩:=h;exact⟨e,sp,G,g,cap,r,s,q,λ_=>f,λ_=>j,λ_=>p,h1,K.x,L,λ_=>M,λ_ k J V A _=>N k J V (A.W (by grind)),λ_ k ex J V A _=>O k ex J V (A.W (by grind)),Q,R,
  by grind,λ_=>S,λ_=>T,λ_=>U⟩
theorem mp.old{P:X2}{C:x1}{B:x1->x1->x3->(Exit->x3->Prop)->Prop}{E F:x3->Prop}{H:List (Nat×(x3->Prop))}(h:∃(e:Type)(G:Bool)(g:S9)(cap:Array x1)(r:e)(s:e->Prop)(q:e->List x1->e->x3->Prop)(f:x3->Prop)(j:e->x3->Prop)(p:e->Exit->x3->Prop),
  C= .func (.func g) #[] cap/\qC P G g cap.toList r s q f/\(∀k vs y w,q k vs y w->vs.length=2)/\
  (∀w I,Ext w I->f w->f I)/\(∀k w I,Ext w I->j k w->j k I)/\(∀k ex w I,Ext w I->p k ex w->p k ex I)/\
  f w/\j r w/\
  (∀a b,∀k y I,f I->q k [a,b] y I->j k I->B a b I λex z=>match ex with
   | .normal=>f z/\j y z/\(G=rs->e7 I z)
   |ex=>p k ex z)/\
  (∀k I,s k->j k I->E I)/\(∀k I,p k .ret I->F I)/\(∀k i I,p k (.exit i) I->om H i I)):mp P C w B E F H:=by
 obtain⟨e,G,g,cap,r,s,q,f,j,p,h1,K,L,M,N,O,Q,R,W,S,T,U⟩:=h;exact⟨e,sp,G,g,cap,r,s,q,λ_=>f,λ_=>j,λ_=>p,h1,K.x,L,λ_=>M,λ_ k J V A _=>N k J V (A.W (by grind)),λ_ k ex J V A _=>O k ex J V (A.W (by grind)),Q,R,
  by grind,λ_=>S,λ_=>T,λ_=>U⟩
def eO(N:Nat)(free:fK):Code->List Nat->Env->x3->(Exit->Env->x3->Prop)->Prop
 | .skip,_,e,w,K=>K .normal e w
 | .label _,_,e,w,K=>K .normal e w
 | .ret,_,e,w,K=>K .ret e w
 | .exit i,_,e,w,K=>K (.exit i) e w
 | .region _ ops p,_,e,w,K=>
  bif p then eu w λI=>wG P free ops e I (K .normal)
  else qA P free ops ops.toList e w (K .normal)
 | .seq x y,rd,e,w,K=>
  bif Nat.ble 2 (mm x)then
   ct (lam (rW N (dE x) (reads y++rd)).length λvs=>λI=>eO N free y rd (kl (rW N (dE x) (reads y++rd)) vs (ol (dE x) e)) I K)
    λaz=>eO N free x (reads y++rd) e w λex a I=>match ex with
     | .normal=>match lJ a (rW N (dE x) (reads y++rd))with
      |some vs=>app (rW N (dE x) (reads y++rd)).length az vs I
      |none=>False
     |ex=>K ex a I
  else eO N free x (reads y++rd) e w λex a I=>match ex with
   | .normal=>eO N free y rd a I K
   |ex=>K ex a I
 | .cond c x y,rd,e,w,K=>
  match eZ e c with
  |some (.b rs)=>eO N free x rd e w K
  |some (.b sp)=>eO N free y rd e w K
  |some (.v v)=>Split v (eO N free x rd e w K) (eO N free y rd e w K)
  |some .u=>False
  |none=>False
 | .block id c,rd,e,w,K=>eO N free c rd e w λex a I=>match ex with
  | .exit i=>bif S4 i id then K .normal a I else K (.exit i) a I
  |ex=>K ex a I
 | .loop c,rd,e,w,K=>
  match lJ e (rX N (dE c) (reads c++rd) e)with
  |some vs=>
   HV (rX N (dE c) (reads c++rd) e).length vs w λus I k=>
    eO N free c (reads c++rd) (kl (rX N (dE c) (reads c++rd) e) us (ol (dE c) e)) I λex a h=>match ex with
     | .normal=>match lJ a (rX N (dE c) (reads c++rd) e)with
      |some q=>k q h
      |none=>False
     |ex=>K ex a h
  |none=>False
 | .scope c,rd,e,w,K=>eO N free c rd e w K
 | .rangeFunc f j r body,_,e,w,K=>
  bif free.1 then False else
  match eZ e f with
  |some s=>
   H0 P s.val j.size w
    (λvs I k=>eO N free r (reads body) (kl j.toList.reverse vs.reverse e) I λex a h=>match ex with
     | .normal=>Over w.heap.size h λz=>eO N free body [] a z λex _ A=>k ex A
     |_=>False)
    (λI=>K .normal e I) (bif km body then λI=>K .ret e I else λ_=>False) (tT (λi I=>K (.exit i) e I) (k3 body))
  |none=>False
 | .goto _,_,_,_,_=>False
 | .refuse _,_,_,_,_=>False
end
theorem tU{w0:x3}(h:cM n w0 w){l:Nat}(j:w0.heap.size<=l)(o:Obj):cM n w0 (w.putObj l o):=
 ⟨h.os,h.tape,h.output,by simpa using h.size,λr x a U=>by
  have e:=(Z9.1 a).1;rw[R4 Ω];exact h.a8 r x a U,λr x f a U=>by
  have e:=(Z9.1 a).1;rw[R4 Ω];exact h.old r x f a U⟩
theorem H1{w0:x3}(h:e7 w0 w){l:Nat}{a:Obj}(f:w.heap[l]?=σ a)(j:tF a=sp)(o:Obj):e7 w0 (w.putObj l o):=λr x e U=>by
 have h1:=h r x e U
 grind [R4]
theorem rZ{l:Nat}{a:Obj}(e:w.heap[l]?=σ a)(f:fI a=sp)(o:Obj):Ext w (w.putObj l o):=
 ⟨Ξ,by grind [R4]⟩
theorem Aq{l:Nat}{o:Obj}(f:fI o=sp):Ext (w.putObj l o) w:=
 ⟨Ξ,λr x a U=>by
  by_cases e:r=l
  .subst e;rcases Nat.lt_or_ge r w.heap.size with h|h
   .grind [x3.putObj_heap_same]
   .rw[Array.getElem?_eq_none (by simpa using h)]at a;cases a
  grind [R4]⟩
theorem qE(w:x3)(o:Obj):Ext w (w.alloc o):=qv w o
theorem qF(w:x3)(o:Obj):cA w (w.alloc o):=qw w o
def nq(D:Nat):Deferred:={target:=.collected D,args:=#[]}
def nr(w:x3)(e:List Deferred):Prop:=∃a:List Nat,e=a.map nq/\a.Nodup/\∀D∈a,w.heap[D]?=σ (.deferred (σ []))
theorem nr.cB{a:List Deferred}(h:nr w a)(e:cM n w I):nr I a:=by
 obtain⟨f,h1,j,p⟩:=h;exact⟨f,h1,j,λD q=>e.a8 D _ (p D q) rfl⟩
section
variable{P:X2}{N:Nat}
def H2(w:x3)(e f:List Deferred):Prop:=∃a:List Nat,f=a.map nq++e/\∀D∈a,w.heap.size<=D
def gV(n:Nat)(w:x3)(e:List Deferred)(I:x3)(a:List Deferred):Prop:=cM n w I/\nr I a/\H2 w e a
theorem gV.refl{a:List Deferred}(h:nr w a):gV n w a w a:=⟨cM.refl _ _,h,[],rfl,by grind⟩
theorem gV.F{J:x3}{a e f:List Deferred}(h:gV n w a J e)(k:gV n J e I f):gV n w a I f:=by
 obtain⟨j,z,p,a3,a4⟩:=h;obtain⟨q,r,s,A,x⟩:=k;refine⟨j.F q,r,s++p,by grind,λD y=>?_⟩;rcases o9.1 y with h|h
 .exact Y1 j.size (x D h)
 grind
theorem gV.same{a:List Deferred}(h:nr w a)(e:cM n w I):gV n w a I a:=⟨e,h.cB e,[],rfl,by grind⟩
def mq:Exit->Bool
 | .panic _=>sp
 | .outgrown=>sp
 | .goto _=>sp
 |_=>rs
def oo(N:Nat)(free:fK)(f:Bool)(K:Exit->Env->x3->Prop)(D:List Nat)(a:Act)(w:x3)(ex:Exit)(a':Act)(I:x3):Prop:=
 mq ex=rs/\∃e,K ex e I/\T9 N e a'/\(∀t,t∉D->a'.tmps.getD t undef=a.tmps.getD t undef)/\(f=rs->a'.defers=a.defers)/\
  (free.1=sp->gV free.2 w a.defers I a'.defers)
theorem oo.step{free:fK}{f j:Bool}{K:Exit->Env->x3->Prop}{D':List Nat}{a e a':Act}{J:x3}{ex:Exit}(h:oo N free j K D' e J ex a' I)(y:∀t,t∈D'->t∈D)(hk:∀t,t∉D->e.tmps.getD t undef=a.tmps.getD t undef)(z:f=rs->j=rs)(A:f=rs->e.defers=a.defers)(p:free.1=sp->gV free.2 w a.defers J e.defers):oo N free f K D a w ex a' I:=by
 obtain⟨q,r,h1,s,B,C,x⟩:=h;exact⟨q,r,h1,s,by grind,by grind,λh=>(p h).F (x h)⟩
theorem Ar{t:Nat}{x:eM}:∀{e:Env},look (ol D e) t=σ x->look e t=σ x/\t∉D
 :=by
 intro a;induction a<;>grind [ol,look,HS,Nat.eq_of_beq_eq_true]
theorem wP{a:Act}{e:Env}:∀{S:List Nat}{vs:List x1},T9 N e a->(∀p∈S.zip vs,a.tmps.getD p.1 undef=p.2)->T9 N (kl S vs e) a
 |[],_,h,_=>by grind [kl]
 |t::r,[],h,_=>by grind [kl]
 |t::r,v::vs,h,j=>by
  have q:=wP (S:=r) (vs:=vs) h λp w=>j p (by simp[w]);refine⟨q.1,λs x U=>?_⟩;simp only[kl,look]at U;cases f:S4 t s with
  |true=>
   rw[f]at U;simp only[cond_true,X6]at U;subst U;rw[<-Nat.eq_of_beq_eq_true f];exact j (t,v) Ξ
  |false=>rw[f]at U;exact q.2 s x U
theorem tV{e:Env}{a:Act}(j:T9 N e a):∀{S:List Nat}{vs:List x1},lJ e S=σ vs->vs.length=S.length/\∀p∈S.zip vs,a.tmps.getD p.1 undef=p.2
 |[],vs,h=>by simp[lJ]at h;subst h;simp
 |t::r,vs,h=>by
  simp only[lJ]at h;cases q:look e t with
  |none=>grind
  |some x=>
   rw[q]at h;simp only at h;cases s:lJ e r with
   |none=>grind
   |some us=>
    rw[s]at h;simp only[X6]at h;subst h;obtain⟨h1,w⟩:=tV j s;refine⟨by simp[h1],λp f=>?_⟩;simp only[List.zip_cons_cons,List.mem_cons]at f;rcases f with rfl|f
    .exact j.2 t x q
    grind
theorem H3{a a':Act}{e f:Env}(j:T9 N e a)(p:T9 N f a')(hk:∀t,t∉D->a'.tmps.getD t undef=a.tmps.getD t undef):T9 N (ol D e) a':=
 ⟨p.1,λt x h=>by
  obtain⟨h1,q⟩:=Ar h;rw[hk t q];exact j.2 t x h1⟩
theorem H4{o:U6}{t:Nat}(a:o.dst=σ t)(l:List U6)(hm:o∈l):t∈pi l:=by
 induction l<;>grind [pi]
theorem As{free:fK}{f:Bool}{K:Exit->Env->x3->Prop}{a a':Act}(q:free.1=sp->nr w a.defers)(h:oh N free (K .normal) D a w a' I):
  oo N free f K D a w .normal a' I:=by
 obtain⟨j,h1,p,e,r⟩:=h;exact⟨rfl,j,h1,p,e.2,λ_=>e.1,λs=>by rw[e.1];grind [gV.same]⟩
theorem Au:∀(a:List Nat)(vs:List x1)(p:Nat)(v:x1)(e:Env),a.length=vs.length->kl (a++[p]) (vs++[v]) e=kl a vs ((p,.v v)::e)
 |[],[],_,_,_,_=>rfl
 |[],_::_,_,_,_,h=>by simp at h
 |_::_,[],_,_,_,h=>by simp at h
 |q::a,u::vs,p,v,e,h=>by
  simp only[List.cons_append,kl];rw[Au a vs p v e (by grind)]
theorem Av:∀(a:List Nat)(vs:List x1)(jS:Array x1)(e:Env),a.length=vs.length->(a.all λt=>Nat.blt t N)=rs->T9 N e {tmps:=jS,defers:=[]}->
  T9 N (kl a.reverse vs.reverse e) {tmps:=(a.zip vs).foldl (λjS (p:Nat×x1)=>jS.setIfInBounds p.1 p.2) jS,defers:=[]}
 |[],[],_,_,_,_,h=>h
 |[],_::_,_,_,h,_,_=>by simp at h
 |_::_,[],_,_,h,_,_=>by simp at h
 |p::a,v::vs,jS,e,q,f,h=>by
  have j:a.length=vs.length:=by grind
  simp only[List.all_cons,V8]at f;simp only[List.zip_cons_cons,List.foldl_cons,List.reverse_cons];rw[Au _ _ _ _ _ (by simpa using j)];exact Av a vs _ _ j f.2 (h.put (d:=σ p) (x:=.v v) (v:=v) f.1 rfl)
def ko(free:fK)(c:Code):Bool:=free.1|| !lI c
theorem Aw:∀f a b:Bool,(f|| !(a||b))=rs->(f|| !a)=rs:=Φ
theorem Ax:∀f a b:Bool,(f|| !(a||b))=rs->(f|| !b)=rs:=Φ
def exitCode:Exit->Option Code
 | .ret=>σ .ret
 | .exit id=>σ (.exit id)
 |_=>ν
end
section
variable{P:X2}{N:Nat}
def Sound(P:X2)(N:Nat)(c:Code):Prop:=
 ∀(free:fK)(r:Option Nat)(rd:List Nat)(e:Env)(a:Act)(w:x3)(K:Exit->Env->x3->Prop)(Q:Exit->Act->x3->Prop),
  wf N c=rs->(∀l,r=σ l->free.1=sp/\∃f,w.heap[l]?=σ (.loop f))->(free.1=sp->nr w a.defers)->
  eO P N free c rd e w K->T9 N e a->(∀ex a' I,oo N free (ko free c) K (dE c) a w ex a' I->Q ex a' I)->(∀h a w,¬Q (.panic h) a w)->
  c.wpIn (eN r) 0 P Q a w
theorem H5{x y:Code}(U:Sound P N x)(V:Sound P N y):Sound P N (.seq x y):=by
 intro free r rd e a w K Q C L W h M O R;simp only[wf,V8]at C;have X:∀t,t∈dE x->t∈dE (.seq x y):=by grind [dE]
 have Y:∀t,t∈dE y->t∈dE (.seq x y):=by grind [dE]
 have Z:ko free (.seq x y)=rs->ko free x=rs:=λh=>Aw _ _ _ h;have aa:ko free (.seq x y)=rs->ko free y=rs:=λh=>Ax _ _ _ h;refine wpIn_seq ?_;have ab:∀(j:Env)(f:Act)(J:x3),eO P N free y rd j J K->T9 N j f->(∀t,t∉dE x->f.tmps.getD t undef=a.tmps.getD t undef)->
   (ko free (.seq x y)=rs->f.defers=a.defers)->(free.1=sp->gV free.2 w a.defers J f.defers)->y.wpIn (eN r) 0 P Q f J:=by
  intro j f J h1 z hk E p;refine V free r rd j f J K Q C.2 ?_ (λh=>(p h).2.1) h1 z ?_ R
  .intro l ac;obtain⟨S,ad,A⟩:=L l ac;exact⟨S,ad,(p S).1.a8 _ _ A rfl⟩
  .intro ex a' I s;exact O ex a' I (s.step Y (by grind) aa E p)
 have ae:∀(q:Exit->Env->x3->Prop),eO P N free x (reads y++rd) e w q->
   (∀j f J,oo N free (ko free x) q (dE x) a w .normal f J->T9 N j f->q .normal j J->(∀t,t∉dE x->f.tmps.getD t undef=a.tmps.getD t undef)->
    (ko free (.seq x y)=rs->f.defers=a.defers)->(free.1=sp->gV free.2 w a.defers J f.defers)->y.wpIn (eN r) 0 P Q f J)->
   (∀ex j J,ex≠ .normal->q ex j J->K ex j J)->x.wpIn (eN r) 0 P (Exit.then (y.wpIn (eN r) 0 P Q) Q) a w:=by
  intro q B p af;refine U free r _ e a w q _ C.1 L W B M ?_ ?_
  .intro ex f J s;cases ex with
   |normal=>
    have ag:=s;obtain⟨A,j,h1,F,G,T,H⟩:=s;exact p j f J ag F h1 G (by grind) H
   |_=>
    obtain⟨A,j,h1,F,G,T,H⟩:=s;refine O _ f J ⟨A,j,af _ j J Ξ h1,F,λt ah=>G t λh=>ah (X t h),λh=>T (Z h),H⟩
  .intro ai a w aj;exact R ai a w aj
 simp only[eO]at h;cases ak:Nat.ble 2 (mm x)with
 |false=>
  grind
 |true=>
  rw[ak]at h;refine ae _ h (λj f J _ z h1 hk E p=>?_) ?_
  .simp only at h1;cases B:lJ j (rW N (dE x) (reads y++rd))with
   |none=>grind
   |some vs=>
    rw[B]at h1;obtain⟨al,am⟩:=tV z B;simp only at h1;rw[wL _ _ _ al]at h1;exact ab _ f J h1 (wP (H3 M z hk) am) hk E p
  grind
theorem H6{c:Code}(aa:Sound P N c):Sound P N (.loop c):=by
 intro free r rd e a w K Q H ab av h A ac ad;simp only[wf]at H;simp only[eO]at h;generalize aw:rX N (dE c) (reads c++rd) e=S at h;cases I:lJ e S with
 |none=>grind
 |some vs=>
  rw[I]at h;simp only at h;obtain⟨ae,af,q,ag⟩:=h;obtain⟨ah,ai⟩:=tV A I;let Inv:Act->x3->Prop:=λf J=>∃us,us.length=S.length/\app S.length ae us J/\(∀p∈S.zip us,f.tmps.getD p.1 undef=p.2)/\f.tmps.size=N/\
   (∀t,t∉dE c->f.tmps.getD t undef=a.tmps.getD t undef)/\(ko free c=rs->f.defers=a.defers)/\(free.1=sp->gV free.2 w a.defers J f.defers)
  let L:Act->List x1:=λf=>S.map λt=>f.tmps.getD t undef;have M:∀(f:Act)(us:List x1),us.length=S.length->(∀p∈S.zip us,f.tmps.getD p.1 undef=p.2)->L f=us:=by
   intro f us s B;apply List.ext_getElem
   .grind
   .intro i h1 j;have hi:i<S.length:=Ω
    have ax:(S[i],us[i])∈S.zip us:=by
     have:=T0 (l:=S.zip us) (n:=i) (by simp[List.length_zip,s,hi])
     grind
    grind
  refine wpIn_loop Inv (λf J=>app S.length af (L f) J) ⟨vs,ah,q,ai,A.1,λ_ _=>rfl,λ_=>rfl,by grind [gV.refl]⟩ ?_;rintro f J ⟨us,s,aj,B,ak,hk,al,y⟩;have z:=tQ S.length _ us ag;rw[wL _ _ _ s]at z;have z:=z J aj;have am:T9 N (kl S us (ol (dE c) e)) f:=by
   refine wP ⟨ak,λt x an=>?_⟩ B;obtain⟨h1,j⟩:=Ar an;rw[hk t j];exact A.2 t x h1
  refine aa free r _ _ f J _ _ H ?_ (λh=>(y h).2.1) z am ?_ ?_
  .intro l ao;obtain⟨O,ap,q⟩:=ab l ao;exact⟨O,ap,(y O).1.a8 _ _ q rfl⟩
  .intro ex C V E;have R:∀t,t∉dE c->C.tmps.getD t undef=a.tmps.getD t undef:=by
    obtain⟨_,_,_,_,T,_,_⟩:=E
    grind
   cases ex with
   |normal=>
    obtain⟨q,F,h1,j,T,U,G⟩:=E;simp only at h1;cases W:lJ F S with
    |none=>grind
    |some X=>
     rw[W]at h1;obtain⟨Y,Z⟩:=tV j W;refine⟨⟨X,Y,h1.1,Z,j.1,R,by grind,λh=>(y h).F (G h)⟩,?_⟩;rw[M f us s B,M C X Y Z];exact h1.2
   |_=>
    obtain⟨q,F,h1,j,T,U,G⟩:=E;exact ac _ C V ⟨q,F,h1,j,R,λh=>(U h).F (al h),λh=>(y h).F (G h)⟩
  .intro aq a w au;exact ad aq a w au
theorem H7{o:Obj}(h:fI o=sp):book o=rs\/tF o=rs:=by cases o<;>first|exact .inl rfl|exact .inr rfl|cases h
theorem H8{l:Nat}{f p h:x3}{q y:Obj}(A:f.heap[l]?=σ q)(a:cM n f p)(e:cM n (p.putObj l y) h)(B:l<h.heap.size)(hi:e7 f h):cA f (h.putObj l q):=
 ⟨e.os.F a.os,k0.F e.tape a.tape,e.output.F a.output,by have h1:=a.size;have z:=e.size;simp at z ⊢;omega,λr x s U=>by
  by_cases w:r=l
  .grind [x3.putObj_heap_same]
  .rw[R4 w];rcases H7 U with j|j
   .exact e.a8 r x (by rw[R4 w];exact a.a8 r x s j) j
   .exact hi r x s j⟩
theorem H9{f:T6}{T:Array Tmp}{X body:Code}(aZ:Sound P N X)(ae:Sound P N body):Sound P N (.rangeFunc f T X body):=by
 intro free r rd e a w K Q aE U a1 h Y a2 bQ;simp only[wf,V8]at aE;obtain⟨a6,a7,ba⟩:=aE;simp only[eO]at h;obtain⟨fr,b⟩:=free;cases fr with
 |true=>exact h.elim
 |false=>
  simp only[cond_false]at h;cases aF:eZ e f with
  |none=>grind
  |some bR=>
   rw[aF]at h;obtain⟨aG,o,G,g,cap,bS,bT,bU,ag,aH,an,bb,⟨aI,bc⟩,bd,hbV,ah,ao,hbW,be,bf,bg,bh,bX⟩:=h;have bi:∀m k ex I,mq ex=rs->ex≠ .normal->an m k ex I->K ex e I:=by
    intro m k ex I Z bY bj;cases ex with
    |normal=>grind
    |ret=>
     have:=bh m k I bj;cases U:km body with
     |true=>grind
     |false=>rw[U]at this;grind
    |exit i=>grind [HZ]
    |_=>cases Z
   have bk:a.eval f= .func (.func g) #[] cap:=by rw[Y.eZ aF];exact bb
   refine wpIn_rangeFunc ?_;intro fn _;obtain⟨D,mark,l,s,y,bl,M,aJ,bm,R,aK,ai⟩:∃(D:Nat)(mark:List Deferred)(l:Nat)(s:x3)(y:LoopState->Option Code->Loop),
     (Instr.enterLoop fn a.tmps T X body (eN r).round).run P w= .ok (l,mark) s/\
     y=(λst bn=>{state:=st,pending:=bn,fn,tmps:=a.tmps,params:=T,assign:=X,body,defers:=D})/\
     s.heap[l]?=σ (.loop (y .ready ν))/\(mark=[]\/(mark=[nq D]/\s.heap[D]?=σ (.deferred (σ []))/\w.heap.size<=D/\D≠l))/\Ext w s/\cA w s/\w.heap.size<=l:=by
    cases r with
    |none=>
     refine⟨w.heap.size,[nq w.heap.size],w.heap.size+1,_,_,run_enterLoop_outer _ _ _ _ _,rfl,?_,.inr ⟨rfl,?_,o5 _,Ω⟩,?_,?_,Ω⟩
     .grind [x3.alloc_heap_new,x3.size_alloc]
     .grind [Below.heap_alloc,x3.alloc_heap_new]
     .exact (qE w _).F (qE _ _)
     .exact (qF w _).F (qF _ _)
    |some bo=>
     obtain⟨_,bp,H⟩:=U bo rfl;exact⟨bp.defers,[],w.heap.size,_,_,run_enterLoop_inner H _ _ _ _ _,rfl,x3.alloc_heap_new w _,.inl rfl,qE _ _,qF _ _,o5 _⟩
   let L:x3->Prop:=λj=>mark=[]\/(mark=[nq D]/\j.heap[D]?=σ (.deferred (σ []))/\w.heap.size<=D/\D≠l);have ap:∀{m:Nat}{A B:x3},cM m A B->L A->L B:=λC h=>h.imp id λ⟨h1,q,z⟩=>⟨h1,C.a8 _ _ q rfl,z⟩;have aj:∀{A:x3}(o:Obj),L A->L (A.putObj l o):=by grind [R4]
   have bq:cM b w s:=aK.b;have aL:=(Z9.1 aJ).1;have aM:∀{A B:x3},fJ s.heap.size A B->L A->L B:=λC h=>h.imp id λ⟨h1,q,z⟩=>⟨h1,C.old _ _ (by
    grind) q rfl,z⟩
   have ab:∀{A:x3}(o:Obj),fJ w.heap.size A (A.putObj l o):=λ{A}o=>⟨rfl,.lD,rfl,Ξ,by grind [R4]⟩;let az:(Nat->Prop)->aG->x3->Prop:=λm k j=>aH m k j/\j.heap[l]?=σ (.loop (y .ready ν))/\cM b w j/\L j;let aN:(Nat->Prop)->aG->x3->Prop:=λm k j=>∃ex c,mq ex=rs/\exitCode ex=σ c/\an m k ex j/\j.heap[l]?=σ (.loop (y .done (σ c)))/\cM b w j/\L j;have own:∀{m:Nat->Prop}{A B:x3},af (λr=>o=rs/\s.heap.size<=r/\¬m r) A B->af (λr=>o=rs/\w.heap.size<=r/\¬m r) A B:=λh=>h.X (by grind);have aq:=bc l az aN s (λm k A B he C ⟨h1,q,z,O⟩=>⟨ah m k A B (own he) (C.X R.size) h1,C.old _ _ aL q rfl,z.Ae C R.size,aM C O⟩)
    (λm k A B he C ⟨ex,c,H,h1,q,z,O,ac⟩=>⟨ex,c,H,h1,ao m k ex A B (own he) (C.X R.size) q,C.old _ _ aL z rfl,O.Ae C R.size,aM C ac⟩) ?round (by grind) ⟨ah _ _ _ _ (R.aa _) aK.o be,aJ,bq,bm⟩
   case round=>
    intro m k ak vs j aO br hag aP ⟨hi,au,bs,bt⟩;have av:=bd k vs ak j aP;have aQ:=run_yield (P:=P) (args:=vs.toArray) au (by rw[M];simp[av]);rw[M]at aQ;refine⟨fn,_,X,body,aQ,roundIn_of_wpIn trivial ?_⟩;have bu:(T.zip vs.toArray).foldl (λtmps x=>match x with|(t,a)=>tmps.setIfInBounds t a) a.tmps=(T.toList.zip vs).foldl (λjS (p:Nat×x1)=>jS.setIfInBounds p.1 p.2) a.tmps:=by
     grind [Array.toList_zip]
    have aR:=Av T.toList vs a.tmps e (by simp[av]) a6 (show T9 N e {tmps:=a.tmps,defers:=[]}from⟨Y.1,Y.2⟩);rw[<-bu]at aR;have bZ:=au;refine aZ (sp,b) (σ l) _ _ _ j _ _ a7 (by grind) (λ_=>⟨[],rfl,List.nodup_nil,by grind⟩) (by have ae:=tQ _ _ vs bf;rw[wL _ _ _ av]at ae;exact ae m k ak j (λr U=>⟨Y1 R.size (aO r U).1,(aO r U).2⟩) (Y1 R.size br) hag aP hi) aR ?_ (λ_ _ _ h=>h);intro ex aS E aw;obtain⟨H,b0,h1,q,z,O,ac⟩:=aw;obtain⟨V,bw,_⟩:=ac rfl;cases ex with
    |normal=>
     have ad:=V.a8 _ _ au rfl;have bx:=(Z9.1 ad).1;refine⟨_,run_beginRound ad (by rw[M]),?_⟩;have bz:Ext E (E.putObj l (.loop {y .ready ν with state:=.busy})):=rZ ad rfl _;have bA:(E.putObj l (.loop {y .ready ν with state:=.busy})).heap[l]?=σ (.loop {y .ready ν with state:=.busy}):=x3.putObj_heap_same bx;have bB:nr (E.putObj l (.loop {y .ready ν with state:=.busy})) aS.defers:=by
      obtain⟨al,ax,W,ay⟩:=bw;refine⟨al,ax,W,λD' am=>?_⟩
      grind [R4]
     have aT:cM b w (E.putObj l (.loop {y .ready ν with state:=.busy})):=tU (bs.F V) ai _;have aU:=aj (.loop {y .ready ν with state:=.busy}) (ap V bt);have bC:=h1 _ bz ⟨Aq rfl,ab _⟩ (H1 (e7.refl _) ad rfl _);refine ae (sp,b) (σ l) _ _ aS _ _ _ ba (by grind) (λ_=>bB) bC q ?_ (λ_ _ _ h=>h);intro bD b1 F aw;obtain⟨aA,b2,g1,b3,b4,b5,bE⟩:=aw;obtain⟨J,_,_⟩:=bE rfl;have aB:F.heap[l]?=σ (.loop {y .ready ν with state:=.busy}):=J.a8 _ _ bA rfl;have b6:=(Z9.1 aB).1;have aV:=λbF=>run_endRound (P:=P) bF aB;have aC:∀(o:Obj),Ext F (F.putObj l o):=λo=>rZ aB rfl o;have aW:∀(ex:Exit)(c:Code),mq ex=rs->exitCode ex=σ c->(bif o then False else an m k ex F)->
       ∃v I,(Instr.endRound l (σ c)).run P F= .ok v I/\∃aD,Ending.returned v= .returned aD/\((aD= .bool rs/\(∃cn,(∀r,cn r->m r\/j.heap.size<=r/\r<I.heap.size)/\(∀r,m r->cn r)/\ag cn I/\az cn ak I)/\(G=rs\/o=rs->cA j I)/\j.heap.size<=I.heap.size/\(o=rs->af (λr=>r<s.heap.size\/m r) j I))\/(o=sp/\aD= .bool sp/\aN m k I)):=by
      intro ex c Z bG bH;cases o with
      |true=>grind
      |false=>
       refine⟨_,_,aV (σ c),_,rfl,.inr ⟨rfl,rfl,ex,c,Z,bG,ao m k ex _ _ ((aC _).aa _) (ab _) bH,?_,tU (aT.F J) ai _,aj _ (ap J aU)⟩⟩
       grind [x3.putObj_heap_same]
     cases bD with
     |normal=>
      have bI:j.heap.size<=F.heap.size:=by
       have h1:=V.size;have q:=J.size;simp at q;omega
      obtain⟨⟨cn,d1,d2,ax,W⟩,b7,bJ⟩:(∃cn,(∀r,cn r->m r\/j.heap.size<=r/\r<F.heap.size)/\(∀r,m r->cn r)/\ag cn F/\aH cn ak F)/\(G=rs\/o=rs->e7 j F)/\(o=rs->af (λr=>r<s.heap.size\/m r) j F):=by
       cases o with
       |true=>exact⟨g1.1,λ_=>g1.2.1,λ_=>g1.2.2.X (by grind)⟩
       |false=>grind
      refine⟨_,_,aV ν,_,rfl,.inl ⟨rfl,⟨cn,by simpa using d1,d2,by grind,ah _ _ _ _ ((aC _).aa _) (ab _) W,?_,tU (aT.F J) ai _,aj _ (ap J aU)⟩,λb8=>?_,?_,λbK=>(bJ bK).F ((aC _).aa _)⟩⟩
      .grind [x3.putObj_heap_same]
      .grind [H8]
      .simpa using bI
     |ret=>exact aW .ret _ rfl rfl g1
     |exit id=>exact aW (.exit id) _ rfl rfl g1
     |goto t=>cases aA
     |panic bL=>cases aA
     |outgrown=>cases aA
    |_=>grind
   have aq:=gT.calls P aq aI;refine⟨l,mark,s,{target:=.fn (.func g) cap,args:=#[.func (.yield l) #[] #[]]},s,g,#[.func (.yield l) #[] #[]]++cap,s,bl,?_,λ_ _=>trivial,?_,wz _ _,?_⟩
   .simp only[resolve,bk];simp[go_sem]
   .simp only[invoke];exact aI _ _
   .have bM:(#[.func (.yield l) #[] #[]]++cap:Array x1)=(x1.func (.yield l) #[] #[]::cap.toList).toArray:=by grind
    rw[bM];refine CallsIn.mono (Ag aq) ?_;rintro b9 E ⟨v,rfl,bN⟩;have left:∀(S:Loop)(ex:Exit),mq ex=rs->E.heap[l]?=σ (.loop S)->S.state≠ .busy->cM b w E->L E->K ex e (E.putObj l (.loop {S with state:=.exhausted}))->
      Q ex {a with defers:=mark++a.defers} (E.putObj l (.loop {S with state:=.exhausted})):=by
     intro S ex Z ad ca V aX bO;have J:cM b w (E.putObj l (.loop {S with state:=.exhausted})):=tU V ai _;refine a2 ex _ _ ⟨Z,e,bO,⟨Y.1,Y.2⟩,λ_ _=>rfl,by grind [ko,lI],λ_=>⟨J,?_,?_⟩⟩
     case refine_2=>
      rcases aX with hm|⟨hm,_,bP,_⟩
      .exact⟨[],by simp[hm],by grind⟩
      .exact⟨[D],by simp[hm],by grind⟩
     obtain⟨al,ax,W,ay⟩:=a1 rfl;have aY:=aj (.loop {S with state:=.exhausted}) aX;rcases aY with hm|⟨hm,aY,bP,_⟩
     .exact⟨al,by grind,W,λD' am=>J.a8 _ _ (ay D' am) rfl⟩
     .refine⟨D::al,by grind,List.nodup_cons.2 ⟨λcb=>?_,W⟩,λD' am=>?_⟩
      .grind
      .rcases List.mem_cons.1 am with h|h
       .grind
       .exact J.a8 _ _ (ay D' h) rfl
    rcases bN with⟨m,k,hk,h1,q,z,O⟩|⟨m,k,ex,c,H,h1,q,z,O,ac⟩
    .refine⟨ν,_,by have:=run_endLoop (P:=P) q (by rw[M];simp);rw[M]at this;exact this,?_⟩;have:=left (y .ready ν) .normal rfl q (by grind) z O (bg m _ _ hk (ah m _ _ _ ((rZ q rfl _).aa _) (ab _) h1))
     grind
    .refine⟨σ c,_,by have:=run_endLoop (P:=P) z (by rw[M];simp);rw[M]at this;exact this,?_⟩;have:=left (y .done (σ c)) ex H z (by grind) O ac (bi m k ex _ H (by intro he;rw[he]at h1;cases h1) (ao m _ _ _ _ ((rZ z rfl _).aa _) (ab _) q));rw[M]at this;cases ex with
     |normal=>cases h1
     |ret=>cases h1;grind [wpIn_ret]
     |exit id=>cases h1;grind [wpIn_exit]
     |goto t=>cases H
     |panic bL=>cases H
     |outgrown=>cases H
theorem tW{b:Frame}{a:Act}{k:List Item}{cs:List Frame}{c:Code}:
  step P (lone (b.atR a (.code (.scope c)::k)) cs w)= .next (lone (b.atR a (.code c:: .inScope c::k)) cs w):=
 step_lone_go (by simp[stepG,stepG.exec,Frame.atR])
theorem Ia{b:Frame}{a:Act}{k:List Item}{cs:List Frame}{c:Code}:
  step P (lone (b.atR a (.inScope c::k)) cs w)= .next (lone (b.atR a k) cs w):=
 step_lone_go (by simp[stepG,stepG.exec,Frame.atR])
theorem Ib{F:Fence}{c:Code}{Q:Exit->Act->x3->Prop}{a:Act}(h:c.wpIn F n P (λex a' I=>mq ex=rs/\Q ex a' I) a w):
  (Code.scope c).wpIn F n P Q a w:=by
 intro b k cs z p q;have f:(lone (b.atR a (.code (.scope c)::k)) cs w).fenced P F:=fenced_calm p q rfl;obtain⟨e,r,s,⟨x,y⟩,j⟩:=h b (.inScope c::k) cs z p q;have G:∀id,exitTo id (.inScope c::k)=exitTo id k:=by grind [exitTo]
 cases e with
 |normal=>exact⟨.normal,r,s,y,.head f tW (StepsIn.trans j (.one (fenced_calm p q rfl) Ia))⟩
 |exit id=>
  exact⟨.exit id,r,s,y,λA hk=>.head f tW (j.1 A (by grind)),
   λB hk=>let⟨C,h1,E⟩:=j.2 B (by grind);⟨C,h1,.head f tW E⟩⟩
 |ret=>exact⟨_,r,s,y,.of_steps (.one f tW) j⟩
 |goto l=>cases x
 |panic H=>cases x
 |outgrown=>cases x
theorem sound(hm:P.follows .mixedOrders=rs)(c:Code):Sound P N c:=by
 induction c with
 |skip=>exact λfree r rd e a w K Q _ _ q h j p _=>wpIn_skip (p _ _ _ ⟨rfl,e,h,j,λ_ _=>rfl,λ_=>rfl,by grind [gV.refl]⟩)
 |label l=>exact λfree r rd e a w K Q _ _ q h j p _=>wpIn_label (p _ _ _ ⟨rfl,e,h,j,λ_ _=>rfl,λ_=>rfl,by grind [gV.refl]⟩)
 |ret=>exact λfree r rd e a w K Q _ _ q h j p _=>wpIn_ret (p _ _ _ ⟨rfl,e,h,j,λ_ _=>rfl,λ_=>rfl,by grind [gV.refl]⟩)
 |exit i=>exact λfree r rd e a w K Q _ _ q h j p _=>wpIn_exit (p _ _ _ ⟨rfl,e,h,j,λ_ _=>rfl,λ_=>rfl,by grind [gV.refl]⟩)
 |goto l=>exact λfree r rd e a w K Q _ _ q h j p _=>h.elim
 |refuse s=>exact λfree r rd e a w K Q _ _ q h j p _=>h.elim
 |region id ops W=>
  intro free r rd e a w K Q A E q h j p F;simp only[wf,V8]at A;have T:∀o∈ops.toList,∀t,o.dst=σ t->t∈pi ops.toList:=by grind [H4]
  simp only[eO]at h;cases W with
  |false=>exact HE T A.1 h j λa' I B=>p _ _ _ (As q B)
  |true=>
   simp only[Y2,Bool.false_or]at A;exact HR hm A.2 F T A.1 (λI h1 G H=>h I h1 G H) j λa' I B=>p _ _ _ (As q B)
 |seq x y O R=>grind [H5]
 |cond c x y O R=>
  intro free r rd e a w K Q A E q h j p F;simp only[wf,V8]at A;have U:∀ex a' I,oo N free (ko free x) K (dE x) a w ex a' I->Q ex a' I:=λex a' I B=>p ex a' I (by
   obtain⟨M,J,h1,G,H,L,S⟩:=B;exact⟨M,J,h1,G,by grind [dE],(λh=>L (Aw _ _ _ h)),S⟩)
  have V:∀ex a' I,oo N free (ko free y) K (dE y) a w ex a' I->Q ex a' I:=λex a' I B=>p ex a' I (by
   obtain⟨M,J,h1,G,H,L,S⟩:=B;exact⟨M,J,h1,G,by grind [dE],(λh=>L (Ax _ _ _ h)),S⟩)
  simp only[eO]at h;cases C:eZ e c with
  |none=>grind
  |some v=>
   rw[C]at h;cases v with
   |b t=>
    cases t with
    |true=>exact wpIn_cond (j.eZ C) (O free r rd e a w K Q A.1 E q h j U F)
    |false=>exact wpIn_cond (j.eZ C) (R free r rd e a w K Q A.2 E q h j V F)
   |v z=>
    obtain⟨t,X,Y,Z⟩:=h;refine wpIn_cond ((j.eZ C).F X) ?_;cases t with
    |true=>exact O free r rd e a w K Q A.1 E q (Y rfl) j U F
    |false=>exact R free r rd e a w K Q A.2 E q (Z rfl) j V F
   |u=>exact h.elim
 |block id c C=>
  intro free r rd e a w K Q A E q h j p F;simp only[wf]at A;simp only[eO]at h;refine wpIn_block (C free r rd e a w _ _ A E q h j ?_ λaa a w ab=>F aa a w ab);intro ex a' I B;obtain⟨M,J,h1,G,H,L⟩:=B;cases ex with
  |exit i=>
   simp only[Exit.inBlock];simp only at h1;by_cases hi:i=id
   .rw[m5 hi];rw[hi,Nat.beq_refl]at h1;exact p _ _ _ ⟨rfl,J,h1,G,H,L⟩
   .rw[m6 hi];have:S4 i id=sp:=by
     grind [Nat.eq_of_beq_eq_true]
    rw[this]at h1;exact p _ _ _ ⟨rfl,J,h1,G,H,L⟩
  |_=>exact p _ _ _ ⟨M,J,h1,G,H,L⟩
 |loop c C=>exact H6 C
 |scope c C=>
  intro free r rd e a w K Q A E q h j p F;exact Ib (C free r rd e a w K (λex a' I=>mq ex=rs/\Q ex a' I) A E q h j (λex a' I B=>⟨B.1,p ex a' I B⟩) (by grind))
 |rangeFunc f ac ad body ae af=>grind [H9]
def mr:Nat->List x1->Env
 |_,[]=>[]
 |i,v::r=>(i,.v v)::mr (i+1) r
def pk(P:X2)(e:Env)(w:x3):List ResultVar->(List x1->Prop)->Prop
 |[],K=>K []
 | .tmp t::r,K=>match look e t with
  |some x=>pk P e w r λvs=>K (x.val::vs)
  |none=>False
 | .cell a t::r,K=>match look e a with
  |some x=>ab P (do loadVar t (<-asAddr x.val)) w λv=>pk P e w r λvs=>K (v::vs)
  |none=>False
def tX:List x1->x1
 |[v]=>v
 |vs=>.tuple vs.toArray
def ns(P:X2)(a:List ResultVar)(marks:Bool)(n:Nat)(Q:x1->x3->Prop):Exit->Env->x3->Prop
 | .normal,e,w| .ret,e,w=>pk P e w a λvs=>bif marks then wM n w λI=>Q (tX vs) I else Q (tX vs) w
 |_,_,_=>False
def oq:List ResultVar->List Nat
 |[]=>[]
 | .tmp t::r=>t::oq r
 | .cell a _::r=>a::oq r
theorem Ay:∀(vs:List x1)(i t:Nat)(x:eM),look (mr i vs) t=σ x->∃j v,t=i+j/\vs[j]?=σ v/\x= .v v
 |[],_,_,_,h=>by cases h
 |v::r,i,t,x,h=>by
  simp only[mr,look]at h;cases a:S4 i t with
  |true=>
   rw[a]at h;simp only[cond_true,X6]at h;exact⟨0,v,by grind [Nat.eq_of_beq_eq_true],rfl,h.symm⟩
  |false=>
   rw[a]at h;obtain⟨j,u,h1,f,e⟩:=Ay r (i+1) t x h;exact⟨j+1,u,Ω,by grind,e⟩
theorem wQ(vs:List x1)(h:vs.length<=n):T9 n (mr 0 vs) {tmps:=vs.toArray++Array.replicate (n-vs.toArray.size) undef,defers:=[]}:=by
 refine⟨Θ,λt x e=>?_⟩;obtain⟨j,v,h1,a,rfl⟩:=Ay vs 0 t x e;have h1:t=j:=Ω
 subst h1;have f:=(x4.1 a).1;rw[Array.getD_eq_getD_getElem?,Array.getElem?_append_left Ω];simp[a,eM.val]
def tY(jS:Array x1):ResultVar->Sem x1
 | .tmp t=>pure (jS.getD t undef)
 | .cell b t=>do loadVar t (<-asAddr (jS.getD b undef))
theorem Ic(fn:Func)(jS:Array x1):results fn jS=(do let vs <-fn.results.mapM (tY jS);pure (if h:vs.size=1 then vs[0]else .tuple vs)):=by
 unfold results;congr 2
theorem wR{e:Env}{a:Act}{w:x3}(j:T9 N e a):∀(p:List ResultVar)(K:List x1->Prop),pk P e w p K->
  ∃vs,K vs/\vs.length=p.length/\∀I,Ext w I->(p.mapM (tY a.tmps)).run P I= .ok vs I
 |[],K,h=>⟨[],h,rfl,by grind [W9]⟩
 | .tmp t::r,K,h=>by
  simp only[pk]at h;cases f:look e t with
  |none=>grind
  |some x=>
   rw[f]at h;obtain⟨vs,h1,q,s⟩:=wR j r _ h;refine⟨x.val::vs,h1,by simp[q],λI hw=>?_⟩;rw[List.mapM_cons];simp only[tY,X4,W9,X9,s I hw,j.2 t x f]
 | .cell b t::r,K,h=>by
  simp only[pk]at h;cases f:look e b with
  |none=>grind
  |some x=>
   rw[f]at h;obtain⟨v,y,h⟩:=h;obtain⟨vs,h1,q,s⟩:=wR j r _ h;refine⟨v::vs,h1,by simp[q],λI hw=>?_⟩;rw[List.mapM_cons];have:=y I hw;rw[<-j.2 b x f]at this
   grind [tY,X4,X9,W9]
theorem wS{fn:Func}{e:Env}{a:Act}(j:T9 N e a){K:List x1->Prop}(h:pk P e w fn.results.toList K):
  ∃vs,K vs/\∀I,Ext w I->(results fn a.tmps).run P I= .ok (tX vs) I:=by
 obtain⟨vs,h1,p,f⟩:=wR j _ _ h;refine⟨vs,h1,λI hw=>?_⟩;have f:=f I hw;rw[Ic,X4,Array.mapM_eq_mapM_toList,map_eq_pure_bind,X4,f];simp only[X9,W9];cases vs with
 |nil=>rfl
 |cons v r=>
  cases r<;>grind [tX]
theorem Az{fn:Func}{tmps:Array x1}{R:Ending->x3->Prop}:∀(a:List Nat)(w:x3),a.Nodup->(∀D∈a,w.heap[D]?=σ (.deferred (σ [])))->
  (∀I,Ext w I->Ext I w->I.os=w.os->k0 w I->I.output=w.output->w.heap.size=I.heap.size->
   (∀r,r∉a->I.heap[r]?=w.heap[r]?)->∃v,(results fn tmps).run P I= .ok v I/\R (.returned v) I)->
  LeavesInM Fence.wide 0 P fn tmps R (a.map nq) .returning w
 |[],w,_,_,h=>by
  obtain⟨v,h1,e⟩:=h w (Ext.refl _) (Ext.refl _) rfl .lD rfl rfl λ_ _=>rfl;exact⟨v,h1,e⟩
 |D::a,w,f,p,h=>by
  rw[List.nodup_cons]at f;have j:=p D (.head _);refine⟨Ξ,.inl ⟨D,_,rfl,run_takeDeferred j,?_⟩⟩;refine Az a _ f.2 (λD' z=>?_) λI h1 e q s x y A=>?_
  .grind [R4]
  .refine h I ((rZ j rfl _).F h1) (e.F (Aq rfl)) q s x (by simpa using y) λr B=>?_
   grind [R4]
theorem ak.enter(hm:P.follows .mixedOrders=rs){f:S9}{fn:Func}{c:Code}(p:P.funcs[f]?=σ fn)(q:fn.body=σ c)(F:(fn.name == "runtime.NumGoroutine")=sp)(G:wf fn.ntmps c=rs){args:List x1}(H:Nat.ble args.length fn.ntmps=rs){w:x3}{Q:x1->x3->Prop}(h:eO P fn.ntmps (sp,w.heap.size) c (oq fn.results.toList) (mr 0 args) w (ns P fn.results.toList rs w.heap.size Q)):ak P f args w Q:=by
 refine .code (Enters.of P p q F) (callsIn_wide (n:=0).1 (callsIn_of_wp_marks p q trivial ?_));have J:=wQ (n:=fn.ntmps) args (Nat.le_of_ble_eq_true H);refine wpIn_mono (Q:=λex a' I=>mq ex=rs/\bodyPostM Fence.wide 0 P fn (λe I=>∃v,e= .returned v/\cA w I/\Q v I) ex a' I) ?_ (by grind);refine sound hm c (sp,w.heap.size) ν _ _ _ w _ _ G (by grind) (λ_=>⟨[],rfl,List.nodup_nil,by grind⟩) h J ?_ (λ_ _ _ h=>by cases h.1)
 .intro ex a' I K;obtain⟨L,M,j,N,_,_,U⟩:=K;obtain⟨a,⟨s,O,R,S⟩,T,ab,ac⟩:=U rfl;have W:∀D∈s,w.heap.size<=D:=by
   intro D ad;have h1:nq D∈T.map nq:=by
    grind
   grind [nq]
  have x:ns P fn.results.toList rs w.heap.size Q .ret M I->LeavesInM Fence.wide 0 P fn a'.tmps (λe y=>∃v,e= .returned v/\cA w y/\Q v y) a'.defers .returning I:=by
   intro j;rw[O];obtain⟨vs,h1,X⟩:=wS N j;refine Az s I R S λV g1 Y z A B C Z=>⟨_,X V g1,_,rfl,?_,h1 V g1 ⟨Y,z,A,B,Nat.le_of_eq C,by grind⟩⟩;have a:=a.cB (o5 _);refine⟨z.F a.os,A.F a.tape,B.F a.output,by rw[<-C];exact a.size,λr o E aa=>?_⟩;have ae:=(Z9.1 E).1;rw[Z r λhm=>by have:=W r hm;omega];exact a.a8 r o E aa
  cases ex with
  |normal=>exact⟨rfl,x j⟩
  |ret=>exact⟨rfl,x j⟩
  |exit id=>exact j.elim
  |_=>cases L
theorem ak.Ie(hm:P.follows .mixedOrders=rs){f:S9}{fn:Func}{c:Code}(j:P.funcs[f]?=σ fn)(p:fn.body=σ c)(s:(fn.name == "runtime.NumGoroutine")=sp)(x:wf fn.ntmps c=rs){args:List x1}(y:Nat.ble args.length fn.ntmps=rs)(ap:lI c=sp){w:x3}{Q:x1->x3->Prop}(h:eO P fn.ntmps (sp,w.heap.size) c (oq fn.results.toList) (mr 0 args) w (ns P fn.results.toList sp 0 Q)):ak P f args w Q:=by
 refine .code (Enters.of P j p s) (callsIn_wide (n:=0).1 (callsIn_of_wp j p trivial ?_));have z:=wQ (n:=fn.ntmps) args (Nat.le_of_ble_eq_true y);refine wpIn_mono (Q:=λex a' I=>mq ex=rs/\bodyPost P fn (λe I=>∃v,e= .returned v/\cA w I/\Q v I) ex a' I) ?_ (by grind);refine sound hm c (sp,w.heap.size) ν _ _ _ w _ _ x (by grind) (λ_=>⟨[],rfl,List.nodup_nil,by grind⟩) h z ?_ (λ_ _ _ h=>by cases h.1);intro ex a' I A;obtain⟨B,C,a,E,_,F,U⟩:=A;have G:=F (by simp[ko,ap]);have q:ns P fn.results.toList sp 0 Q .ret C I->a'.defers=[]/\∃v,(results fn a'.tmps).run P I= .ok v I/\∃r,Ending.returned v= .returned r/\cA w I/\Q r I:=by
  intro a;obtain⟨vs,h1,H⟩:=wS E a;exact⟨G,_,H I (Ext.refl _),_,rfl,(U rfl).1.cB (o5 _),h1⟩
 cases ex with
 |normal=>exact⟨rfl,q a⟩
 |ret=>exact⟨rfl,q a⟩
 |exit id=>exact a.elim
 |_=>cases B
theorem gT.enter(hm:P.follows .mixedOrders=rs){f:S9}{fn:Func}{c:Code}(j:P.funcs[f]?=σ fn)(p:fn.body=σ c)(s:(fn.name == "runtime.NumGoroutine")=sp)(x:wf fn.ntmps c=rs){args:List x1}(y:Nat.ble args.length fn.ntmps=rs){w:x3}{Q:x1->x3->Prop}(h:eO P fn.ntmps (rs,0) c (oq fn.results.toList) (mr 0 args) w (ns P fn.results.toList sp 0 Q)):gT P f args w Q:=by
 refine .code (Enters.of P j p s) (callsIn_wide (n:=0).1 (callsIn_of_wp j p trivial ?_));have z:=wQ (n:=fn.ntmps) args (Nat.le_of_ble_eq_true y);refine wpIn_mono (Q:=λex a' I=>mq ex=rs/\bodyPost P fn (λe I=>∃v,e= .returned v/\Q v I) ex a' I) ?_ (by grind);refine sound hm c (rs,0) ν _ _ _ w _ _ x (by grind) (by grind) h z ?_ (λ_ _ _ h=>by cases h.1);intro ex a' I A;obtain⟨B,C,a,E,_,F,U⟩:=A;have G:=F rfl;have q:ns P fn.results.toList sp 0 Q .ret C I->a'.defers=[]/\∃v,(results fn a'.tmps).run P I= .ok v I/\∃r,Ending.returned v= .returned r/\Q r I:=by
  intro a;obtain⟨vs,h1,H⟩:=wS E a
  grind [Ext.refl]
 cases ex with
 |normal=>exact⟨rfl,q a⟩
 |ret=>exact⟨rfl,q a⟩
 |exit id=>exact a.elim
 |_=>cases B
end
def r0(l:List T6)(d:Nat):Nat:=
 match l with
 |[]=>d
 | .tmp t::r=>r0 r (Nat.lor d (Nat.shiftLeft 1 t))
 |_::r=>r0 r d
def qG:List U6->Nat->Option U6
 |[],_=>ν
 |o::_,0=>σ o
 |_::l,n+1=>qG l n
def AA(a b:Nat):Nat:=Nat.xor a (Nat.land a b)
def r1(m t:Nat):Bool:=S4 (Nat.land (Nat.shiftRight m t) 1) 1
def lK(m t:Nat):Nat:=Nat.lor m (Nat.shiftLeft 1 t)
def If(ops:List U6)(o:U6):Nat:=
 match o.guard with
 |none=>0
 |some (j,_)=>match qG ops j with
  |some ⟨σ d,_,_,_,_,_⟩=>Nat.shiftLeft 1 d
  |_=>0
def tZ:List U6->Nat->Nat
 |[],d=>d
 |⟨σ t,_,_,_,_,_⟩::l,d=>tZ l (lK d t)
 |_::l,d=>tZ l d
def AB(ops:List U6):List U6->Nat->Nat->Nat
 |[],_,r=>r
 |o::l,d,r=>AB ops l (match o.dst with|some t=>lK d t|none=>d) (Nat.lor r (AA (r0 (opsOf o.op) (If ops o)) d))
def ua:List Nat->Nat->Nat
 |[],_=>0
 |x::_,0=>x
 |_::l,n+1=>ua l n
def AC(e:Edge):Bool:=
 match e.ground with
 | .textOnly _=>sp
 | .gcOnly _=>sp
 |_=>rs
def AD(a:List Nat):List Edge->Nat->Nat
 |[],s=>s
 |e::r,s=>AD a r (bif AC e then Nat.lor (lK s e.on) (ua a e.on)else s)
def wT:List U6->List Nat->List Nat
 |[],a=>a
 |o::l,a=>wT l (a++[AD a o.after.toList 0])
def AE:List U6->Bool
 |[]=>sp
 |⟨_,_,_,_,_,σ _⟩::_=>rs
 |_::l=>AE l
def wU(a:List Nat)(j k:Nat):Bool:=!(S4 k j)&&(!(r1 (ua a j) k)&& !(r1 (ua a k) j))
def AF(a:List Nat)(j:Nat):Nat->List U6->Bool
 |_,[]=>sp
 |i,o::l=>bif Nat.ble j i then sp else(!(lF o)&&wU a j i)||AF a j (Nat.succ i) l
def AG(ops:List U6)(a:List Nat):Nat->List U6->Bool
 |_,[]=>sp
 |j,o::l=>(!(lF o)&&AF a j 0 ops)||AG ops a (Nat.succ j) l
def nt:Code->Nat
 | .region _ ops e=>bif (e&&AG ops.toList (wT ops.toList []) 0 ops.toList)||AE ops.toList then 2 else 1
 | .seq a b=>bif S4 (nt a) 0 then 0 else nt b
 | .cond _ a b=>Nat.add (nt a) (nt b)
 | .block id c=>Nat.add (nt c) (k2 id c)
 | .loop _=>0
 | .scope c=>nt c
 | .exit _=>0
 | .goto _=>0
 | .ret=>0
 | .refuse _=>0
 |_=>1
def jw:Code->Nat
 | .region _ ops _=>tZ ops.toList 0
 | .seq a b=>Nat.lor (jw a) (jw b)
 | .cond _ a b=>Nat.lor (jw a) (jw b)
 | .block _ c=>jw c
 | .loop c=>jw c
 | .scope c=>jw c
 |_=>0
def nu:Code->Nat
 | .region _ ops _=>tZ ops.toList 0
 | .seq a b=>Nat.lor (nu a) (nu b)
 | .cond _ a b=>bif S4 (nt a) 0 then nu b else bif S4 (nt b) 0 then nu a else Nat.land (nu a) (nu b)
 | .block id c=>bif S4 (k2 id c) 0 then nu c else 0
 | .scope c=>nu c
 |_=>0
def gC:Code->Nat
 | .region _ ops _=>AB ops.toList ops.toList 0 0
 | .seq a b=>Nat.lor (gC a) (AA (gC b) (nu a))
 | .cond c a b=>r0 [c] (Nat.lor (gC a) (gC b))
 | .block _ c=>gC c
 | .loop c=>gC c
 | .scope c=>gC c
 | .rangeFunc f _ a b=>r0 [f] (Nat.lor (gC a) (gC b))
 |_=>0
def ot:Nat->Nat->Nat->List Nat
 |0,_,_=>[]
 |n+1,k,m=>bif S4 m 0 then[]else bif S4 (Nat.land m 1) 1 then k::ot n (Nat.succ k) (Nat.shiftRight m 1)else ot n (Nat.succ k) (Nat.shiftRight m 1)
def r2(e:Env):List Nat->List Nat
 |[]=>[]
 |t::r=>match look e t with
  |some _=>t::r2 e r
  |none=>r2 e r
structure ou(B S aX:Type) where
 mu:{x:x1}->x1
 tup:List x1->x1
 no:B
 mv:B
 and:B->B->B
 or:B->B->B
 W:x3->x3->B
 stays:S->x1->x3->B
 split:x1->B->B->B
 wV:S->x3->(x1->B)->B
 AH:S->x3->(x1->x3->B)->B
 AI:aX->x3->(x3->B)->B
 runN:{fr:Bool}->{n:Nat}->S->x3->(x1->x3->B)->B
 AJ:{f:S9}->List x1->x3->(x1->x3->B)->B
 AK:{f:S9}->List x1->x3->(x1->x3->B)->B
 AL:{fr:Bool}->x1->List x1->x3->(x1->x3->B)->B
 drew:x3->(x3->B)->B
 again:{n:Nat}->x3->(x3->B)->B
 over:{n:Nat}->x3->(x3->B)->B
 dh:(x3->B)->((x3->B)->B)->B
 aV:(x1->x3->B)->((x1->x3->B)->B)->B
 jb:(x1->x1->x3->B)->((x1->x1->x3->B)->B)->B
 AM:(x1->x1->x1->x3->B)->((x1->x1->x1->x3->B)->B)->B
 AN:(x1->x1->x1->x1->x3->B)->((x1->x1->x1->x1->x3->B)->B)->B
 AO:(x1->x1->x1->x1->x1->x3->B)->((x1->x1->x1->x1->x1->x3->B)->B)->B
 AP:x3->(x3->(x3->B)->B)->B
 AQ:x1->x3->(x1->x3->(x1->x3->B)->B)->B
 AR:x1->x1->x3->(x1->x1->x3->(x1->x1->x3->B)->B)->B
 AS:x1->x1->x1->x3->(x1->x1->x1->x3->(x1->x1->x1->x3->B)->B)->B
 AT:x1->x1->x1->x1->x3->(x1->x1->x1->x1->x3->(x1->x1->x1->x1->x3->B)->B)->B
 AU:x1->x1->x1->x1->x1->x3->(x1->x1->x1->x1->x1->x3->(x1->x1->x1->x1->x1->x3->B)->B)->B
 AV:x1->x1->x1->x1->x1->x1->x3->(x1->x1->x1->x1->x1->x1->x3->(x1->x1->x1->x1->x1->x1->x3->B)->B)->B
 AW:x1->x3->(x1->x3->(Exit->x3->B)->B)->(x3->B)->(x3->B)->List (Nat×(x3->B))->B
 AX:x1->x3->(x1->x1->x3->(Exit->x3->B)->B)->(x3->B)->(x3->B)->List (Nat×(x3->B))->B
 loadVar:{t:r8}->x1->S
 alloc:{t:r8}->S
 box:{t:r8}->x1->S
 build:{t:r8}->List (Nat×x1)->S
 buildSlice:{t:r8}->{n:Nat}->List (Nat×x1)->S
 load:{t:r8}->x1->S
 nil:x1->S
 bin:{op:BinOp}->{t:r8}->Bool->Bool->x1->x1->S
 un:{op:UnOp}->x1->S
 conv:{s d:r8}->x1->S
 AY:{t:r8}->x1->S
 AZ:{f:Fn}->List x1->List x1->S
 A0:{t:r8}->Option x1->S
 A1:{t:r8}->x1->x1->S
 slice:{t:r8}->x1->Option x1->Option x1->Option x1->S
 A2:{t:r8}->x1->{f:Nat}->S
 field:{t:r8}->x1->{f:Nat}->S
 A3:{t:r8}->x1->x1->S
 index:{t:r8}->x1->x1->S
 lookup:{t:r8}->x1->x1->{ok:Bool}->S
 A4:{t:r8}->x1->x1->S
 range:{t:r8}->x1->S
 entry:x1->S
 assert:{t a:r8}->x1->{ok:Bool}->S
 extract:x1->{i:Nat}->S
 next:x1->{b:Bool}->S
 append:{ats:Array r8}->{t:r8}->List x1->S
 cap:{ats:Array r8}->{t:r8}->List x1->S
 clear:{ats:Array r8}->{t:r8}->List x1->S
 copy:{ats:Array r8}->{t:r8}->List x1->S
 delete:{ats:Array r8}->{t:r8}->List x1->S
 len:{ats:Array r8}->{t:r8}->List x1->S
 max:{ats:Array r8}->{t:r8}->List x1->S
 min:{ats:Array r8}->{t:r8}->List x1->S
 store:{t:r8}->x1->x1->aX
 wW:{t:r8}->x1->x1->x1->aX
 A5:{t:r8}->x1->x1->x1->aX
section
variable{B S aX:Type}(A:ou B S aX)
def eM.g:eM->x1
 | .v x=>x
 | .b c=>.bool c
 | .u=>A.mu (x:=undef)
def pm(e:Env):T6->eM
 | .tmp t=>match look e t with
  |some x=>x
  |none=>.u
 | .const (.bool c)=>.b c
 | .const x=>.v (A.mu (x:=x))
 | .global g=>.v (A.mu (x:=Γ g))
 | .func f=>.v (A.mu (x:=.func (.func f) #[] #[]))
def c6(e:Env)(x:T6):x1:=(pm A e x).g A
def pn(e:Env):List T6->List x1
 |[]=>[]
 |x::r=>c6 A e x::pn e r
def ub(e:Env):Option T6->Option x1
 |none=>ν
 |some x=>σ (c6 A e x)
def wX(e:Env):List (Nat×T6)->List (Nat×x1)
 |[]=>[]
 |(i,x)::r=>(i,c6 A e x)::wX e r
def Ig(b:j5)(ats:Array r8)(t:r8)(l:List x1)(K:S->B):B:=
 match b with
 | .append=>K (A.append (ats:=ats) (t:=t) l)
 | .cap=>K (A.cap (ats:=ats) (t:=t) l)
 | .clear=>K (A.clear (ats:=ats) (t:=t) l)
 | .copy=>K (A.copy (ats:=ats) (t:=t) l)
 | .delete=>K (A.delete (ats:=ats) (t:=t) l)
 | .len=>K (A.len (ats:=ats) (t:=t) l)
 | .max=>K (A.max (ats:=ats) (t:=t) l)
 | .min=>K (A.min (ats:=ats) (t:=t) l)
 |_=>A.no
def A6(e:Env)(t:r8)(K:S->B)(j:aX->B):Op->B
 | .alloc t=>K (A.alloc (t:=t))
 | .box t x=>K (A.box (t:=t) (c6 A e x))
 | .build t p=>K (A.build (t:=t) (wX A e p.toList))
 | .buildSlice t n p=>K (A.buildSlice (t:=t) (n:=n) (wX A e p.toList))
 | .load t x=>K (A.load (t:=t) (c6 A e x))
 | .nilCheck x=>K (A.nil (c6 A e x))
 | .binOp op t x y _=>K (A.bin (op:=op) (t:=t) (qx x) (qx y) (c6 A e x) (c6 A e y))
 | .unOp op _ x=>K (A.un (op:=op) (c6 A e x))
 | .convert s d x=>K (A.conv (s:=s) (d:=d) (c6 A e x))
 | .makeInterface t x=>K (A.AY (t:=t) (c6 A e x))
 | .makeFunc f a b=>K (A.AZ (f:=f) (pn A e a.toList) (pn A e b.toList))
 | .makeMap t r=>K (A.A0 (t:=t) (ub A e r))
 | .makeSlice t l c=>K (A.A1 (t:=t) (c6 A e l) (c6 A e c))
 | .slice t x l h m=>K (A.slice (t:=t) (c6 A e x) (ub A e l) (ub A e h) (ub A e m))
 | .fieldAddr t x f=>K (A.A2 (t:=t) (c6 A e x) (f:=f))
 | .field t x f=>K (A.field (t:=t) (c6 A e x) (f:=f))
 | .indexAddr t x i=>K (A.A3 (t:=t) (c6 A e x) (c6 A e i))
 | .index t x i=>K (A.index (t:=t) (c6 A e x) (c6 A e i))
 | .lookup t x i ok=>K (A.lookup (t:=t) (c6 A e x) (c6 A e i) (ok:=ok))
 | .mapEntry t m k=>K (A.A4 (t:=t) (c6 A e m) (c6 A e k))
 | .range t x=>K (A.range (t:=t) (c6 A e x))
 | .entry x=>K (A.entry (c6 A e x))
 | .typeAssert x t a ok=>K (A.assert (t:=t) (a:=a) (c6 A e x) (ok:=ok))
 | .extract x i=>K (A.extract (c6 A e x) (i:=i))
 | .call ⟨.builtin b,args,ats⟩=>Ig A b ats t (pn A e args.toList) K
 | .store t a x=>j (A.store (t:=t) (c6 A e a) (c6 A e x))
 | .mapUpdate t m k x=>j (A.wW (t:=t) (c6 A e m) (c6 A e k) (c6 A e x))
 | .insert t m k x=>j (A.wW (t:=t) (c6 A e m) (c6 A e k) (c6 A e x))
 | .entryStore t m k x=>j (A.A5 (t:=t) (c6 A e m) (c6 A e k) (c6 A e x))
 |_=>A.no
def iK(e:Env)(d:Option Tmp)(x:eM):Env:=
 match d with
 |some t=>(t,x)::e
 |none=>e
def A7(o:U6)(e:Env)(w:x3)(K:Env->(x3->B)->B):B:=
 match o with
 |⟨d,.move x,_,_,_,_⟩=>K (iK e d (pm A e x)) (λ_=>A.mv)
 |⟨d,.assign x,_,_,_,_⟩=>K (iK e d (pm A e x)) (λ_=>A.mv)
 |⟨d,.pick c a b,_,_,_,_⟩=>
  match pm A e c with
  | .b rs=>K (iK e d (pm A e a)) (λ_=>A.mv)
  | .b sp=>K (iK e d (pm A e b)) (λ_=>A.mv)
  | .v x=>A.split x (K (iK e d (.v (c6 A e a))) (λ_=>A.mv)) (K (iK e d (.v (c6 A e b))) (λ_=>A.mv))
  | .u=>A.no
 |⟨d,op,t,_,_,_⟩=>A6 A e t (λs=>A.wV s w λv=>K (iK e d (.v v)) (A.stays s v)) (λ_=>A.no) op
def Ih(fr:Bool)(n:Nat)(o:U6)(e:Env)(w:x3)(K:Env->x3->B):B:=
 match o with
 |⟨d,.call ⟨.value (.func f),args,_⟩,_,_,_,_⟩=>
  bif fr then A.AK (f:=f) (pn A e args.toList) w λv I=>K (iK e d (.v v)) I
  else A.AJ (f:=f) (pn A e args.toList) w λv I=>K (iK e d (.v v)) I
 |⟨d,.call ⟨.value x,args,_⟩,_,_,_,_⟩=>A.AL (fr:=fr) (c6 A e x) (pn A e args.toList) w λv I=>K (iK e d (.v v)) I
 |⟨d,.next x b,_,_,_,_⟩=>A.runN (fr:=fr) (n:=n) (A.next (c6 A e x) (b:=b)) w λv I=>K (iK e d (.v v)) I
 |⟨d,op,t,_,_,_⟩=>A6 A e t (λs=>A.AH s w λv I=>K (iK e d (.v v)) I) (λu=>A.AI u w λI=>K (iK e d (.v (A.mu (x:=undef)))) I) op
def A8(fr:Bool)(n:Nat)(o:U6)(e:Env)(w:x3)(K:Env->x3->B):B:=
 bif lF o then A7 A o e w (λa _=>K a w)else Ih A fr n o e w K
def wY(ops:List U6)(o:U6)(e:Env)(D N:Env->B):B:=
 match o.guard with
 |none=>D e
 |some (j,b)=>
  match qG ops j with
  |some ⟨σ s,_,_,_,_,_⟩=>
   match look e s with
   |some (.b c)=>bif xor c b then N e else D e
   |some (.v x)=>A.split x (bif b then D ((s,.b rs)::e)else N ((s,.b rs)::e)) (bif b then N ((s,.b sp)::e)else D ((s,.b sp)::e))
   |some .u=>N e
   |none=>A.no
  |_=>A.no
def wZ(fr:Bool)(n:Nat)(ops:List U6):List U6->Env->x3->(Env->x3->B)->B
 |[],e,w,K=>K e w
 |o::l,e,w,K=>wY A ops o e (λe=>A8 A fr n o e w λa I=>wZ fr n ops l a I K) (λe=>wZ fr n ops l (iK e o.dst .u) w K)
def Ba:List Edge->Nat->Bool
 |[],_=>rs
 |e::r,a=>(bif AC e then r1 a e.on else rs)&&Ba r a
def uc(a:Nat):Nat->List U6->List Nat
 |_,[]=>[]
 |i,o::l=>bif r1 a i then uc a (Nat.succ i) l else bif Ba o.after.toList a then i::uc a (Nat.succ i) l else uc a (Nat.succ i) l
def Bb(ops:List U6):List Nat->Option Nat
 |[]=>ν
 |i::r=>match qG ops i with
  |some o=>bif lF o then σ i else Bb ops r
  |none=>ν
def Bc(p:Nat->B):List Nat->B
 |[]=>A.mv
 |[i]=>p i
 |i::r=>A.and (p i) (Bc p r)
def Bd(same:Bool)(q:Nat)(w:x3)(st:x3->B)(a:List (x3×List (Nat×(x3->B)))):List (x3×List (Nat×(x3->B))):=
 match same,a with
 |true,g::r=>(g.1,(q,st)::g.2)::r
 |_,a=>(w,[(q,st)])::a
def Be(a:List Nat)(j:Nat):List (Nat×(x3->B))->Bool
 |[]=>sp
 |(i,_)::r=>wU a j i||Be a j r
def w1(a:List Nat)(j:Nat)(I:x3):List (Nat×(x3->B))->B
 |[]=>A.mv
 |(i,p)::r=>bif wU a j i then A.and (p I) (w1 a j I r)else w1 a j I r
def ud(a:List Nat)(j:Nat)(I:x3)(C:B):List (x3×List (Nat×(x3->B)))->B
 |[]=>C
 |(w,l)::r=>bif Be a j l then A.and (A.or (A.W w I) (w1 A a j I l)) (ud a j I C r)else ud a j I C r
def po(fr:Bool)(n:Nat)(ops:List U6)(a:List Nat):Nat->Nat->Bool->List (x3×List (Nat×(x3->B)))->Env->x3->(Env->x3->B)->B
 |0,_,_,_,e,w,K=>K e w
 |fuel+1,h,same,f,e,w,K=>
  match uc h 0 ops with
  |[]=>K e w
  |i::r=>
   match Bb ops (i::r)with
   |some q=>
    match qG ops q with
    |some o=>wY A ops o e
      (λe=>A7 A o e w λp st=>
       bif nl o then po fr n ops a fuel (lK h q) same f p w K
       else po fr n ops a fuel (lK h q) rs (Bd same q w st f) p w K)
      (λe=>bif nl o then po fr n ops a fuel (lK h q) same f (iK e o.dst .u) w K
       else po fr n ops a fuel (lK h q) rs (Bd same q w (λ_=>A.mv) f) (iK e o.dst .u) w K)
    |none=>A.no
   |none=>
    Bc A (λj=>match qG ops j with
     |some o=>wY A ops o e (λe=>A8 A fr n o e w λp I=>ud A a j I (po fr n ops a fuel (lK h j) sp f p I K) f)
       (λe=>ud A a j w (po fr n ops a fuel (lK h j) sp f (iK e o.dst .u) w K) f)
     |none=>A.no) (i::r)
def ue(e:Env):List Nat->List x1
 |[]=>[]
 |t::r=>(match look e t with|some x=>x.g A|none=>A.mu (x:=undef))::ue e r
def w2(l:List Nat)(vs:List x1)(e:Env):Env:=
 match l,vs with
 |t::r,v::vs=>(t,.v v)::w2 r vs e
 |_,_=>e
def uf(d:Nat):Env->Env
 |[]=>[]
 |(t,x)::r=>bif r1 d t then uf d r else(t,x)::uf d r
def Ii(l:List Nat)(az:List x1->x3->B)(e:(List x1->x3->B)->B):B:=
 match l with
 |[]=>A.dh (λw=>az [] w) λk=>e λ_ w=>k w
 |[_]=>A.aV (λa w=>az [a] w) λk=>e λvs w=>match vs with
  |[a]=>k a w
  |_=>A.no
 |[_,_]=>A.jb (λa b w=>az [a,b] w) λk=>e λvs w=>match vs with
  |[a,b]=>k a b w
  |_=>A.no
 |[_,_,_]=>A.AM (λa b c w=>az [a,b,c] w) λk=>e λvs w=>match vs with
  |[a,b,c]=>k a b c w
  |_=>A.no
 |[_,_,_,_]=>A.AN (λa b c d w=>az [a,b,c,d] w) λk=>e λvs w=>match vs with
  |[a,b,c,d]=>k a b c d w
  |_=>A.no
 |[_,_,_,_,_]=>A.AO (λa b c d f w=>az [a,b,c,d,f] w) λk=>e λvs w=>match vs with
  |[a,b,c,d,f]=>k a b c d f w
  |_=>A.no
 |_=>A.no
def Ij(us:List x1)(w:x3)(e:List x1->x3->(List x1->x3->B)->B):B:=
 match us with
 |[]=>A.AP w λw k=>e [] w λ_ w=>k w
 |[a]=>A.AQ a w λa w k=>e [a] w λvs w=>match vs with
  |[a]=>k a w
  |_=>A.no
 |[a,b]=>A.AR a b w λa b w k=>e [a,b] w λvs w=>match vs with
  |[a,b]=>k a b w
  |_=>A.no
 |[a,b,c]=>A.AS a b c w λa b c w k=>e [a,b,c] w λvs w=>match vs with
  |[a,b,c]=>k a b c w
  |_=>A.no
 |[a,b,c,d]=>A.AT a b c d w λa b c d w k=>e [a,b,c,d] w λvs w=>match vs with
  |[a,b,c,d]=>k a b c d w
  |_=>A.no
 |[a,b,c,d,f]=>A.AU a b c d f w λa b c d f w k=>e [a,b,c,d,f] w λvs w=>match vs with
  |[a,b,c,d,f]=>k a b c d f w
  |_=>A.no
 |[a,b,c,d,f,g]=>A.AV a b c d f g w λa b c d f g w k=>e [a,b,c,d,f,g] w λvs w=>match vs with
  |[a,b,c,d,f,g]=>k a b c d f g w
  |_=>A.no
 |_=>A.no
def w3(K:Nat->x3->B):List Nat->List (Nat×(x3->B))
 |[]=>[]
 |i::r=>(i,λw=>K i w)::w3 K r
def jc(fr:Bool)(n:Nat):Code->Nat->Env->x3->(Exit->Env->x3->B)->B
 | .skip,_,e,w,K=>K .normal e w
 | .label _,_,e,w,K=>K .normal e w
 | .ret,_,e,w,K=>K .ret e w
 | .exit i,_,e,w,K=>K (.exit i) e w
 | .region _ ops C,_,e,w,K=>
  bif C then A.drew w λI=>po A fr n ops.toList (wT ops.toList []) (ops.toList.length) 0 sp [] e I (K .normal)
  else wZ A fr n ops.toList ops.toList e w (K .normal)
 | .seq x y,rd,e,w,K=>
  bif Nat.ble 2 (nt x)then
   Ii A (ot 1000 0 (Nat.land (jw x) (Nat.lor (gC y) rd))) (λvs I=>jc fr n y rd (w2 (ot 1000 0 (Nat.land (jw x) (Nat.lor (gC y) rd))) vs (uf (jw x) e)) I K)
    λaz=>jc fr n x (Nat.lor (gC y) rd) e w λex h I=>match ex with
     | .normal=>az (ue A h (ot 1000 0 (Nat.land (jw x) (Nat.lor (gC y) rd)))) I
     |ex=>K ex h I
  else jc fr n x (Nat.lor (gC y) rd) e w λex h I=>match ex with
   | .normal=>jc fr n y rd h I K
   |ex=>K ex h I
 | .cond c x y,rd,e,w,K=>
  match pm A e c with
  | .b rs=>jc fr n x rd e w K
  | .b sp=>jc fr n y rd e w K
  | .v v=>A.split v (jc fr n x rd e w K) (jc fr n y rd e w K)
  | .u=>A.no
 | .block id c,rd,e,w,K=>jc fr n c rd e w λex h I=>match ex with
  | .exit i=>bif S4 i id then K .normal h I else K (.exit i) h I
  |ex=>K ex h I
 | .loop c,rd,e,w,K=>
  Ij A (ue A e (r2 e (ot 1000 0 (Nat.land (jw c) (Nat.lor (gC c) rd))))) w λus I k=>
   jc fr n c (Nat.lor (gC c) rd) (w2 (r2 e (ot 1000 0 (Nat.land (jw c) (Nat.lor (gC c) rd)))) us (uf (jw c) e)) I λex h j=>match ex with
    | .normal=>k (ue A h (r2 e (ot 1000 0 (Nat.land (jw c) (Nat.lor (gC c) rd))))) j
    |ex=>K ex h j
 | .scope c,rd,e,w,K=>jc fr n c rd e w K
 | .rangeFunc f E z body,_,e,w,K=>
  match E.toList with
  |[p]=>A.AW (c6 A e f) w
    (λa I k=>jc fr n z (gC body) ((p,.v a)::e) I λex h j=>match ex with
     | .normal=>A.over (n:=w.heap.size) j λr=>jc fr n body 0 h r λex _ s=>k ex s
     |_=>A.no)
    (λI=>K .normal e I) (bif km body then λI=>K .ret e I else λ_=>A.no) (w3 (λi I=>K (.exit i) e I) (k3 body))
  |[p,q]=>A.AX (c6 A e f) w
    (λa b I k=>jc fr n z (gC body) ((q,.v b)::(p,.v a)::e) I λex h j=>match ex with
     | .normal=>A.over (n:=w.heap.size) j λr=>jc fr n body 0 h r λex _ s=>k ex s
     |_=>A.no)
    (λI=>K .normal e I) (bif km body then λI=>K .ret e I else λ_=>A.no) (w3 (λi I=>K (.exit i) e I) (k3 body))
  |_=>A.no
 | .goto _,_,_,_,_=>A.no
 | .refuse _,_,_,_,_=>A.no
def Bf:Nat->List x1->Env
 |_,[]=>[]
 |i,v::r=>(i,.v (A.mu (x:=v)))::Bf (i+1) r
def ug(e:Env)(w:x3):List ResultVar->(List x1->B)->B
 |[],K=>K []
 | .tmp t::r,K=>ug e w r λvs=>K ((match look e t with|some x=>x.g A|none=>A.mu (x:=undef))::vs)
 | .cell a t::r,K=>A.wV (A.loadVar (t:=t) (match look e a with|some x=>x.g A|none=>A.mu (x:=undef))) w λv=>ug e w r λvs=>K (v::vs)
def uh(vs:List x1)(K:x1->B):B:=
 match vs with
 |[v]=>K v
 |vs=>K (A.tup vs)
def w4:List ResultVar->Nat->Nat
 |[],s=>s
 | .tmp t::r,s=>w4 r (lK s t)
 | .cell a _::r,s=>w4 r (lK s a)
def Ik(a:List ResultVar)(marks:Bool)(n:Nat)(Q:x1->x3->B):Exit->Env->x3->B
 | .normal,e,w=>ug A e w a λvs=>bif marks then A.again (n:=n) w λI=>uh A vs λv=>Q v I else uh A vs λv=>Q v w
 | .ret,e,w=>ug A e w a λvs=>bif marks then A.again (n:=n) w λI=>uh A vs λv=>Q v I else uh A vs λv=>Q v w
 |_,_,_=>A.no
def w5(fr marks:Bool)(fn:Func)(c:Code)(args:List x1)(w:x3)(Q:x1->x3->B):B:=
 jc A fr n c (w4 fn.results.toList 0) (Bf A 0 args) w (Ik A fn.results.toList marks n Q)
end
def qH(P:X2):ou Prop (Sem x1) (Sem Unit) where
 mu {x}:=x
 tup l:=.tuple l.toArray
 no:=False
 mv:=True
 and:=And
 or:=Or
 W:=Ext
 stays:=cC P
 split:=Split
 wV:=ab P
 AH:=aD P
 AI u w K:=aD P u w λ_ I=>K I
 runN {fr n}:=tG P (fr,n)
 AJ {f}:=ak P f
 AK {f}:=gT P f
 AL {fr}:=tJ P fr
 drew:=eu
 again {n}:=wM n
 over {n}:=Over n
 dh:=ct
 aV:=ct
 jb:=ct
 AM:=ct
 AN:=ct
 AO:=ct
 AP:=HW
 AQ:=ce
 AR:=bT
 AS:=mn
 AT:=tR
 AU:=qB
 AV:=HX
 AW:=mo P
 AX:=mp P
 loadVar {t} x:=do loadVar t (<-asAddr x)
 alloc {t}:=S5 t rs (.tuple #[])
 box {t} x:=Instr.box t x
 build {t} l:=Instr.build t l.toArray
 buildSlice {t n} l:=Z3 t n l.toArray
 load {t} x:=u4 t x
 nil x:=bR x
 bin {op t} a b x y:=aQ op t a b x y
 un {op} x:=Op.unary op x
 conv {s d} x:=convert s d x
 AY {t} x:=Instr.makeInterface t x
 AZ {f} a b:=Instr.makeFunc f a.toArray b.toArray
 A0 {t} x:=Instr.makeMap t x
 A1 {t} l c:=Instr.makeSlice t l c
 slice {t} x l h m:=V6 t x l h m
 A2 {t} x {f}:=u6 t x f
 field {t} x {f}:=Instr.field t x f
 A3 {t} x i:=j0 t x i
 index {t} x i:=Instr.index t x i
 lookup {t} x i {ok}:=Instr.lookup t x i ok
 A4 {t} m k:=Instr.mapEntry t m k
 range {t} x:=Instr.range t x
 entry x:=Instr.entry x
 assert {t a} x {ok}:=Instr.typeAssert x t a ok
 extract x {i}:=c7 x i
 next x {b}:=Instr.next x b 0
 append {ats t} l:=j4 ats t l.toArray
 cap {ats t} l:=j5.cap_ ats t l.toArray
 clear {ats t} l:=j5.clear_ ats t l.toArray
 copy {ats t} l:=j5.copy_ ats t l.toArray
 delete {ats t} l:=j5.delete_ ats t l.toArray
 len {ats t} l:=X7 ats t l.toArray
 max {ats t} l:=j5.max_ ats t l.toArray
 min {ats t} l:=j5.min_ ats t l.toArray
 store {t} a x:=o6 t a x
 wW {t} m k x:=Instr.mapUpdate t m k x
 A5 {t} m k x:=Instr.entryStore t m k x
end Go.Vc
namespace Go.Proofs.YtkcigodpbndobaaGreatDoor
open Go Go.Vc Go.RowKit Go.Proofs Go.Proofs.Tryz
set_option maxRecDepth 100000
theorem mixed:x7.follows .mixedOrders=rs:=Ψ
def Bg:Nat:=5
def Bh:Nat:=8
def Bi:Nat:=10
def Il:Nat:=11
def Im:Nat:=12
def Io:Nat:=13
def Bj:Nat:=14
def Ip:Nat:=15
def Iq:Nat:=17
def Bk:Nat:=21
def Ir:Nat:=22
def Is:Nat:=23
def Bl:Nat:=24
def Bm:Nat:=25
def It:Nat:=26
def Iu:Nat:=27
def Iv:Nat:=28
def Iw:Nat:=29
def Bn:Nat:=30
def Ix:Nat:=31
def Iy:Nat:=32
def Bo:Nat:=33
def Iz:Nat:=34
def IA:Nat:=35
def IB:Nat:=36
def IC:Nat:=40
def ID:Nat:=41
def Bp:Nat:=43
def IE:Nat:=45
def IF:Nat:=46
def Bq:Nat:=47
def Br:Nat:=48
def r3:Nat:=49
def pp:Nat:=50
def mw:Nat:=51
def Bs:Nat:=52
def w6:Nat:=53
def pq:Nat:=54
def Bt:Nat:=55
def w7:Nat:=56
def IG:Nat:=57
def IH:Nat:=58
def ui:Nat:=59
def nv:Nat:=60
def Bu:Nat:=61
def pr:Nat:=62
def II:Nat:=63
def IJ:Nat:=64
def IK:Nat:=65
def IL:Nat:=66
def Bv:Nat:=67
def IM:Nat:=68
def IN:Nat:=69
def IP:Nat:=70
def Bw:Nat:=71
def Bx:Nat:=72
def IQ:Nat:=73
def IR:Nat:=74
def IS:Nat:=75
def IT:Nat:=76
def IU:Nat:=77
def By:Nat:=78
def IV:Nat:=79
def IW:Nat:=80
def IX:Nat:=81
def IY:Nat:=83
def IZ:Nat:=84
def I0:Nat:=85
def I1:Nat:=86
def I2:Nat:=87
def w8:Nat:=88
def I3:Nat:=89
def I4:Nat:=90
def w9:Nat:=91
def I5:Nat:=92
def Bz:Nat:=93
def I6:Nat:=94
def I7:Nat:=95
def I8:Nat:=96
def I9:Nat:=97
def Ja:Nat:=98
def Jb:Nat:=99
def Jc:Nat:=100
def Jd:Nat:=101
def Je:Nat:=102
def Jf:Nat:=103
def Jg:Nat:=104
def Jh:Nat:=105
def Ji:Nat:=106
def Jj:Nat:=107
def Jk:Nat:=108
def xa:Nat:=109
def BA:Nat:=110
def Jl:Nat:=114
def Jm:Nat:=115
def Jn:Nat:=116
def Jo:Nat:=117
def Jp:Nat:=118
def BB:Nat:=119
def Jq:Nat:=120
def Jr:Nat:=121
def Js:Nat:=122
def Jt:Nat:=123
def Ju:Nat:=124
def qI:Nat:=125
def Jv:Nat:=126
def Jw:Nat:=127
def uj:Nat:=128
def Jx:Nat:=129
def Jy:Nat:=130
def BC:Nat:=131
def BD:Nat:=132
def Jz:Nat:=133
def r4:Nat:=134
def JA:Nat:=135
def xb:Nat:=136
def JB:Nat:=137
def JC:Nat:=138
def BE:Nat:=139
def JD:Nat:=140
def JE:Nat:=141
def JF:Nat:=142
def JG:Nat:=143
def xc:Nat:=144
def JH:Nat:=145
def JI:Nat:=146
def BF:Nat:=147
def JJ:Nat:=148
def JK:Nat:=149
def JL:Nat:=150
def JM:Nat:=151
def JN:Nat:=152
def JO:Nat:=153
def BG:Nat:=154
def JP:Nat:=155
def JQ:Nat:=156
def JR:Nat:=157
def JS:Nat:=158
def JT:Nat:=159
def JU:Nat:=160
def uk:Nat:=162
def ul:Nat:=163
def JV:Nat:=164
def JW:Nat:=165
def JX:Nat:=166
def UZ:Nat:=167
def xd:Nat:=168
def JY:Nat:=169
def JZ:Nat:=170
def J0:Nat:=171
def J1:Nat:=172
def J2:Nat:=173
def J3:Nat:=174
def um:Nat:=175
def BH:Nat:=176
def J4:Nat:=177
def U0:Nat:=178
def BI:Nat:=179
def BJ:Nat:=180
def J5:Nat:=181
def J6:Nat:=182
def J7:Nat:=183
def xe:Nat:=184
def J8:Nat:=185
def BK:Nat:=186
def BL:Nat:=187
def J9:Nat:=188
def Ka:Nat:=189
def BM:Nat:=190
def Kb:Nat:=191
def Kc:Nat:=192
def Kd:Nat:=193
def Ke:Nat:=194
def Kf:Nat:=195
def k4:Nat:=196
def Kg:Nat:=197
def Kh:Nat:=198
def kp:Nat:=199
def Ki:Nat:=200
def Kj:Nat:=201
def Kk:Nat:=202
def Kl:Nat:=203
def Km:Nat:=206
def xf:Nat:=207
def uo:Nat:=208
def Kn:Nat:=209
def xg:Nat:=210
def Ko:Nat:=211
def Kp:Nat:=212
def Kq:Nat:=213
def xh:Nat:=214
def Kr:Nat:=215
def Ks:Nat:=216
def BN:Nat:=217
def BO:Nat:=218
def Kt:Nat:=219
def Ku:Nat:=220
def Kv:Nat:=221
def Kw:Nat:=222
def Kx:Nat:=223
def Va:Nat:=224
def Ky:Nat:=226
def cmp_isNaN_int:Nat:=227
def xi:Nat:=228
def uq:Nat:=229
def Kz:Nat:=230
def BP:Nat:=231
def KA:Nat:=232
def KB:Nat:=233
def KC:Nat:=234
def KD:Nat:=235
def KE:Nat:=236
def KF:Nat:=237
def KG:Nat:=238
def xj:Nat:=239
def KH:Nat:=240
def KI:Nat:=241
def KJ:Nat:=242
def KK:Nat:=243
def KL:Nat:=244
def KM:Nat:=245
def KN:Nat:=246
def KO:Nat:=247
def ps:Nat:=248
def pt:Nat:=249
def KP:Nat:=250
def KQ:Nat:=251
def KR:Nat:=252
def KS:Nat:=253
def KT:Nat:=254
def Vb:Nat:=255
def KU:Nat:=256
def xk:Nat:=257
def Vd:Nat:=258
def KV:Nat:=259
def KW:Nat:=260
def Ve:Nat:=261
def BQ:Nat:=262
def KX:Nat:=263
def KY:Nat:=264
def KZ:Nat:=267
def Vf:Nat:=268
def K0:Nat:=269
def Vg:Nat:=270
def K1:Nat:=271
def qJ:Nat:=272
def K2:Nat:=273
def K3:Nat:=283
def K4:Nat:=284
def K5:Nat:=285
def K6:Nat:=286
def K7:Nat:=287
def nw:Nat:=288
def K8:Nat:=289
def K9:Nat:=290
def La:Nat:=291
def BR:Nat:=292
def Lb:Nat:=293
def Lc:Nat:=294
def Ld:Nat:=295
def Vh:Nat:=296
def Vi:Nat:=297
def Vj:Nat:=298
def Vk:Nat:=299
def Vl:Nat:=300
def cmp_Less_int:Nat:=301
def Vm:Nat:=302
def Vn:Nat:=303
def Vo:Nat:=305
def Le:Nat:=307
def Lf:Nat:=308
def Lg:Nat:=309
def Lh:Nat:=315
def Li:Nat:=316
def Lj:Nat:=318
def nx:Nat:=319
def pu:Nat:=320
def Lk:Nat:=325
def Ll:Nat:=326
def Lm:Nat:=327
def Vp:Nat:=328
def Vq:Nat:=339
def Ln:Nat:=340
abbrev Lo:Nat:=0
abbrev ao:Nat:=2
abbrev ae:Nat:=3
abbrev gD:Nat:=4
abbrev cP:Nat:=5
abbrev da:Nat:=9
abbrev cS:Nat:=23
abbrev ai:Nat:=27
abbrev dk:Nat:=28
abbrev xl:Nat:=30
abbrev k5:Nat:=31
abbrev xm:Nat:=34
abbrev ov:Nat:=37
abbrev dx:Nat:=40
abbrev eP:Nat:=42
abbrev c3:Nat:=43
abbrev dT:Nat:=45
abbrev pv:Nat:=54
abbrev kq:Nat:=55
abbrev fq:Nat:=56
abbrev aZ:Nat:=59
abbrev au:Nat:=65
abbrev iq:Nat:=71
abbrev qK:Nat:=73
abbrev b2:Nat:=76
abbrev BS:Nat:=84
abbrev ur:Nat:=98
abbrev fe:Nat:=101
abbrev iL:Nat:=102
abbrev cD:Nat:=104
abbrev kr:Nat:=109
abbrev jT:Nat:=110
abbrev cj:Nat:=112
abbrev dM:Nat:=118
abbrev cH:Nat:=120
abbrev e8:Nat:=121
abbrev cN:Nat:=123
abbrev fy:Nat:=125
abbrev dC:Nat:=129
abbrev bE:Nat:=131
abbrev ej:Nat:=133
abbrev cu:Nat:=135
abbrev ek:Nat:=139
abbrev bb:Nat:=141
abbrev my:Nat:=146
abbrev fX:Nat:=148
abbrev dp:Nat:=149
abbrev iM:Nat:=153
abbrev r5:Nat:=154
abbrev eQ:Nat:=156
abbrev bV:Nat:=158
abbrev a7:Nat:=166
abbrev ut:Nat:=168
abbrev fL:Nat:=169
abbrev b3:Nat:=171
abbrev bq:Nat:=177
abbrev db:Nat:=186
abbrev cT:Nat:=204
abbrev dF:Nat:=211
abbrev jd:Nat:=220
abbrev k6:Nat:=226
abbrev ev:Nat:=231
abbrev ck:Nat:=235
abbrev gE:Nat:=237
abbrev c4:Nat:=242
abbrev jU:Nat:=254
abbrev fM:Nat:=256
abbrev qL:Nat:=257
abbrev gF:Nat:=260
abbrev cp:Nat:=263
abbrev jx:Nat:=264
abbrev pw:Nat:=265
abbrev uu:Nat:=266
abbrev fz:Nat:=268
abbrev fN:Nat:=270
abbrev eH:Nat:=272
abbrev k7:Nat:=274
abbrev Vr:Nat:=292
abbrev ir:Nat:=310
abbrev fY:Nat:=312
abbrev cI:Nat:=314
abbrev ny:Nat:=329
abbrev mz:Nat:=333
abbrev k8:Nat:=335
abbrev Vs:Nat:=347
abbrev r6:Nat:=349
abbrev Vt:Nat:=365
abbrev qM:Nat:=373
abbrev nz:Nat:=374
abbrev xn:Nat:=394
abbrev ow:Nat:=406
abbrev xo:Nat:=420
theorem ay{f:S9}{fn:Func}{c:Code}{Q:x1->x3->Prop}{Z:{B S aX:Type}->ou B S aX->(x1->x3->B)->B}{a:Prop}(j:x7.funcs[f]?=σ fn)(h:a)(p:fn.body=σ c:=by rfl)(_:∀{B S aX:Type}(A:ou B S aX)(Q:x1->x3->B),w5 A sp sp (n:=w.heap.size) fn c args w Q=Z A Q:=by intros;conv=>lhs;reduce)(_:Z (qH x7) Q=a:=by dsimp only[qH])(e:a=eO x7 fn.ntmps (sp,w.heap.size) c (oq fn.results.toList) (mr 0 args) w (ns x7 fn.results.toList sp 0 Q):=by kernel_rfl)(hk:(!(fn.name == "runtime.NumGoroutine")&&wf fn.ntmps c&&Nat.ble args.length fn.ntmps&& !lI c)=rs:=by kernel_rfl):ak x7 f args w Q:=by
 simp only[V8,Bool.not_eq_true']at hk;exact ak.Ie mixed j p hk.1.1.1 hk.1.1.2 hk.1.2 hk.2 (e▸h)
theorem je{f:S9}{fn:Func}{c:Code}{Q:x1->x3->Prop}{Z:{B S aX:Type}->ou B S aX->(x1->x3->B)->B}{a:Prop}(j:x7.funcs[f]?=σ fn)(h:a)(p:fn.body=σ c:=by rfl)(_:∀{B S aX:Type}(A:ou B S aX)(Q:x1->x3->B),w5 A sp rs (n:=w.heap.size) fn c args w Q=Z A Q:=by intros;conv=>lhs;reduce)(_:Z (qH x7) Q=a:=by dsimp only[qH])(e:a=eO x7 fn.ntmps (sp,w.heap.size) c (oq fn.results.toList) (mr 0 args) w (ns x7 fn.results.toList rs w.heap.size Q):=by kernel_rfl)(hk:(!(fn.name == "runtime.NumGoroutine")&&wf fn.ntmps c&&Nat.ble args.length fn.ntmps)=rs:=by kernel_rfl):ak x7 f args w Q:=by
 simp only[V8,Bool.not_eq_true']at hk;exact ak.enter mixed j p hk.1.1 hk.1.2 hk.2 (e▸h)
theorem r7{f:S9}{fn:Func}{c:Code}{Q:x1->x3->Prop}{Z:{B S aX:Type}->ou B S aX->(x1->x3->B)->B}{a:Prop}(j:x7.funcs[f]?=σ fn)(h:a)(p:fn.body=σ c:=by rfl)(_:∀{B S aX:Type}(A:ou B S aX)(Q:x1->x3->B),w5 A rs sp (n:=0) fn c args w Q=Z A Q:=by intros;conv=>lhs;reduce)(_:Z (qH x7) Q=a:=by dsimp only[qH])(e:a=eO x7 fn.ntmps (rs,0) c (oq fn.results.toList) (mr 0 args) w (ns x7 fn.results.toList sp 0 Q):=by kernel_rfl)(hk:(!(fn.name == "runtime.NumGoroutine")&&wf fn.ntmps c&&Nat.ble args.length fn.ntmps)=rs:=by kernel_rfl):gT x7 f args w Q:=by
 simp only[V8,Bool.not_eq_true']at hk;exact gT.enter mixed j p hk.1.1 hk.1.2 hk.2 (e▸h)
theorem k4.enters:Enters x7 k4:=Enters.of x7 (show x7.funcs[k4]?=σ Tryz.f196 from Tryz.func196) rfl Ψ
theorem kp.enters:Enters x7 kp:=Enters.of x7 (show x7.funcs[kp]?=σ Tryz.f199 from Tryz.func199) rfl Ψ
theorem qJ.enters:Enters x7 qJ:=Enters.of x7 (show x7.funcs[qJ]?=σ Tryz.f272 from Tryz.func272) rfl Ψ
theorem nw.enters:Enters x7 nw:=Enters.of x7 (show x7.funcs[nw]?=σ Tryz.f288 from Tryz.func288) rfl Ψ
theorem nx.enters:Enters x7 nx:=Enters.of x7 (show x7.funcs[nx]?=σ Tryz.f319 from Tryz.func319) rfl Ψ
end Go.Proofs.YtkcigodpbndobaaGreatDoor
namespace Go.Vc
open Go Go.RowKit
theorem xp{b o:Nat}(h:w.cell? ⟨b,o,ν⟩=σ v):∃c e f,w.heap[b]?=σ (.cells c e f)/\c[o]?=σ v:=by
 simp only[x3.cell?]at h;split at h
 .rename_i c e f a;exact⟨c,e,f,a,by simpa using h⟩
 .cases h
theorem BT(a:af S w I){b o:Nat}(j:¬S b)(h:w.cell? ⟨b,o,ν⟩=σ v):I.cell? ⟨b,o,ν⟩=σ v:=by
 obtain⟨c,e,f,p,q⟩:=xp h;simp[x3.cell?,a.a8 b _ p rfl j,q]
theorem jV(a:Ext w I){b o:Nat}(h:w.cell? ⟨b,o,ν⟩=σ v):I.cell? ⟨b,o,ν⟩=σ v:=
 BT (a.aa λ_=>False) (λh=>h) h
theorem px(a:Ext w I){b o:Nat}(h:w.rangeAt b o cs):I.rangeAt b o cs:=λj v e=>jV a (h j v e)
theorem gW(a:af S w I){b o:Nat}(e:¬S b)(h:w.rangeAt b o cs):I.rangeAt b o cs:=λj v f=>BT a e (h j v f)
def ag(w:x3)(g:Nat)(e:r8)(cs:List x1):Prop:=w.heap[g]?=σ (.cells cs.toArray e (0,0))
theorem ag.W{g:Nat}(h:ag w g e cs)(a:Ext w I):ag I g e cs:=a.a8 g _ h rfl
theorem ag.aa{g:Nat}(h:ag w g e cs)(a:af S w I)(f:¬S g):ag I g e cs:=a.a8 g _ h rfl f
theorem ag.lt{g:Nat}(h:ag w g e cs):g<w.heap.size:=(Z9.1 h).1
theorem ag.cell{g:Nat}(h:ag w g e cs){o:Nat}(a:cs[o]?=σ v):w.cell? ⟨g,o,ν⟩=σ v:=by
 unfold ag at h;simp[x3.cell?,h,a]
theorem ag.Qz{w:World}{g:Nat}{e:TypeId}{cs:List Value}{v:Value}(h:ag w g e cs)(I:cs[0]?=σ v):w.cell? ⟨g,0,ν⟩=σ v:=h.cell I
theorem ag.range{g:Nat}(h:ag w g e cs):w.rangeAt g 0 cs:=λj v a=>by rw[V0];exact h.cell a
theorem ag.frozen{g:Nat}(h:ag w g e cs)(o:Nat)(a:Option Nat):w.frozen? ⟨g,o,a⟩=sp:=by
 unfold ag at h;simp[x3.frozen?,h]
def b5(w:x3)(k:Nat)(v:x1)(n:Nat)(cs:List x1):Prop:=
 cs.length=n*k/\∃b o base cap,v= .slice base n cap/\n<=cap/\cap<=maxLen/\(0<n->base=σ ⟨b,o,ν⟩)/\w.rangeAt b o cs
theorem b5.W{k:Nat}(h:b5 w k v n cs)(a:Ext w I):b5 I k v n cs:=by
 obtain⟨h1,b,o,base,cap,e,f,j,p,q⟩:=h;exact⟨h1,b,o,base,cap,e,f,j,p,px a q⟩
theorem b5.le{k:Nat}(h:b5 w k v n cs):n<=maxLen:=by
 obtain⟨_,_,_,_,_,_,a,e,_⟩:=h;exact Y1 a e
theorem b5.nil(w:x3)(k:Nat):b5 w k (.slice ν 0 0) 0 []:=⟨Ξ,0,0,ν,0,rfl,o5 _,X8 _,λh=>m7 h (Nat.lt_irrefl _),λj v h=>by simp at h⟩
def aR(P:X2)(t:r8)(k b:Nat)(z:x1):Prop:=∃i,P.info? t=σ i/\i.size=k/\i.bytes=b/\i.zero=σ z
theorem aR.of{P:X2}{k b:Nat}(h:(P.info? t).map (λi=>(i.size,i.bytes,i.zero))=σ (k,b,σ z)):aR P t k b z:=by
 cases hi:P.info? t with
 |none=>simp[hi]at h
 |some i=>simp[hi]at h;exact⟨i,hi,h⟩
theorem aR.size{P:X2}{k b:Nat}(h:aR P t k b z):(P.info? t).map (·.size)=σ k:=by
 obtain⟨i,hi,U,_⟩:=h;simp[hi,U]
def bL(P:X2)(t:r8)(e:List (Nat×Nat)):Prop:=∃a,P.underlying t=σ (.struct a)/\a.toList.map (λf=>(f.offset,((P.info? f.type).map (·.size)).getD 0))=e
def BU(P:X2)(t:r8):Option (List (Nat×Nat)):=match P.underlying t with
 |some (.struct a)=>σ (a.toList.map λf=>(f.offset,((P.info? f.type).map (·.size)).getD 0))
 |_=>ν
theorem bL.of{P:X2}{a:List (Nat×Nat)}(h:BU P t=σ a):bL P t a:=by
 unfold BU at h;split at h
 .rename_i e f;exact⟨e,f,by simpa using h⟩
 .cases h
section
variable{P:X2}{w:x3}
theorem ab.of{s:Sem x1}(h:∀I,Ext w I->s.run P I= .ok v I):ab P s w K=K v:=by
 refine propext ⟨λ⟨a,bf,k⟩=>?_,λk=>⟨v,h,k⟩⟩;have:=bf w (Ext.refl w);rw[h w (Ext.refl w)]at this;cases this;exact k
theorem aD.of{α:Type}{s:Sem α}{v:α}{K:α->x3->Prop}(h:s.run P w= .ok v I)(a:cA w I)(k:K v I):aD P s w K:=⟨v,I,h,a,k⟩
theorem bM{c:Bool}{A B:Prop}:Split (.bool c) A B=((c=rs->A)/\(c=sp->B)):=by
 refine propext ⟨λ⟨e,h,h1,a⟩=>?_,λ⟨h1,a⟩=>⟨c,rfl,h1,a⟩⟩;cases h;exact⟨h1,a⟩
theorem aj{p:Prop}[Decidable p]{A B:Prop}:Split (.bool (decide p)) A B=((p->A)/\(¬p->B)):=by rw[bM];simp
theorem bZ{A B:Prop}:Split (.bool rs) A B=A:=by rw[bM];simp
theorem aW{A B:Prop}:Split (.bool sp) A B=B:=by rw[bM];simp
theorem aL{b:Int}:ab P (aQ .add t cx cy (.int k a) (.int k b)) w K=K (.int k (k.wrap (a+b))):=
 ab.of λI _=>by simp[aQ,eqGuard,binOp,Op.intArith]
theorem dN{b:Int}:ab P (aQ .sub t cx cy (.int k a) (.int k b)) w K=K (.int k (k.wrap (a-b))):=
 ab.of λI _=>by simp[aQ,eqGuard,binOp,Op.intArith]
theorem fO{b:Int}:ab P (aQ .mul t cx cy (.int k a) (.int k b)) w K=K (.int k (k.wrap (a*b))):=
 ab.of λI _=>by simp[aQ,eqGuard,binOp,Op.intArith]
theorem sa{b:Int}(e:b≠0):ab P (aQ .quo t cx cy (.int k a) (.int k b)) w K=K (.int k (k.wrap (a.tdiv b))):=
 ab.of λI _=>by simp[aQ,eqGuard,binOp,Op.intDiv,e]
theorem sb{b:Int}(e:b≠0):ab P (aQ .rem t cx cy (.int k a) (.int k b)) w K=K (.int k (a.tmod b)):=
 ab.of λI _=>by simp[aQ,eqGuard,binOp,Op.intDiv,e]
theorem aP{b:Int}:ab P (aQ .lss t cx cy (.int k a) (.int k b)) w K=K (.bool (decide (a<b))):=
 ab.of λI _=>by simp[aQ,eqGuard,binOp,Op.intCmp]
theorem Υ{k:IntKind}{P:Program}{t:TypeId}{cx cy:Bool}{a b:Int}{w:World}{A B:Prop}(hA:a<b->A)(h:a<b:=by omega):ab P (aQ .lss t cx cy (.int k a) (.int k b)) w λv=>Split v A B:=by
 rw[aP,aj];exact⟨hA,λe=>m7 h e⟩
theorem nA{b:Int}:ab P (aQ .leq t cx cy (.int k a) (.int k b)) w K=K (.bool (decide (a<=b))):=
 ab.of λI _=>by simp[aQ,eqGuard,binOp,Op.intCmp]
theorem bG{b:Int}:ab P (aQ .gtr t cx cy (.int k a) (.int k b)) w K=K (.bool (decide (b<a))):=
 ab.of λI _=>by simp[aQ,eqGuard,binOp,Op.intCmp]
theorem cJ{b:Int}:ab P (aQ .geq t cx cy (.int k a) (.int k b)) w K=K (.bool (decide (b<=a))):=
 ab.of λI _=>by simp[aQ,eqGuard,binOp,Op.intCmp]
theorem bi{b:Int}:ab P (aQ .eql t cx cy (.int k a) (.int k b)) w K=K (.bool (decide (a=b))):=
 ab.of λI _=>by
  have:(a == b)=decide (a=b):=by by_cases h:a=b<;>simp[h]
  simp[aQ,eqGuard,binOp,Op.intCmp,this]
theorem bz{b:Int}:ab P (aQ .neq t cx cy (.int k a) (.int k b)) w K=K (.bool (decide (a≠b))):=
 ab.of λI _=>by
  have:(a != b)=decide (a≠b):=by by_cases h:a=b<;>simp[h,bne]
  simp[aQ,eqGuard,binOp,Op.intCmp,this]
theorem BV{e:o4}{b:Int}(f:0<=b):ab P (aQ .shl t cx cy (.int k a) (.int e b)) w K=K (.int k (k.wrap (a*2 ^ min b.toNat k.bits))):=
 ab.of λI _=>by simp[aQ,eqGuard,binOp,Op.shift,show¬b<0 by omega]
theorem bA{c:Bool}:ab P (Op.unary .not (.bool c)) w K=K (.bool !c):=ab.of λI _=>by simp[Op.unary]
theorem nB:ab P (Op.unary .neg (.int k a)) w K=K (.int k (k.wrap (0-a))):=ab.of λI _=>by simp[Op.unary,Op.intArith]
theorem e9{s d:r8}{e:o4}(U:P.underlying s=σ (.int e))(f:P.underlying d=σ (.int k)):
  ab P (convert s d (.int e a)) w K=K (.int k (k.wrap a)):=ab.of λI _=>by simp[convert,run_underlying U,run_underlying f,Conv.intToInt]
theorem BW{x y:x1}{r:Bool}(a:∀I,(eqGuard .eql t (aY cx) (aY cy) x y).run P I= .ok () I)(e:binOp .eql t x y=(do pure (.bool (<-Op.equal t x y))))(h:∀I,Ext w I->(Op.equal t x y).run P I= .ok r I):ab P (aQ .eql t cx cy x y) w K=K (.bool r):=ab.of λI f=>by
 unfold aQ;rw[e,X4,a I,Result.andThen_ok,X4,h I f];rfl
theorem Lp{x y:x1}{r:Bool}(a:∀I,(eqGuard .neq t (aY cx) (aY cy) x y).run P I= .ok () I)(e:binOp .neq t x y=(do pure (.bool (!(<-Op.equal t x y)))))(h:∀I,Ext w I->(Op.equal t x y).run P I= .ok r I):ab P (aQ .neq t cx cy x y) w K=K (.bool !r):=ab.of λI f=>by
 unfold aQ;rw[e,X4,a I,Result.andThen_ok,X4,h I f];rfl
theorem BX(w:x3)(d:Nat){p:Option S6}(h:P.underlying t=σ (.pointer e)):(Op.equalIn (d+1) t (.pointer p) (.pointer ν)).run P w= .ok p.isNone w:=by
 cases p<;>simp[Op.equalIn,run_underlying h]
theorem uv{base:Option S6}(a:P.underlying t=σ (.slice e)):
  ab P (aQ .eql t cx cy (.slice base n c) (.slice ν 0 0)) w K=K (.bool base.isNone):=BW (λ_=>rfl) rfl λI _=>run_equal_slice_nil I t e base n c a
theorem cV{p:Option S6}(a:P.underlying t=σ (.pointer e)):
  ab P (aQ .eql t cx cy (.pointer p) (.pointer ν)) w K=K (.bool p.isNone):=BW (λ_=>rfl) rfl λI _=>BX I 9999 a
theorem BY{p:Option S6}(a:P.underlying t=σ (.pointer e)):
  ab P (aQ .neq t cx cy (.pointer p) (.pointer ν)) w K=K (.bool !p.isNone):=Lp (λ_=>rfl) rfl λI _=>BX I 9999 a
theorem iu{a:r8}{base:Option S6}(f:P.underlying t=σ (.slice e)):
  ab P (X7 #[t] a #[.slice base n c]) w K=K (Δ n):=ab.of λI _=>by simp[X7,run_underlying f,goInt]
theorem nC{e:Array r8}{f:r8}{b:Int}:
  ab P (j5.min_ e f #[.int k a,.int k b]) w K=K (.int k (min a b)):=ab.of λI _=>by
 simp only[j5.min_,List.foldlM,j5.min2];simp only[X4,W9,Result.andThen_ok,Int.min_def];congr 2;split<;>split<;>omega
theorem xq{e:Array r8}{f:r8}{b:Int}:
  ab P (j5.max_ e f #[.int k a,.int k b]) w K=K (.int k (max a b)):=ab.of λI _=>by
 simp only[j5.max_,List.foldlM,j5.max2];simp only[X4,W9,Result.andThen_ok,Int.max_def];congr 2;split<;>split<;>omega
theorem jW{vs:Array x1}{i:Nat}(h:vs[i]?=σ v):ab P (c7 (.tuple vs) i) w K=K v:=ab.of λI _=>by simp[c7,h]
theorem jX{f:Fn}{a b:Array x1}:ab P (Instr.makeFunc f a b) w K=K (.func f a b):=ab.of λ_ _=>rfl
def k9(P:X2)(t:r8):Bool:=match P.underlying t with
 |some (.struct _)|some (.array _ _)|none=>sp
 |_=>rs
theorem av{b o:Nat}(a:k9 P t=rs)(h:w.cell? ⟨b,o,ν⟩=σ v):
  ab P (u4 t (.pointer (σ ⟨b,o,ν⟩))) w K=K v:=ab.of λI f=>by
 have bf:=jV f h;unfold k9 at a;cases e:P.underlying t with
 |none=>rw[e]at a;cases a
 |some d=>
  rw[e]at a;cases d<;>first|(cases a;done)|simp[u4,Instr.sureAddr,loadVar,isAgg,run_underlying e,bf]
theorem BZ{d:TypeDesc}{b o k a:Nat}(e:P.underlying t=σ d)(f:d.isRow=rs)(hi:aR P t k a z)(j:cs.length=k)(h:w.rangeAt b o cs):ab P (u4 t (.pointer (σ ⟨b,o,ν⟩))) w K=K (.agg cs.toArray):=ab.of λI p=>
 run_loadAt_mid I b o t cs d (px p h) e f (by rw[hi.size,j])
theorem bC{e:List (Nat×Nat)}{b o k f:Nat}(a:bL P t e)(hi:aR P t k f z)(j:cs.length=k)(h:w.rangeAt b o cs):ab P (u4 t (.pointer (σ ⟨b,o,ν⟩))) w K=K (.agg cs.toArray):=by
 obtain⟨p,a,_⟩:=a;exact BZ a rfl hi j h
theorem aT{p:List (Nat×Nat)}{i b o z:Nat}(r:bL P t p)(a:p[i]?=σ (off,z+1)):
  ab P (u6 t (.pointer (σ ⟨b,o,ν⟩)) i) w K=K (.pointer (σ ⟨b,o+off,ν⟩)):=ab.of λI _=>by
 obtain⟨s,x,rfl⟩:=r;rw[x8]at a;cases e:s[i]? with
 |none=>rw[Array.getElem?_toList,e]at a;cases a
 |some f=>
  rw[Array.getElem?_toList,e]at a;simp only[Z0,X6,Prod.mk.injEq]at a;obtain⟨rfl,q⟩:=a;cases h:P.info? f.type with
  |none=>simp[h]at q
  |some j=>
   have U:j.size=z+1:=by simpa[h]using q
   simp[u6,run_underlying x,e,Instr.sureAddr,fieldPlace,sizeOf,typeInfo,h,U,W0]
theorem B1{i:Int}{b o z f:Nat}{h:x1}{base:Option S6}(p:P.underlying t=σ (.slice e))(q:aR P e z f h)(r:0<=i)(hi:i<n)(a:0<n->base=σ ⟨b,o,ν⟩):
  ab P (j0 t (.slice base n c) (.int k i)) w K=K (.pointer (σ ⟨b,o+i.toNat*z,ν⟩)):=ab.of λI _=>by
 have a:=a Ω;subst a;obtain⟨j,s,U,_⟩:=q;simp[j0,asIntOf,run_underlying p,r,hi,sizeOf,typeInfo,s,U,W0]
theorem fs{i:Nat}{b o z a:Nat}{f:x1}{base:Option S6}(h:P.underlying t=σ (.slice e))(j:aR P e z a f)(hi:i<n)(p:0<n->base=σ ⟨b,o,ν⟩):
  ab P (j0 t (.slice base n c) (.int k (i:Int))) w K=K (.pointer (σ ⟨b,o+i*z,ν⟩)):=by
 rw[B1 h j Ω Ω p];rfl
theorem Lq{i:Int}{b o z a:Nat}{f:x1}(h:P.underlying t=σ (.array n e))(p:aR P e z a f)(q:0<=i)(hi:i<n):
  ab P (j0 t (.pointer (σ ⟨b,o,ν⟩)) (.int k i)) w K=K (.pointer (σ ⟨b,o+i.toNat*z,ν⟩)):=ab.of λI _=>by
 obtain⟨j,r,U,_⟩:=p;simp[j0,asIntOf,run_underlying h,Instr.sureAddr,q,hi,sizeOf,typeInfo,r,U,W0]
theorem xr{i:Nat}{b o z a:Nat}{f:x1}(h:P.underlying t=σ (.array n e))(j:aR P e z a f)(hi:i<n):
  ab P (j0 t (.pointer (σ ⟨b,o,ν⟩)) (.int k (i:Int))) w K=K (.pointer (σ ⟨b,o+i*z,ν⟩)):=by
 rw[Lq h j Ω Ω];rfl
def nD:Option x1->Nat->Prop
 |none,l=>l=0
 |some v,l=>∃k,v= .int k l
def nE:Option x1->Nat->Nat->Prop
 |none,n,h=>h=n
 |some v,_,h=>∃k,v= .int k h
def maxOf:Option x1->Option x1->Nat->Nat->Prop
 |none,_,c,m=>m=c
 |some v,σ _,_,m=>∃k,v= .int k m
 |some _,ν,_,_=>False
theorem lL{l:Nat}:nD (σ (.int k (l:Int))) l:=⟨_,rfl⟩
theorem mA(l:Nat)(x:Int)(h:x=(l:Int)):nD (σ (.int k x)) l:=⟨k,by rw[h]⟩
theorem nF(l:Nat)(x:Int)(h:x=(l:Int)):nE (σ (.int k x)) n l:=⟨k,by rw[h]⟩
theorem iN:nD ν 0:=rfl
theorem mB:nE (σ (.int k (h:Int))) n h:=⟨_,rfl⟩
theorem gX:nE ν n n:=rfl
theorem B2{m:Nat}:maxOf (σ (.int k (m:Int))) (σ v) c m:=⟨_,rfl⟩
theorem dU{h:Option x1}:maxOf ν h c c:=by cases h<;>rfl
theorem uw(w:x3){sl:Bool}{l m:Nat}{low high mx:Option x1}(h1:nD low l)(e:nE high n h)(a:maxOf mx high c m)(f:l<=h)(ap:h<=m)(hm:m<=c):
  (Instr.sliceBounds sl n c low high mx).run P w= .ok (l,h,m) w:=by
 cases low<;>cases high<;>cases mx<;>simp only[nD,nE,maxOf]at h1 e a<;>(try exact a.elim)<;>(try obtain⟨j,rfl⟩:=h1)<;>(try obtain⟨p,rfl⟩:=e)<;>(try obtain⟨q,rfl⟩:=a)<;>(try subst h1)<;>(try subst e)<;>(try subst a) <;>
  simp[Instr.sliceBounds,Instr.sliceBound,asIntOf,f,ap,hm]
theorem eB{z a l m:Nat}{f:x1}{base:Option S6}{low high mx:Option x1}(p:P.underlying t=σ (.slice e))(q:aR P e z a f)(h1:nD low l)(r:nE high n h)(s:maxOf mx high c m)(x:l<=h)(ap:h<=m)(hm:m<=c):
  ab P (V6 t (.slice base n c) low high mx) w K=K (.slice (if m=l then base else base.map (·.add (l*z))) (h-l) (m-l)):=ab.of λI _=>by
 obtain⟨j,y,U,_⟩:=q;simp[V6,Instr.slice,run_underlying p,uw I h1 r s x ap hm,sizeOf,typeInfo,y,U]
theorem ux{z a l m b o:Nat}{f:x1}{low high mx:Option x1}(p:P.underlying t=σ (.array n e))(q:aR P e z a f)(h1:nD low l)(r:nE high n h)(s:maxOf mx high n m)(x:l<=h)(ap:h<=m)(hm:m<=n):
  ab P (V6 t (.pointer (σ ⟨b,o,ν⟩)) low high mx) w K=K (.slice (σ (if m=l then⟨b,o,ν⟩else⟨b,o+l*z,ν⟩)) (h-l) (m-l)):=ab.of λI _=>by
 obtain⟨j,y,U,_⟩:=q;simp[V6,Instr.sureAddr,run_underlying p,uw I h1 r s x ap hm,sizeOf,typeInfo,y,U,W0]
theorem dq{parts:Array (Nat×x1)}{cs:Array x1}(h:P.built t parts.toList=σ cs):ab P (Instr.build t parts) w K=K (.agg cs):=ab.of λI _=>
 run_build I t parts cs h
end
theorem b5.part{k l m:Nat}{base:Option S6}(U:b5 w k (.slice base n c) n cs)(q:l<=h)(ap:h<=n)(hm:h<=m)(r:m<=c):
  b5 w k (.slice (if m=l then base else base.map (·.add (l*k))) (h-l) (m-l)) (h-l) ((cs.drop (l*k)).take ((h-l)*k)):=by
 obtain⟨h1,b,o,s,cap,he,x,y,e,f⟩:=U;cases he;have z:h*k<=n*k:=V7 _ ap;have A:l*k+(h-l)*k=h*k:=by rw[<-T7];congr 1;omega
 refine⟨by simp[h1];omega,b,o+l*k,_,m-l,rfl,Ω,Ω,λB=>?_,λj v a=>?_⟩
 .rw[e Ω,m6 Ω];simp[W0]
 .have p:=(x4.1 a).1;simp at p;rw[Y3 Ω,List.getElem?_drop]at a;rw[Nat.add_assoc];exact f _ _ a
section
variable{P:X2}{w:x3}
structure ks(g:Nat)(w I:x3):Prop where
 os:I.os=w.os
 tape:k0 w I
 output:I.output=w.output
 size:I.heap.size=w.heap.size
 a8:∀r,r≠g->I.heap[r]?=w.heap[r]?
theorem ks.refl(g:Nat)(w:x3):ks g w w:=⟨rfl,.lD,rfl,rfl,λ_ _=>rfl⟩
theorem ks.F{g:Nat}{a b c:x3}(h:ks g a b)(k:ks g b c):ks g a c:=
 ⟨k.os.F h.os,k.tape.F h.tape,k.output.F h.output,k.size.F h.size,λr e=>(k.a8 r e).F (h.a8 r e)⟩
theorem ks.aa{g:Nat}{w:x3}(h:ks g w I):af (λr=>r=g) w I:=⟨Nat.le_of_eq h.size.symm,λr o a _ e=>by rw[h.a8 r e];exact a⟩
theorem ks.cB{g:Nat}{w:x3}(h:ks g w I)(j:ag w g e cs):cA w I:=
 ⟨h.os,h.tape,h.output,Nat.le_of_eq h.size.symm,λr o a U=>by
  by_cases f:r=g
  .grind [ag,fI]
  .rw[h.a8 r f];exact a⟩
theorem B3{g:Nat}(h:ag w g e cs)(o:Nat)(v:x1):ag (w.setCell ⟨g,o,ν⟩ v) g e (cs.set o v)/\ks g w (w.setCell ⟨g,o,ν⟩ v):=by
 unfold ag at h;refine⟨?_,rfl,.lD,rfl,by simp[x3.setCell],λr a=>?_⟩
 all_goals grind [ag,x3.setCell]
def over(cs:List x1):Nat->List x1->List x1
 |_,[]=>cs
 |o,v::r=>over (cs.set o v) (o+1) r
theorem fZ:∀(vs cs:List x1)(o:Nat),(over cs o vs).length=cs.length
 |[],_,_=>rfl
 |v::r,cs,o=>by simp[over,fZ r]
theorem kt:∀(vs cs:List x1)(o:Nat),o+vs.length<=cs.length->∀j,(over cs o vs)[j]?=if o<=j/\j<o+vs.length then vs[j-o]? else cs[j]?
 :=by
 intro a;induction a<;>grind [over]
theorem nG{o:Nat}(h:o+vs.length<=cs.length):over cs o vs=cs.take o++vs++cs.drop (o+vs.length):=by
 apply j9;intro j;rw[kt vs cs o h];by_cases h1:j<o
 .grind
 grind
theorem nH{g:Nat}{e:r8}:∀(vs:List x1)(cs:List x1)(o:Nat)(w:x3),ag w g e cs->ag (w.setCells g o vs) g e (over cs o vs)/\ks g w (w.setCells g o vs)
 |[],cs,o,w,h=>⟨h,ks.refl _ _⟩
 |v::r,cs,o,w,h=>by
  obtain⟨h1,a⟩:=B3 h o v;obtain⟨f,j⟩:=nH r (cs.set o v) (o+1) _ h1;exact⟨f,a.F j⟩
theorem uy(w:x3)(c:List x1)(e:r8):ag (w.alloc (.cells c.toArray e)) w.heap.size e c/\Ext w (w.alloc (.cells c.toArray e))/\cA w (w.alloc (.cells c.toArray e)):=
 ⟨heap_alloc_new w _,qv w _,qw w _⟩
theorem bu{k a:Nat}{K:x1->x3->Prop}(hi:aR P t k a z)(h:∀g I,g=w.heap.size->Ext w I->ag I g t z.cells.toList->K (Γ g) I):aD P (S5 t rs (.tuple #[])) w K:=by
 obtain⟨i,hi,_,_,e⟩:=hi;obtain⟨h1,f,j⟩:=uy w z.cells.toList t;refine .of ?_ j (h _ _ rfl f h1);simp[S5,zeroValue,typeInfo,hi,e,newVar,newRow]
theorem bj{K:x1->x3->Prop}(h:∀g I,g=w.heap.size->Ext w I->ag I g t v.cells.toList->K (Γ g) I):aD P (Instr.box t v) w K:=by
 obtain⟨h1,a,e⟩:=uy w v.cells.toList t;refine .of ?_ e (h _ _ rfl a h1);simp[Instr.box,newVar,newRow]
def dV(z:Array x1)(n:Nat):List x1:=((Array.range n).map (z[·% z.size]!)).toList
theorem qN(z:Array x1)(n:Nat):(dV z n).length=n:=by simp[dV]
theorem lM{k q:Nat}{parts:Array (Nat×x1)}{cs:Array x1}{K:x1->x3->Prop}(p:P.underlying t=σ (.slice e))(hi:aR P e k q z)(A:n*k<=2 ^ 24)(a:Instr.fill (λj=>σ (j*k,k)) ((Array.range (n*k)).map ((if n*k=0 then#[]else z.cells)[·% (if n*k=0 then#[]else z.cells).size]!)) parts.toList=σ cs)(h:∀g I,g=w.heap.size->Ext w I->ag I g e cs.toList->K (.slice (σ ⟨g,0,ν⟩) n n) I):aD P (Z3 t n parts) w K:=by
 obtain⟨i,hi,rfl,_,r⟩:=hi;obtain⟨h1,s,x⟩:=uy w cs.toList e;refine .of ?_ x (h _ _ rfl s h1);have y:¬(16777216<n*i.size):=Ω
 by_cases f:n*i.size=0
 .simp only[f,if_true]at a;simp[Z3,run_underlying p,sizeOf,typeInfo,hi,f,newRow];simp at a;simp[a]
 .simp only[f,if_false]at a;simp[Z3,run_underlying p,sizeOf,typeInfo,hi,y,f,newRow,zeroValue,r,a]
theorem bw{g o:Nat}{K:Unit->x3->Prop}(hi:aR P t 1 j z)(h1:v.cells= #[v])(p:v.oneCell'=rs)(a:ag w g e cs)(q:o<cs.length)(h:∀I,af (λr=>r=g) w I->I.heap.size=w.heap.size->ag I g e (cs.set o v)->K () I):aD P (o6 t (.pointer (σ ⟨g,o,ν⟩)) v) w K:=by
 obtain⟨i,hi,U,_⟩:=hi;obtain⟨s,f⟩:=B3 a o v;refine .of ?_ (f.cB a) (h _ f.aa f.size s);have x:=a.cell (x6 q);have y:(⟨g,o,ν⟩:S6).add 0=⟨g,o,ν⟩:=rfl;simp[o6,Instr.sureAddr,storeVar,sizeOf,typeInfo,hi,U,h1,storeCells,y,run_store P w _ v _ p,x,a.frozen]
theorem B4{k p g o:Nat}{K:Unit->x3->Prop}(hi:aR P t k p z)(s:vs.length=k)(x:∀v∈vs,v.oneCell'=rs)(a:ag w g e cs)(y:o+vs.length<=cs.length)(h:∀I,af (λr=>r=g) w I->I.heap.size=w.heap.size->ag I g e (over cs o vs)->K () I):aD P (o6 t (.pointer (σ ⟨g,o,ν⟩)) (.agg vs.toArray)) w K:=by
 obtain⟨q,f⟩:=nH vs cs o w a;refine .of ?_ (f.cB a) (h _ f.aa f.size q);exact run_storeAt_mid w g o t vs.toArray (λj A=>⟨by rw[a.cell (x6 (by grind))];rfl,a.frozen _ _⟩) (by grind [aR.size]) (by grind)
def bW(w:x3)(g:Nat)(e:r8)(k:Nat)(v:x1)(n:Nat)(xs:List x1):Prop:=
 xs.length=n*k/\((v= .slice ν 0 0/\n=0)\/∃cap cs,v= .slice (σ ⟨g,0,ν⟩) n cap/\ag w g e cs/\n<=cap/\cap<=maxLen/\cs.length=cap*k/\cs.take (n*k)=xs)
theorem bW.nil(w:x3)(g:Nat)(e:r8)(k:Nat):bW w g e k (.slice ν 0 0) 0 []:=⟨Ξ,.inl ⟨rfl,rfl⟩⟩
theorem bW.full{g:Nat}{k:Nat}(h:ag w g e cs)(a:cs.length=n*k)(f:n<=maxLen):bW w g e k (.slice (σ ⟨g,0,ν⟩) n n) n cs:=
 ⟨a,.inr ⟨n,cs,rfl,h,o5 _,f,a,by rw[<-a,p8]⟩⟩
theorem bW.aa{g:Nat}{k:Nat}(h:bW w g e k v n xs)(f:af S w I)(j:g<w.heap.size->¬S g):bW I g e k v n xs:=
 ⟨h.1,h.2.imp id λ⟨cap,cs,h1,a,p⟩=>⟨cap,cs,h1,a.aa f (j a.lt),p⟩⟩
theorem bW.W{g:Nat}{k:Nat}(h:bW w g e k v n xs)(a:Ext w I):bW I g e k v n xs:=h.aa (a.aa λ_=>False) (λ_ h=>h)
theorem bW.sl{g:Nat}{k:Nat}(h:bW w g e k v n xs):b5 w k v n xs:=by
 obtain⟨h1,⟨rfl,rfl⟩|⟨cap,cs,rfl,f,p,q,s,r⟩⟩:=h
 .grind [b5.nil]
 .refine⟨h1,g,0,_,cap,rfl,p,q,λ_=>rfl,λj v a=>?_⟩;rw[V0];have x:=(x4.1 a).1;rw[<-r,Y3 Ω]at a;exact f.cell a
theorem b5.src{k:Nat}{x:x1}{m:Nat}{f:r8}(U:b5 w k x m news)(hk:P.underlying e=σ (.slice f))(h1:∀u∈news,u.oneCell'=rs)(h:0<m):Src P k e x m news w:=by
 obtain⟨p,b,o,base,cap,rfl,_,_,a,q⟩:=U;have a:=a h;subst a;exact Src.ofSlice w hk ⟨b,o,ν⟩ m cap news p (λj u r=>by rw[W0];exact q j u r) h1
theorem b5.B5{k:Nat}{x:x1}{a:r8}(U:b5 w k x 0 news)(hk:P.underlying a=σ (.slice e)):Src P k a x 0 [] w:=by
 obtain⟨f,b,o,base,cap,rfl,_,_,h,j⟩:=U;cases base<;>grind [Src.ofNil,Src.ofSlice]
theorem B6{a p H V:r8}{k J g m:Nat}{x:x1}{K:x1->x3->Prop}(L:P.underlying t=σ (.slice e))(y:P.underlying a=σ (.slice V))(hi:aR P e k J z)(W:z.cells.size=k)(M:bW w g H k v n xs)(U:b5 w k x m news)(h1:∀u∈news,u.oneCell'=rs)(X:(n+m)*J<=140737488355328)(Y:n+m<=maxLen)(h:∀A B I C,(B=g/\C=H/\(v=A\/g<w.heap.size/\v≠ .slice ν 0 0)\/B=w.heap.size/\C=e)->bW I B C k A (n+m) (xs++news)->af (λr=>r=g/\v≠ .slice ν 0 0) w I->K A I):
  aD P (j4 #[t,a] p #[v,x]) w K:=by
 obtain⟨i,hi,rfl,rfl,Z⟩:=hi;have ab:=M.sl;obtain⟨s,E⟩:=M;have F:=U.1;have grow:∀(base:Option S6)(cap:Nat),v= .slice base n cap->cap<n+m->0<m->(j5.firstCells i.size n (.slice base n cap)).run P w.drew= .ok xs.toArray w.drew->aD P (j4 #[t,a] p #[v,x]) w K:=by
  rintro base cap rfl N hm ac;have f:=run_append_grow_src w t a p e i z L hi Z base n cap xs ac x m news (U.src y h1 hm) N (by grind [maxLen]) (growslice_fits N X);have ad:n+m<=grownCap w (n+m) cap e:=grownCap_ge w _ _ _;have O:=grownCap_le_maxLen w (n+m) cap e Y;have ae:Ext w (w.drew.alloc (.cells ((xs++news).toArray++S1 z.cells (grownCap w (n+m) cap e-(n+m))) e)):=(rR w _).F (qv _ _);refine .of f ((qu w _ (Nat.le_succ _)).F (qw _ _)) (h _ w.heap.size _ _ (.inr ⟨rfl,rfl⟩) ⟨by grind,.inr ⟨_,((xs++news).toArray++S1 z.cells (grownCap w (n+m) cap e-(n+m))).toList,rfl,?_,ad,O,?_,?_⟩⟩ (ae.aa _))
  .show _=_;rw[Array.toArray_toList];exact heap_alloc_new w.drew _
  .simp[s,F,size_zeroCells,W,<-T7]
   grind
  grind [T7]
 rcases Nat.eq_zero_or_pos m with rfl|hm
 .have ag:=c9 (by simpa using F);subst ag;have an:=U.B5 y;have Q:∀base cap,v= .slice base n cap->n<=cap->aD P (j4 #[t,a] p #[v,x]) w K:=by
   rintro base cap rfl O;refine .of (by grind [run_append_nothing]) (cA.refl _) (h _ g _ _ (.inl ⟨rfl,rfl,.inl rfl⟩) ?_ (af.refl _ _));rw[Nat.add_zero,V2];exact⟨s,E⟩
  obtain⟨rfl,rfl⟩|⟨cap,cs,rfl,_,R,_⟩:=E
  .exact Q _ _ rfl (o5 _)
  .exact Q _ _ rfl R
 .obtain⟨rfl,rfl⟩|⟨cap,cs,rfl,q,R,ah,S,ao⟩:=E
  .have ai:=c9 (by simpa using s);subst ai;exact grow ν 0 rfl Ω hm (by grind [run_firstCells_none])
  .by_cases G:n+m<=cap
   .have ap:n*i.size+news.length<=cs.length:=by rw[F,S,<-T7];exact V7 _ G
    have f:=run_append_room_src w t a p e i L hi g 0 n cap x m news (U.src y h1 hm) G
     (λj aq=>by rw[q.cell (x6 Ω)];rfl) (λj _=>q.frozen _ _)
    obtain⟨aj,T⟩:=nH news cs (n*i.size) w q;rw[V0]at f;refine .of f (T.cB q) (h _ g _ _ (.inl ⟨rfl,rfl,.inr ⟨q.lt,Ξ⟩⟩) ⟨by grind,.inr ⟨cap,_,rfl,aj,G,ah,by rw[fZ,S],?_⟩⟩ (T.aa.X (by grind)))
    grind [nG,T7]
   .refine grow _ cap rfl Ω hm (run_firstCells_some w.drew i.size n _ n cap xs s λj u ak=>?_);rw[W0];obtain⟨_,b,o,base,au,he,_,_,al,f⟩:=ab;cases he;have am:0<n:=by
     grind
    have:=al am;cases this;simpa using f j u ak
theorem py{j q s:r8}{k p g m:Nat}{x:x1}{K:x1->x3->Prop}(y:P.underlying t=σ (.slice e))(A:P.underlying j=σ (.slice s))(hi:aR P e k p z)(B:z.cells.size=k)(C:bW w g e k v n xs)(U:b5 w k x m news)(h1:∀u∈news,u.oneCell'=rs)(E:(n+m)*p<=140737488355328)(F:n+m<=maxLen)(h:∀f a I,(a=g\/w.heap.size<=a)->bW I a e k f (n+m) (xs++news)->af (λr=>r=g) w I->K f I):
  aD P (j4 #[t,j] q #[v,x]) w K:=
 B6 y A hi B C U h1 E F λf a I H J hm G=>by
  refine h f a I Ω ?_ (G.X λr _ h=>h.1)
  grind
theorem pz{f q s:r8}{L g o ea y:Nat}{x:x1}{base:Option S6}{C:r8}{K:x1->x3->Prop}(E:P.underlying f=σ (.slice e))(hi:aR P e 1 L z)(a:ag w g C cs)(M:0<ea->base=σ ⟨g,o,ν⟩)(X:o+ea<=cs.length)(U:b5 w 1 x n xs)(h1:∀u∈xs,u.oneCell'=rs)(h:∀I,af (λr=>r=g) w I->I.heap.size=w.heap.size->ag I g C (over cs o (xs.take ea))->K (Δ (min n ea:Nat)) I):
  aD P (j5.copy_ #[f,q] s #[.slice base ea y,x]) w K:=by
 obtain⟨F,b,o',N,cap,rfl,_,_,O,Q⟩:=U;simp only[V1]at F;have G:(P.info? e).map (·.size)=σ 1:=hi.size;by_cases p:Nat.min n ea=0
 .have he:=c9 (by rw[j6,F];rw[Nat.min_comm];exact p);rw[he]at h;refine .of (run_copy_none w f q s e base N ea y n cap E G p) (cA.refl _) ?_;have H:min n ea=0:=p;rw[H]at h;exact h w (af.refl _ _) rfl a
 .have H:min n ea≠0:=p;have R:=O Ω;have S:=M Ω;subst R;subst S;have J:(xs.take ea).length=min n ea:=by grind
  obtain⟨T,A⟩:=nH (xs.take ea) cs o w a;have V:=run_copy_cells w f q s e g o ea y ⟨b,o',ν⟩ n cap (xs.take ea) E G J
   (λj u B=>by
    rw[W0];have W:=(x4.1 B).1;rw[Y3 Ω]at B;exact Q j u B)
   (λj W=>by rw[a.cell (x6 Ω)];rfl) (λj _=>a.frozen _ _) (by grind)
  refine .of V (A.cB a) ?_;rw[J];exact h _ A.aa A.size T
theorem ak.X{f:S9}{K e:x1->x3->Prop}(h:ak P f args w K)(j:∀v I,cA w I->K v I->e v I):ak P f args w e:=by
 cases h with
 |code h1 a=>exact .code h1 (a.X (by grind))
 |ext v I h1 a p=>exact .ext v I h1 a (by grind)
theorem gT.X{f:S9}{K a:x1->x3->Prop}(h:gT P f args w K)(e:∀v I,K v I->a v I):gT P f args w a:=by
 cases h with
 |code h1 j=>exact .code h1 (j.X (by grind))
 |ext v I h1 p=>exact .ext v I h1 (e v I p)
end
end Go.Vc
namespace Go.Proofs.YtkcigodpbndobaaGreatDoor
open Go Go.Vc Go.RowKit Go.Proofs Go.Proofs.Tryz
set_option maxRecDepth 100000
theorem ao.u:x7.underlying ao=σ (.int .i64):=Ψ
theorem ao.i:aR x7 ao 1 8 (Δ 0):=aR.of Ψ
theorem ae.u:x7.underlying ae=σ (.int .i64):=Ψ
theorem ae.i:aR x7 ae 1 8 (Δ 0):=aR.of Ψ
theorem gD.i:aR x7 gD 1 1 (.bool sp):=aR.of Ψ
theorem cP.u:x7.underlying cP=σ (.int .u8):=Ψ
theorem cP.i:aR x7 cP 1 1 (.int .u8 0):=aR.of Ψ
theorem da.u:x7.underlying da=σ .string:=Ψ
theorem da.i:aR x7 da 1 16 (.string ⟨#[]⟩):=aR.of Ψ
theorem cS.u:x7.underlying cS=σ (.slice cP):=Ψ
theorem ai.u:x7.underlying ai=σ (.slice ae):=Ψ
theorem ai.i:aR x7 ai 1 24 (.slice ν 0 0):=aR.of Ψ
theorem dk.u:x7.underlying dk=σ (.slice ai):=Ψ
theorem dk.i:aR x7 dk 1 24 (.slice ν 0 0):=aR.of Ψ
theorem xl.u:x7.underlying xl=σ (.pointer cH):=Ψ
theorem k5.i:aR x7 k5 1 8 (Δ 0):=aR.of Ψ
theorem xm.u:x7.underlying xm=σ (.pointer ej):=Ψ
theorem ov.u:x7.underlying ov=σ (.pointer fX):=Ψ
theorem dx.u:x7.underlying dx=σ (.pointer bV):=Ψ
theorem eP.u:x7.underlying eP=σ (.slice au):=Ψ
theorem eP.i:aR x7 eP 1 24 (.slice ν 0 0):=aR.of Ψ
theorem c3.u:x7.underlying c3=σ (.slice a7):=Ψ
theorem c3.i:aR x7 c3 1 24 (.slice ν 0 0):=aR.of Ψ
theorem dT.p:bL x7 dT [(0,1),(1,1),(2,1),(3,1),(4,1)]:=bL.of Ψ
theorem dT.i:aR x7 dT 5 88 (.agg #[(Δ 0),(.slice ν 0 0),(Δ 0),(.slice ν 0 0),(.slice ν 0 0)]):=aR.of Ψ
theorem pv.u:x7.underlying pv=σ (.slice db):=Ψ
theorem kq.u:x7.underlying kq=σ (.slice gD):=Ψ
theorem kq.i:aR x7 kq 1 24 (.slice ν 0 0):=aR.of Ψ
theorem fq.u:x7.underlying fq=σ (.slice dF):=Ψ
theorem fq.i:aR x7 fq 1 24 (.slice ν 0 0):=aR.of Ψ
theorem aZ.p:bL x7 aZ [(0,1),(1,1),(2,1),(3,1),(4,1),(5,1),(6,1),(7,1)]:=bL.of Ψ
theorem aZ.i:aR x7 aZ 8 160 (.agg #[(Δ 0),(.slice ν 0 0),(Δ 0),(.slice ν 0 0),(.slice ν 0 0),(.slice ν 0 0),(.slice ν 0 0),(.slice ν 0 0)]):=aR.of Ψ
theorem au.u:x7.underlying au=σ (.slice ao):=Ψ
theorem au.i:aR x7 au 1 24 (.slice ν 0 0):=aR.of Ψ
theorem iq.u:x7.underlying iq=σ (.slice b2):=Ψ
theorem iq.i:aR x7 iq 1 24 (.slice ν 0 0):=aR.of Ψ
theorem qK.i:aR x7 qK 1 8 .nilFunc:=aR.of Ψ
theorem b2.p:bL x7 b2 [(0,1),(1,1),(2,1)]:=bL.of Ψ
theorem b2.i:aR x7 b2 3 56 (.agg #[(Δ 0),(.slice ν 0 0),(.slice ν 0 0)]):=aR.of Ψ
theorem ur.u:x7.underlying ur=σ (.pointer jd):=Ψ
theorem fe.p:bL x7 fe [(0,1),(1,1),(2,1),(3,1)]:=bL.of Ψ
theorem iL.u:x7.underlying iL=σ (.slice k6):=Ψ
theorem iL.i:aR x7 iL 1 24 (.slice ν 0 0):=aR.of Ψ
theorem cD.p:bL x7 cD [(0,1),(1,4),(5,1),(6,1)]:=bL.of Ψ
theorem kr.u:x7.underlying kr=σ (.slice cj):=Ψ
theorem jT.u:x7.underlying jT=σ (.slice ev):=Ψ
theorem jT.i:aR x7 jT 1 24 (.slice ν 0 0):=aR.of Ψ
theorem cj.p:bL x7 cj [(0,1),(1,1),(2,1),(3,1)]:=bL.of Ψ
theorem cj.i:aR x7 cj 4 80 (.agg #[(.slice ν 0 0),(.slice ν 0 0),(Δ 0),(.slice ν 0 0)]):=aR.of Ψ
theorem dM.u:x7.underlying dM=σ (.slice cN):=Ψ
theorem dM.i:aR x7 dM 1 24 (.slice ν 0 0):=aR.of Ψ
theorem cH.p:bL x7 cH [(0,1),(1,1),(2,1),(3,1)]:=bL.of Ψ
theorem e8.u:x7.underlying e8=σ (.pointer fM):=Ψ
theorem e8.i:aR x7 e8 1 8 (.pointer ν):=aR.of Ψ
theorem cN.p:bL x7 cN [(0,1),(1,1)]:=bL.of Ψ
theorem cN.i:aR x7 cN 2 32 (.agg #[(.slice ν 0 0),(.pointer ν)]):=aR.of Ψ
theorem fy.u:x7.underlying fy=σ (.slice cu):=Ψ
theorem fy.i:aR x7 fy 1 24 (.slice ν 0 0):=aR.of Ψ
theorem dC.u:x7.underlying dC=σ (.slice bb):=Ψ
theorem dC.i:aR x7 dC 1 24 (.slice ν 0 0):=aR.of Ψ
theorem bE.p:bL x7 bE [(0,1),(1,1),(2,1),(3,1),(4,1),(5,1),(6,1),(7,1),(8,1)]:=bL.of Ψ
theorem ej.p:bL x7 ej [(0,1),(1,1),(2,1),(3,1)]:=bL.of Ψ
theorem cu.p:bL x7 cu [(0,1),(1,1)]:=bL.of Ψ
theorem cu.i:aR x7 cu 2 24 (.agg #[(.string ⟨#[]⟩),(Δ 0)]):=aR.of Ψ
theorem ek.u:x7.underlying ek=σ (.slice ck):=Ψ
theorem ek.i:aR x7 ek 1 24 (.slice ν 0 0):=aR.of Ψ
theorem bb.p:bL x7 bb [(0,1),(1,1),(2,1),(3,1)]:=bL.of Ψ
theorem bb.i:aR x7 bb 4 80 (.agg #[(.slice ν 0 0),(.slice ν 0 0),(Δ 0),(.slice ν 0 0)]):=aR.of Ψ
theorem my.u:x7.underlying my=σ (.slice iM):=Ψ
theorem my.i:aR x7 my 1 24 (.slice ν 0 0):=aR.of Ψ
theorem fX.p:bL x7 fX [(0,1),(1,1),(2,1),(3,1)]:=bL.of Ψ
theorem dp.u:x7.underlying dp=σ (.pointer cp):=Ψ
theorem dp.i:aR x7 dp 1 8 (.pointer ν):=aR.of Ψ
theorem iM.p:bL x7 iM [(0,1),(1,1)]:=bL.of Ψ
theorem iM.i:aR x7 iM 2 32 (.agg #[(.slice ν 0 0),(.pointer ν)]):=aR.of Ψ
theorem r5.u:x7.underlying r5=σ (.pointer fz):=Ψ
theorem eQ.u:x7.underlying eQ=σ (.slice cT):=Ψ
theorem eQ.i:aR x7 eQ 1 24 (.slice ν 0 0):=aR.of Ψ
theorem bV.p:bL x7 bV [(0,1),(1,1),(2,1),(3,1),(4,1)]:=bL.of Ψ
theorem a7.p:bL x7 a7 [(0,1),(1,1),(2,1)]:=bL.of Ψ
theorem a7.i:aR x7 a7 3 72 (.agg #[(.slice ν 0 0),(.slice ν 0 0),(.slice ν 0 0)]):=aR.of Ψ
theorem ut.i:aR x7 ut 1 8 .nilFunc:=aR.of Ψ
theorem fL.u:x7.underlying fL=σ (.int .u64):=Ψ
theorem fL.i:aR x7 fL 1 8 (.int .u64 0):=aR.of Ψ
theorem b3.p:bL x7 b3 [(0,1),(1,1)]:=bL.of Ψ
theorem b3.i:aR x7 b3 2 16 (.agg #[(.int .u64 0),(Δ 0)]):=aR.of Ψ
theorem bq.p:bL x7 bq [(0,1)]:=bL.of Ψ
theorem bq.i:aR x7 bq 1 24 (.agg #[(.slice ν 0 0)]):=aR.of Ψ
theorem db.p:bL x7 db [(0,1),(1,1),(2,1),(3,1),(4,1)]:=bL.of Ψ
theorem db.i:aR x7 db 5 40 (.agg #[(.int .u8 0),(Δ 0),(Δ 0),(Δ 0),(Δ 0)]):=aR.of Ψ
theorem cT.p:bL x7 cT [(0,1),(1,1),(2,1)]:=bL.of Ψ
theorem cT.i:aR x7 cT 3 56 (.agg #[(.slice ν 0 0),(.slice ν 0 0),(Δ 0)]):=aR.of Ψ
theorem dF.p:bL x7 dF [(0,3),(3,1)]:=bL.of Ψ
theorem dF.i:aR x7 dF 4 80 (.agg #[(.slice ν 0 0),(.slice ν 0 0),(.slice ν 0 0),(.bool sp)]):=aR.of Ψ
theorem jd.p:bL x7 jd [(0,1),(1,1),(2,1)]:=bL.of Ψ
theorem k6.p:bL x7 k6 [(0,1),(1,1)]:=bL.of Ψ
theorem k6.i:aR x7 k6 2 48 (.agg #[(.slice ν 0 0),(.slice ν 0 0)]):=aR.of Ψ
theorem ev.p:bL x7 ev [(0,1),(1,1)]:=bL.of Ψ
theorem ev.i:aR x7 ev 2 32 (.agg #[(.slice ν 0 0),(Δ 0)]):=aR.of Ψ
theorem ck.p:bL x7 ck [(0,1),(1,1)]:=bL.of Ψ
theorem ck.i:aR x7 ck 2 32 (.agg #[(.slice ν 0 0),(Δ 0)]):=aR.of Ψ
theorem gE.u:x7.underlying gE=σ (.slice c4):=Ψ
theorem c4.p:bL x7 c4 [(0,1),(1,1)]:=bL.of Ψ
theorem c4.i:aR x7 c4 2 32 (.agg #[(.slice ν 0 0),(.pointer ν)]):=aR.of Ψ
theorem jU.u:x7.underlying jU=σ (.map cI ao):=Ψ
theorem fM.p:bL x7 fM [(0,1),(1,1),(2,1),(3,1)]:=bL.of Ψ
theorem qL.u:x7.underlying qL=σ (.slice gF):=Ψ
theorem gF.p:bL x7 gF [(0,1),(1,1)]:=bL.of Ψ
theorem gF.i:aR x7 gF 2 32 (.agg #[(.slice ν 0 0),(Δ 0)]):=aR.of Ψ
theorem cp.p:bL x7 cp [(0,1),(1,1),(2,1)]:=bL.of Ψ
theorem jx.u:x7.underlying jx=σ (.slice eH):=Ψ
theorem jx.i:aR x7 jx 1 24 (.slice ν 0 0):=aR.of Ψ
theorem pw.u:x7.underlying pw=σ (.slice k7):=Ψ
theorem pw.i:aR x7 pw 1 24 (.slice ν 0 0):=aR.of Ψ
theorem uu.u:x7.underlying uu=σ (.slice fN):=Ψ
theorem fz.p:bL x7 fz [(0,1),(1,1),(2,1),(3,1)]:=bL.of Ψ
theorem fN.p:bL x7 fN [(0,1),(1,1),(2,1)]:=bL.of Ψ
theorem fN.i:aR x7 fN 3 24 (.agg #[(Δ 0),(Δ 0),(.int .u64 0)]):=aR.of Ψ
theorem eH.p:bL x7 eH [(0,1),(1,1)]:=bL.of Ψ
theorem eH.i:aR x7 eH 2 16 (.agg #[(Δ 0),(.int .u64 0)]):=aR.of Ψ
theorem k7.i:aR x7 k7 3 24 (.agg #[(Δ 0),(Δ 0),(.int .u64 0)]):=aR.of Ψ
theorem ir.u:x7.underlying ir=σ (.map da ae):=Ψ
theorem fY.u:x7.underlying fY=σ (.int .i8):=Ψ
theorem fY.i:aR x7 fY 1 1 (.int .i8 0):=aR.of Ψ
theorem cI.u:x7.underlying cI=σ (.array 6 fY):=Ψ
theorem cI.i:aR x7 cI 6 6 (.agg #[(.int .i8 0),(.int .i8 0),(.int .i8 0),(.int .i8 0),(.int .i8 0),(.int .i8 0)]):=aR.of Ψ
theorem ny.u:x7.underlying ny=σ (.int .u64):=Ψ
theorem mz.u:x7.underlying mz=σ (.slice fY):=Ψ
theorem k8.u:x7.underlying k8=σ (.slice cI):=Ψ
theorem k8.i:aR x7 k8 1 24 (.slice ν 0 0):=aR.of Ψ
theorem r6.p:bL x7 r6 [(0,1),(1,1)]:=bL.of Ψ
theorem qM.u:x7.underlying qM=σ (.int .u32):=Ψ
theorem nz.u:x7.underlying nz=σ (.map ao ae):=Ψ
theorem xn.u:x7.underlying xn=σ (.array 64 cP):=Ψ
theorem ow.u:x7.underlying ow=σ (.array 24 cP):=Ψ
theorem ow.i:aR x7 ow 24 24 (.agg #[(.int .u8 0),(.int .u8 0),(.int .u8 0),(.int .u8 0),(.int .u8 0),(.int .u8 0),(.int .u8 0),(.int .u8 0),(.int .u8 0),(.int .u8 0),(.int .u8 0),(.int .u8 0),(.int .u8 0),(.int .u8 0),(.int .u8 0),(.int .u8 0),(.int .u8 0),(.int .u8 0),(.int .u8 0),(.int .u8 0),(.int .u8 0),(.int .u8 0),(.int .u8 0),(.int .u8 0)]):=aR.of Ψ
theorem xo.u:x7.underlying xo=σ (.array 20 fL):=Ψ
end Go.Proofs.YtkcigodpbndobaaGreatDoor
namespace Go.Vc
open Go Go.RowKit
def b0:x1->Int
 | .int _ i=>i
 |_=>0
theorem lm{x:Int}(h1: -9223372036854775808<=x)(a:x<9223372036854775808):Y6.wrap x=x:=by
 grind [o4.wrap,o4.bits,o4.signed]
theorem wrap_u8{x:Int}(h1:0<=x)(a:x<256):o4.u8.wrap x=x:=by
 grind [o4.wrap,o4.bits,o4.signed]
theorem Lr{x:Int}(h1: -128<=x)(a:x<128):o4.i8.wrap x=x:=by
 grind [o4.wrap,o4.bits,o4.signed]
theorem lw{x:Int}(h1:0<=x)(a:x<18446744073709551616):V9.wrap x=x:=by
 grind [o4.wrap,o4.bits,o4.signed]
abbrev ints(k:o4)(l:Λ):List x1:=l.map (Y9 k)
theorem ku(k:o4)(l:Λ):∀u∈ints k l,u.oneCell'=rs:=by
 intro u a;obtain⟨x,_,rfl⟩:=o8.1 a;rfl
theorem mC{i:Nat}{x:Int}(h:l[i]?=σ x):(ints k l)[i]?=σ (.int k x):=by simp[ints,h]
theorem xt{α:Type}{a b:List α}{i:Nat}{x y:α}(h:a.take i=b.take i)(e:a[i]?=σ x)(f:b[i]?=σ y)(j:x=y):a.take (i+1)=b.take (i+1):=by
 grind [u5]
theorem dh{az:x3->Prop}{B:(x3->Prop)->Prop}(G:x3->Prop)(h1:∀w,G w->az w)(e:∀a:x3->Prop,(∀w,G w->a w)->B a):ct az B:=e az h1
theorem aV{az:x1->x3->Prop}{B:(x1->x3->Prop)->Prop}(G:x1->x3->Prop)(h1:∀v w,G v w->az v w)(e:∀a:x1->x3->Prop,(∀v w,G v w->a v w)->B a):ct az B:=e az h1
theorem jb{az:x1->x1->x3->Prop}{B:(x1->x1->x3->Prop)->Prop}(G:x1->x1->x3->Prop)(h1:∀u v w,G u v w->az u v w)(e:∀a:x1->x1->x3->Prop,(∀u v w,G u v w->a u v w)->B a):ct az B:=e az h1
theorem ak.calls{P:X2}{f:S9}{K:x1->x3->Prop}(h:ak P f args w K)(a:Enters P f):Calls P f args.toArray w λe I=>∃v,e= .returned v/\cA w I/\K v I:=by
 cases h with
 |code _ h=>exact h
 |ext v I h1=>rw[a]at h1;cases h1
theorem Ls(f:Ext w I)(a:cA w I):Below w.heap.size w I:=
 ⟨a.os,a.tape.1,a.output,f.size,λk hk=>by
  have e:=Array.getElem?_eq_getElem hk;rw[e];cases U:fI w.heap[k]with
  |true=>exact f.a8 k _ e U
  |false=>exact a.a8 k _ e U⟩
theorem xu{x:S6}(h:w.cell? x=σ v):x=⟨x.block,x.off,ν⟩:=by
 obtain⟨b,o,s⟩:=x;cases s<;>grind [x3.cell?]
theorem Lt{a:Option S6}{len:Nat}{e:Λ}(h:(a=ν/\len=0/\cap=0/\e=[])\/
   ∃x,a=σ x/\len<=cap/\cap<=maxLen/\e.length=cap/\(∀i,i<e.length->w.cell? (x.add i)=σ (.int k (e.getD i 0)))/\∀n∈e,(Lit.int k n).wf=rs):
  b5 w 1 (.slice a len cap) len (ints k (e.take len))/\∀n∈e.take len,k.min<=n/\n<=k.max:=by
 rcases h with⟨rfl,rfl,rfl,rfl⟩|⟨x,rfl,h1,p,s,f,y⟩
 .grind [b5.nil]
 .refine⟨⟨by grind,x.block,x.off,σ x,cap,rfl,h1,p,λz=>?_,λj v q=>?_⟩,λn A=>?_⟩
  .have:=f 0 Ω;exact congrArg σ (xu this)
  .have r:=(x4.1 q).1;rw[r9,j6]at r;have B:x=⟨x.block,x.off,ν⟩:=xu (v:=.int k (e.getD 0 0)) (f 0 Ω)
   grind [W0]
  grind [Lit.wf]
def aF(k:o4)(w:x3)(v:x1)(l:Λ):Prop:=b5 w 1 v l.length (ints k l)
def an(k:o4)(e:r8)(w:x3)(g:Nat)(v:x1)(l:Λ):Prop:=bW w g e 1 v l.length (ints k l)
theorem aF.W(h:aF k w v l)(a:Ext w I):aF k I v l:=b5.W h a
theorem an.W{g:Nat}(h:an k e w g v l)(a:Ext w I):an k e I g v l:=bW.W h a
theorem an.aa{g:Nat}(h:an k e w g v l)(a:af S w I)(f:g<w.heap.size->¬S g):an k e I g v l:=bW.aa h a f
theorem an.ls{g:Nat}(h:an k e w g v l):aF k w v l:=bW.sl h
theorem aF.of(h:b5 w 1 v n (ints k l)):aF k w v l:=by
 have:l.length=n:=by simpa using h.1
 unfold aF;rw[this];exact h
theorem an.of{g:Nat}(h:bW w g e 1 v n (ints k l)):an k e w g v l:=by
 have:l.length=n:=by simpa using h.1
 unfold an;rw[this];exact h
theorem aF.le(h:aF k w v l):l.length<=9223372036854775807:=by
 have:=b5.le h;simpa[maxLen]using this
theorem aF.cells(h:aF k w v l):v.cells= #[v]/\v.oneCell'=rs:=by
 obtain⟨_,_,_,_,_,rfl,_⟩:=h;exact⟨rfl,rfl⟩
theorem an.nil(k:o4)(e:r8)(w:x3)(g:Nat):an k e w g (.slice ν 0 0) []:=bW.nil w g e 1
section
variable{P:X2}{w:x3}
theorem aS{a:r8}(f:P.underlying t=σ (.slice e))(h:aF k w v l):
  ab P (X7 #[t] a #[v]) w K=K (Δ l.length):=by
 obtain⟨_,_,_,_,_,rfl,_⟩:=h;exact iu f
theorem ba{b:Nat}{i:Nat}{x:Int}(j:P.underlying t=σ (.slice e))(hi:aR P e 1 b z)(h1:k9 P e=rs)(h:aF k w v l)(a:l[i]?=σ x):ab P (j0 t v (.int f (i:Int))) w (λp=>ab P (u4 e p) w K)=K (.int k x):=by
 have q:=(x4.1 a).1;obtain⟨_,_,_,_,_,rfl,_,_,r,s⟩:=h;rw[fs j hi q r,V1,av h1 (s i _ (mC a))]
theorem ew{a:o4}{b:Nat}{i:Nat}{x:Int}(f:y=(i:Int))(j:P.underlying t=σ (.slice e))(hi:aR P e 1 b z)(h1:k9 P e=rs)(h:aF k w v l)(q:l[i]?=σ x):ab P (j0 t v (.int a y)) w (λp=>ab P (u4 e p) w K)=K (.int k x):=by
 subst f;exact ba j hi h1 h q
theorem iO{p:r8}{b g:Nat}{x:x1}{m:Λ}{K:x1->x3->Prop}(j:P.underlying t=σ (.slice e))(hi:aR P e 1 b z)(q:z.cells.size=1)(h:an k e w g v l)(s:aF k w x m)(y:(l.length+m.length)*b<=140737488355328)(A:l.length+m.length<=9223372036854775807)(B:∀f a I,(a=g\/w.heap.size<=a)->an k e I a f (l++m)->af (λr=>r=g) w I->K f I):aD P (j4 #[t,t] p #[v,x]) w K:=
 py j j hi q h s (ku _ _) y (by simpa[maxLen]using A) λf a I h1 C E=>B f a I h1 (an.of (by rw[ints,n9];exact C)) E
theorem dl{b:Nat}{x:Int}{K:x1->x3->Prop}(j:P.underlying t=σ (.slice e))(hi:aR P e 1 b z)(s:z.cells.size=1)(h:∀v g I,g=w.heap.size->Ext w I->an k e I g v [x]->K v I):aD P (Z3 t 1 #[(0,.int k x)]) w K:=
 lM j hi Ω (cs:=#[.int k x]) (by
   have U:∀(a:Array x1),a.size=1->a.setIfInBounds 0 (.int k x)= #[.int k x]:=λa f=>by
    apply Array.ext
    .simp[f]
    .intro i h1 y;have:i=0:=by simp[f]at h1;exact h1
     subst this;simp
   simp only[Instr.fill,T5,List.zipIdx];simp;exact U _ Ξ) λg I p q r=>h _ g I p q (an.of (bW.full r rfl (by simp[maxLen])))
theorem ak.free{f:S9}{K:x1->x3->Prop}(h:ak P f args w K):gT P f args w λv I=>cA w I/\K v I:=by
 cases h with
 |code h1 a=>exact .code h1 (a.X λ_ I ⟨v,h1,e,a⟩=>⟨v,h1,e,a⟩)
 |ext v I h1 a j=>exact .ext v I h1 ⟨a,j⟩
theorem bS{a:S6}:ab P (bR (.pointer (σ a))) w K=K (.pointer (σ a)):=ab.of λ_ _=>by
 simp[bR,tH,execOp]
theorem aK{u:r8}{a:List (Nat×Nat)}{b z:Nat}{K:x1->x1->Prop}(j:bL P t a)(i:Nat)(p:ag w b e cs)(f:cs[(a[i]?.getD (0,0)).1]?=σ v)(h:a[i]?=σ (off,z+1):=by rfl)(q:k9 P u=rs:=by kernel_rfl):
  ab P (u6 t (Γ b) i) w (λx=>ab P (u4 u x) w (K x))=K (.pointer (σ ⟨b,0+off,ν⟩)) v:=by
 rw[h]at f;rw[aT j h,av q (p.cell (by rw[V0];exact f))]
theorem aN{u:r8}{a:List (Nat×Nat)}{b z:Nat}{K:x1->x1->x1->Prop}(f:bL P t a)(i:Nat)(h:ag w b e cs)(j:cs[(a[i]?.getD (0,0)).1]?=σ v)(p:a[i]?=σ (off,z+1):=by rfl)(q:k9 P u=rs:=by kernel_rfl):
  ab P (bR (Γ b)) w (λy=>ab P (u6 t y i) w (λx=>ab P (u4 u x) w (K y x)))=K (Γ b) (.pointer (σ ⟨b,0+off,ν⟩)) v:=by
 rw[bS,aK f i h j p q]
theorem B7{a:o4}{k:Nat}{K:x1->x3->Prop}(q:P.underlying t=σ (.slice e))(hi:aR P e k j z)(A:n*j<=281474976710656)(B:n<=9223372036854775807)(h:∀g I,g=w.heap.size->Ext w I->ag I g e (dV z.cells (n*k))->K (.slice (σ ⟨g,0,ν⟩) n n) I):aD P (Instr.makeSlice t (.int a (n:Int)) (.int f (n:Int))) w K:=by
 obtain⟨i,hi,rfl,rfl,r⟩:=hi;have s:(i.bytes:Int)*(n:Int)<=281474976710656:=by
  rw[Int.mul_comm];have h:((n*i.bytes:Nat):Int)<=281474976710656:=Ω
  rwa [Int.natCast_mul]at h
 have p:=run_make w t e i z q hi r a f n n Ω (Int.le_refl _) s Ω;have hm:madeCells z.cells ((n:Int).toNat*i.size)=(dV z.cells (n*i.size)).toArray:=by rw[dV,Array.toArray_toList];rfl
 rw[hm]at p;obtain⟨h1,x,y⟩:=uy w (dV z.cells (n*i.size)) e;exact .of p y (h _ _ rfl x h1)
theorem Lu(v:x1)(n:Nat):dV #[v] n=u9 n v:=by
 apply List.ext_getElem
 .simp[dV]
 .intro i h1 a;simp[dV,Nat.mod_one]
theorem jy{j:o4}{a:Nat}{K:x1->x3->Prop}(p:P.underlying t=σ (.slice e))(hi:aR P e 1 a (.int k 0))(q:n*a<=281474976710656)(r:n<=9223372036854775807)(h:∀g I,g=w.heap.size->Ext w I->ag I g e (ints k (u9 n 0))->K (.slice (σ ⟨g,0,ν⟩) n n) I):aD P (Instr.makeSlice t (.int f (n:Int)) (.int j (n:Int))) w K:=
 B7 p hi q r λg I s x y=>h g I s x (by
  have e:dV (Y9 k 0).cells (n*1)=ints k (u9 n 0):=by rw[V1];show dV #[_] n=_;rw[Lu];simp[ints]
  rw[<-e];exact y)
theorem fA{e:List (Nat×Nat)}{b o k f:Nat}(a:bL P t e)(hi:aR P t k f z)(j:cs.length=k)(h:w.rangeAt b o cs):ab P (do loadVar t (<-asAddr (.pointer (σ ⟨b,o,ν⟩)))) w K=K (.agg cs.toArray):=ab.of λI p=>by
 obtain⟨q,a,_⟩:=a;have:=run_loadVar_mid I b o t cs (.struct q) (px p h) a rfl (by rw[hi.size,j]);simp only[asAddr,X4,W9,Result.andThen_ok,this]
theorem Lv(h:vs.length=cs.length):over cs 0 vs=vs:=by
 rw[nG Ω];simp[h]
theorem b4{k f g:Nat}{K:Unit->x3->Prop}(hi:aR P t k f z)(j:vs.length=k)(x:cs.length=k)(p:∀v∈vs,v.oneCell'=rs)(q:ag w g e cs)(h:∀I,af (λr=>r=g) w I->I.heap.size=w.heap.size->ag I g e vs->K () I):aD P (o6 t (Γ g) (.agg vs.toArray)) w K:=
 B4 hi j p q Ω λI h1 s a=>h I h1 s (by rw[Lv Ω]at a;exact a)
end
section
variable{P:X2}{w I V:x3}{t:r8}{cx cy:Bool}{k:o4}{a b:Int}{A B:Prop}{x y z:x1}{K:x1->Prop}
theorem bn:ab P (c7 (.tuple #[x,y]) 0) w K=K x:=jW rfl
theorem bo:ab P (c7 (.tuple #[x,y]) 1) w K=K y:=jW rfl
theorem gY:ab P (c7 (.tuple #[x,y,z]) 0) w K=K x:=jW rfl
theorem gZ:ab P (c7 (.tuple #[x,y,z]) 1) w K=K y:=jW rfl
theorem ia:ab P (c7 (.tuple #[x,y,z]) 2) w K=K z:=jW rfl
theorem bt(h:a<b)(e:A):ab P (aQ .lss t cx cy (.int k a) (.int k b)) w λv=>Split v A B:=by
 rw[aP,aj];exact⟨λ_=>e,λf=>m7 h f⟩
theorem b6(h:¬a<b)(e:B):ab P (aQ .lss t cx cy (.int k a) (.int k b)) w λv=>Split v A B:=by
 rw[aP,aj];exact⟨λf=>m7 f h,λ_=>e⟩
theorem Ext.put{g:Nat}(a:Ext w I)(e:af (λr=>r=g) I V)(h:w.heap.size<=g):Ext w V:=a.then e λr f he=>by
 have he:r=g:=he;omega
theorem aC{α:Type}{l:List α}{i:Nat}(h:i<l.length):∃x,l[i]?=σ x:=⟨_,x6 h⟩
end
abbrev ah:=Nat->Prop
def lN(S:ah)(w:x3)(k:Nat)(v:x1)(n:Nat)(cs:List x1):Prop:=
 cs.length=n*k/\∃b o base cap,v= .slice base n cap/\n<=cap/\cap<=maxLen/\(0<n->base=σ ⟨b,o,ν⟩)/\(0<cs.length->S b)/\w.rangeAt b o cs
theorem lN.sl{S:ah}{k:Nat}(h:lN S w k v n cs):b5 w k v n cs:=by
 obtain⟨h1,b,o,base,cap,a,e,f,j,_,p⟩:=h;exact⟨h1,b,o,base,cap,a,e,f,j,p⟩
theorem B8{b o:Nat}(h:w.rangeAt b o cs)(a:0<cs.length):b<w.heap.size:=by
 have:=h 0 cs[0] (x6 a)
 grind [xp]
theorem lN.aa{S T:ah}{k:Nat}(h:lN S w k v n cs)(x:af T w I)(y:∀r,r<w.heap.size->S r->¬T r):lN S I k v n cs:=by
 obtain⟨h1,b,o,base,cap,a,e,f,p,q,z⟩:=h;refine⟨h1,b,o,base,cap,a,e,f,p,q,?_⟩;rcases Nat.eq_zero_or_pos cs.length with s|s
 .intro j v A;grind
 grind [gW,B8]
theorem lN.X{S T:ah}{k:Nat}(h:lN S w k v n cs)(f:∀r,r<w.heap.size->S r->T r):lN T w k v n cs:=by
 obtain⟨h1,b,o,base,cap,j,p,q,s,x,a⟩:=h;exact⟨h1,b,o,base,cap,j,p,q,s,λe=>f b (B8 a e) (x e),a⟩
class aq(α:Type) where
 n:Nat
 rep:Bool->ah->ah->x3->List x1->α->Prop
 len:∀{m S R w cs a},rep m S R w cs a->cs.length=n
 one:∀{m S R w cs a},rep m S R w cs a->∀u∈cs,u.oneCell'=rs
 aa:∀{m S R T w I cs a},rep m S R w cs a->af T w I->(∀r,r<w.heap.size->S r\/R r->¬T r)->rep m S R I cs a
 X:∀{m S S' R R' w cs a},rep m S R w cs a->(∀r,r<w.heap.size->S r->S' r)->(∀r,r<w.heap.size->R r->R' r)->rep m S' R' w cs a
 jR:∀{m S R w cs a},rep m S R w cs a->rep sp (λ_=>False) (λr=>S r\/R r) w cs a
section
variable{α β:Type}[aq α][aq β]{m:Bool}{S R T:ah}{w I:x3}
abbrev bH(S R:ah)(w:x3)(cs:List x1)(a:α):Prop:=aq.rep rs S R w cs a
abbrev Seen(R:ah)(w:x3)(cs:List x1)(a:α):Prop:=aq.rep sp (λ_=>False) R w cs a
abbrev ff:ah:=λ_=>True
theorem bN{a:α}(h:aq.rep m S R w cs a)(e:Ext w I):aq.rep m S R I cs a:=aq.aa h (e.aa λ_=>False) λ_ _ _ h=>h
theorem nI{a:α}(h:aq.rep m S R w cs a):aq.rep m (λr=>S r/\r<w.heap.size) R w cs a:=aq.X h (by grind) λ_ _ h=>h
theorem jY{a:α}(h:aq.rep m S R w cs a):Seen ff w cs a:=aq.X (aq.jR h) (by grind) (by grind)
theorem sd{a:α}{Q:ah}(h:aq.rep m S R w cs a)(e:∀r,r<w.heap.size->S r\/R r->Q r):Seen Q w cs a:=aq.X (aq.jR h) (by grind) e
instance:aq Int where
 n:=1
 rep _ _ _ _ cs a:=cs=[Δ a]
 len h:=by grind
 one h:=by subst h;intro u e;simp at e;subst e;rfl
 aa h _ _:=h
 X h _ _:=h
 jR h:=h
instance:aq Bool where
 n:=1
 rep _ _ _ _ cs a:=cs=[.bool a]
 len h:=by grind
 one h:=by subst h;intro u e;simp at e;subst e;rfl
 aa h _ _:=h
 X h _ _:=h
 jR h:=h
instance:aq ByteArray where
 n:=1
 rep _ _ _ _ cs a:=cs=[.string a]
 len h:=by grind
 one h:=by subst h;intro u e;simp at e;subst e;rfl
 aa h _ _:=h
 X h _ _:=h
 jR h:=h
def nJ(_:o4):Type:=Int
instance (k:o4):aq (nJ k) where
 n:=1
 rep _ _ _ _ cs a:=cs=[.int k a]
 len h:=by grind
 one h:=by subst h;intro u e;simp at e;subst e;rfl
 aa h _ _:=h
 X h _ _:=h
 jR h:=h
def Rd(α:Type):Type:=α
instance Vu:aq (Rd α) where
 n:=aq.n α
 rep _ _ R w cs a:=aq.rep (α:=α) sp (λ_=>False) R w cs a
 len h:=aq.len (α:=α) h
 one h:=aq.one (α:=α) h
 aa h f j:=by grind [aq.aa]
 X h _ e:=aq.X (α:=α) h (λ_ _ h=>h) e
 jR h:=aq.X (α:=α) h (λ_ _ h=>h) (by grind)
instance Vv:aq (α×β) where
 n:=aq.n α+aq.n β
 rep m S R w cs a:=∃c d A B,cs=c++d/\(∀r,A r->S r)/\(∀r,B r->S r)/\(m=rs->∀r,A r->¬B r)/\aq.rep m A R w c a.1/\aq.rep m B R w d a.2
 len:=by
  grind [aq.len]
 one:=by
  grind [aq.one]
 aa:=by
  rintro m S R T w I cs a ⟨c,d,A,B,rfl,e,f,j,h1,p⟩ s q;exact⟨c,d,A,B,rfl,e,f,j,by grind [aq.aa],by grind [aq.aa]⟩
 X:=by
  rintro m S S' R R' w cs a ⟨c,d,A,B,rfl,e,f,j,h1,p⟩ q x;exact⟨c,d,λr=>A r/\r<w.heap.size,λr=>B r/\r<w.heap.size,rfl,by grind,by grind,by grind,
   by grind [aq.X],by grind [aq.X]⟩
 jR:=by
  rintro m S R w cs a ⟨c,d,A,B,rfl,e,f,j,h1,p⟩;exact⟨c,d,λ_=>False,λ_=>False,rfl,λ_ h=>h.elim,λ_ h=>h.elim,by grind,aq.X (aq.jR h1) (λ_ _ h=>h) (by grind),
   aq.X (aq.jR p) (λ_ _ h=>h) (by grind)⟩
def lO(m:Bool)(R:ah)(F:Nat->ah)(w:x3)(vs:List (List x1))(l:List α):Prop:=
 vs.length=l.length/\∀(i:Nat)(c:List x1)(a:α),vs[i]?=σ c->l[i]?=σ a->aq.rep m (F i) R w c a
structure B9(m:Bool)(S:ah)(g:Nat)(F:Nat->ah):Prop where
 sub:∀i r,F i r->S r
 top:m=rs->∀i,¬F i g
 ib:m=rs->∀i j r,i≠j->F i r->¬F j r
theorem lO.len{F:Nat->ah}{vs:List (List x1)}{l:List α}(h:lO m R F w vs l):∀c∈vs,c.length=aq.n α:=by
 intro c a;obtain⟨i,hi,rfl⟩:=List.mem_iff_getElem.1 a;exact aq.len (h.2 i _ _ (x6 hi) (x6 (h.1▸hi)))
theorem lO.one{F:Nat->ah}{vs:List (List x1)}{l:List α}(h:lO m R F w vs l):∀u∈vs.flatten,u.oneCell'=rs:=by
 intro u a;obtain⟨c,e,a⟩:=List.mem_flatten.1 a;obtain⟨i,hi,rfl⟩:=List.mem_iff_getElem.1 e;exact aq.one (h.2 i _ _ (x6 hi) (x6 (h.1▸hi))) u a
theorem kv{k:Nat}:∀{vs:List (List x1)},(∀c∈vs,c.length=k)->vs.flatten.length=vs.length*k
 :=by
 intro a;induction a<;>grind
theorem pA{k:Nat}:∀{vs:List (List x1)},(∀c∈vs,c.length=k)->∀{i j:Nat}{c:List x1},vs[i]?=σ c->j<k->vs.flatten[i*k+j]?=c[j]?
 |iv::r,h,0,j,c,a,e=>by
  grind
 |iv::r,h,i+1,j,c,a,e=>by
  simp only[List.getElem?_cons_succ]at a;have f:=h iv (.head _);rw[List.flatten_cons,Y5 (by grind),f,T7,show i*k+1*k+j-k=i*k+j by omega];exact pA (by grind) a e
 |[],_,i,_,c,a,_=>by simp at a
instance instList:aq (List α) where
 n:=1
 rep m S R w cs l:=∃v,cs=[v]/\∃(vs:List (List x1))(g:Nat)(F:Nat->ah),B9 m S g F/\lO m R F w vs l/\lN (λr=>S r\/R r) w (aq.n α) v l.length vs.flatten/\
  (m=rs->(v= .slice ν 0 0\/S g)/\∃e,bW w g e (aq.n α) v l.length vs.flatten)
 len:=by grind
 one:=by
  rintro m S R w cs a ⟨v,rfl,vs,g,F,_,_,⟨_,_,_,_,_,rfl,_⟩,_⟩ u A;simp at A;subst A;rfl
 aa:=by
  rintro m S R T w I cs a ⟨v,rfl,vs,g,F,p,he,U,hm⟩ z y;refine⟨v,rfl,vs,g,F,p,⟨he.1,λi c a q s=>aq.aa (he.2 i c a q s) z λr B h=>y r B (h.imp (p.sub i r) id)⟩,U.aa z y,λh=>?_⟩;obtain⟨h1,e,f⟩:=hm h;refine⟨h1,e,?_⟩;rcases h1 with rfl|h1
  .obtain⟨C,⟨_,x⟩|⟨_,_,x,_⟩⟩:=f
   .exact⟨C,.inl ⟨rfl,x⟩⟩
   .cases x
  .exact f.aa z (by grind)
 X:=by
  rintro m S S' R R' w cs a ⟨v,rfl,vs,g,F,p,he,U,hm⟩ y E;refine⟨v,rfl,vs,g,λi r=>F i r/\r<w.heap.size,⟨λi r h=>y r h.2 (p.sub i r h.1),λh i f=>p.top h i f.1,λh i j r G h1 f=>p.ib h i j r G h1.1 f.1⟩,
   ⟨he.1,λi c a q s=>aq.X (he.2 i c a q s) (by grind) E⟩,U.X (by grind),λh=>?_⟩
  obtain⟨h1,e,f⟩:=hm h;refine⟨?_,e,f⟩;obtain⟨_,⟨x,_⟩|⟨_,_,x,H,_⟩⟩:=f
  all_goals grind [ag.lt]
 jR:=by
  rintro m S R w cs a ⟨v,rfl,vs,g,F,p,he,U,hm⟩;exact⟨v,rfl,vs,g,λ_ _=>False,⟨λ_ _ h=>h,by grind,by grind⟩,
   ⟨he.1,λi c a q s=>aq.X (aq.jR (he.2 i c a q s)) (λ_ _ h=>h) λr _ h=>h.imp (p.sub i r) id⟩,by grind,by grind⟩
end
section
variable{P:X2}{w:x3}{α β:Type}[aq α][aq β]{m:Bool}{S R:ah}
theorem kw{l:List α}(h:aq.rep m S R w [v] l):∃(vs:List (List x1))(g:Nat)(F:Nat->ah),B9 m S g F/\lO m R F w vs l/\lN (λr=>S r\/R r) w (aq.n α) v l.length vs.flatten/\
  (m=rs->(v= .slice ν 0 0\/S g)/\∃e,bW w g e (aq.n α) v l.length vs.flatten):=by
 obtain⟨_,a,h⟩:=h
 grind
theorem nK{a:α}(h:aq.rep m S R w [v] a):v.oneCell'=rs:=aq.one h v (.head _)
theorem qO{l:List α}(h:aq.rep m S R w [v] l):v.cells= #[v]:=by
 obtain⟨_,_,_,_,_,⟨_,_,_,_,_,rfl,_⟩,_⟩:=kw h;rfl
theorem qP{l:List α}(h:aq.rep m S R w [v] l):l.length<=9223372036854775807:=by
 obtain⟨_,_,_,_,_,h,_⟩:=kw h;have:=h.sl.le;grind [maxLen]
theorem iw:aq.rep m S R w [.slice ν 0 0] ([]:List α):=
 ⟨_,rfl,[],0,λ_ _=>False,⟨by grind,λ_ _ h=>h,by grind⟩,⟨rfl,λi c a e=>by simp at e⟩,
  ⟨Ξ,0,0,ν,0,rfl,o5 _,X8 _,by grind,by grind,λj v h=>by simp at h⟩,
  λ_=>⟨.inl rfl,0,bW.nil w 0 0 _⟩⟩
theorem Ca{F:Nat->ah}{vs:List (List x1)}(h:lO m R F w vs l):vs.flatten=ints .i64 l:=by
 have:vs=l.map λx=>[Y9 .i64 x]:=by
  apply List.ext_getElem
  .simp[h.1]
  .intro i h1 e;have a:i<l.length:=by grind
   have:=h.2 i _ _ (x6 h1) (x6 a);rw[List.getElem_map];exact this
 subst this;clear h;induction l<;>grind
theorem eC(h:aq.rep m S R w [v] l):aF .i64 w v l:=by
 obtain⟨vs,g,F,_,he,U,_⟩:=kw h;have:=U.sl;rw[Ca he]at this;exact this
theorem jf{a:r8}{l:List α}(f:P.underlying t=σ (.slice e))(h:aq.rep m S R w [v] l):
  ab P (X7 #[t] a #[v]) w K=K (Δ l.length):=by
 obtain⟨_,_,_,_,_,⟨_,_,_,_,_,rfl,_⟩,_⟩:=kw h;exact iu f
theorem nL{s:o4}{i b:Nat}{l:List α}{a:α}(x:y=(i:Int))(A:P.underlying t=σ (.slice e))(hi:aR P e (aq.n α) b z)(h:aq.rep m S R w [v] l)(f:l[i]?=σ a)(B:∀b o cs,w.rangeAt b o cs->aq.rep m S R w cs a->K (.pointer (σ ⟨b,o,ν⟩))):ab P (j0 t v (.int s y)) w K:=by
 subst x;obtain⟨vs,g,F,C,he,⟨_,b,o,base,cap,rfl,_,_,E,_,G⟩,_⟩:=kw h;have p:=(x4.1 f).1;rw[fs A hi p E];obtain⟨c,H⟩:∃c,vs[i]?=σ c:=⟨_,x6 (by rw[he.1];exact p)⟩;have q:=he.2 i c a H f;have J:=aq.len q;refine B _ _ c (λj u I=>?_) (aq.X q (λr _ h=>C.sub i r h) λ_ _ h=>h);have L:=(x4.1 I).1;rw[Nat.add_assoc];refine G (i*aq.n α+j) u ?_
 grind [pA,lO.len]
theorem kx{j:o4}{i b:Nat}{l:List α}{a:α}(q:aq.n α=1)(r:y=(i:Int))(s:P.underlying t=σ (.slice e))(hi:aR P e (aq.n α) b z)(h1:k9 P e=rs)(h:aq.rep m S R w [v] l)(x:l[i]?=σ a)(C:∀u,aq.rep m S R w [u] a->K u):
  ab P (j0 t v (.int j y)) w λp=>ab P (u4 e p) w K:=by
 refine nL r s hi h x λb o cs A B=>?_;have f:=aq.len B;rw[q]at f;obtain⟨u,rfl⟩:=X3.1 f;rw[av h1 (by have:=A 0 u rfl;simpa using this)]
 grind
theorem nM{f:List (Nat×Nat)}{j:o4}{i b:Nat}{l:List α}{a:α}(q:bL P e f)(r:y=(i:Int))(s:P.underlying t=σ (.slice e))(hi:aR P e (aq.n α) b z)(h:aq.rep m S R w [v] l)(x:l[i]?=σ a)(C:∀cs,aq.rep m S R w cs a->K (.agg cs.toArray)):
  ab P (j0 t v (.int j y)) w λp=>ab P (u4 e p) w K:=by
 refine nL r s hi h x λb o cs A B=>?_;rw[bC q hi (aq.len B) A]
 grind
theorem qQ{g:Nat}{k:Nat}(h:bW w g e k v n xs)(s:v= .slice ν 0 0\/S g):lN S w k v n xs:=by
 obtain⟨h1,⟨rfl,rfl⟩|⟨cap,cs,rfl,f,p,q,x,r⟩⟩:=h
 .have:xs=[]:=by grind
  subst this;exact⟨Ξ,0,0,ν,0,rfl,o5 _,X8 _,Ω,Ω,λj v h=>by simp at h⟩
 .refine⟨h1,g,0,_,cap,rfl,p,q,λ_=>rfl,by grind,λj v a=>?_⟩;rw[V0];have y:=(x4.1 a).1;rw[<-r,Y3 Ω]at a;exact f.cell a
open Classical in
theorem Lw{L O Q:r8}{b:Nat}{x:x1}{us:List (List x1)}{l fB:List α}{G:Nat->ah}{K:x1->x3->Prop}(T:P.underlying t=σ (.slice e))(V:P.underlying L=σ (.slice O))(hi:aR P e (aq.n α) b z)(W:z.cells.size=aq.n α)(h:bH S R w [v] l)(X:b5 w (aq.n α) x fB.length us.flatten)(E:lO rs R G w us fB)(am:∀i j r,i≠j->G i r->¬G j r)(M:∀r,r<w.heap.size->S r->(∀i,¬G i r)/\¬R r)(Y:(l.length+fB.length)*b<=140737488355328)(an:l.length+fB.length<=9223372036854775807)(Z:∀p I,bH (λr=>S r\/(∃i,G i r)\/w.heap.size<=r) R I [p] (l++fB)->af S w I->K p I):aD P (j4 #[t,L] Q #[v,x]) w K:=by
 obtain⟨vs,g,F,q,he,U,hm⟩:=kw h;obtain⟨ab,ao,N⟩:=hm rfl;refine B6 T V hi W N X E.one Y (by grind [maxLen]) ?_;intro p A I ac ad ae H;have ap:∀r,r=g/\v≠ .slice ν 0 0->S r:=by grind
 have ai:=N;have aj:(p= .slice ν 0 0)\/(A=g/\S g/\g<w.heap.size)\/A=w.heap.size:=by
  rcases ad with⟨h1,_,f|f⟩|⟨h1,_⟩
  .rcases ab with B|B
   .grind
   .obtain⟨_,⟨y,_⟩|⟨_,_,_,y,_⟩⟩:=ai
    all_goals grind [ag.lt]
  all_goals grind
 refine Z p I ⟨p,rfl,vs++us,if p= .slice ν 0 0 then w.heap.size else A,λi r=>if i<l.length then F i r/\r<w.heap.size else G (i-l.length) r/\r<w.heap.size,⟨λi r h=>?_,λ_ i h=>?_,λ_ i j r ak h1 f=>?_⟩,⟨by simp[he.1,E.1],λi c a hi C=>?_⟩,?_,λ_=>⟨?_,ac,?_⟩⟩ (H.X (by grind))
 .split at h
  .exact .inl (q.sub i r h.1)
  grind
 .have s:(if p= .slice ν 0 0 then w.heap.size else A)<w.heap.size:=by grind
  split at s
  .omega
  .rename_i J;rw[m6 J]at h;rcases aj with h1|⟨rfl,f,B⟩|h1
   .grind
   .split at h
    .exact q.top rfl i h.1
    grind
   .omega
 .split at h1<;>split at f
  .exact q.ib rfl i j r ak h1.1 f.1
  .exact (M r h1.2 (q.sub i r h1.1)).1 _ f.1
  .exact (M r h1.2 (q.sub j r f.1)).1 _ h1.1
  grind
 .have au:∀r,r<w.heap.size->R r->¬(r=g/\v≠ .slice ν 0 0):=by grind
  by_cases s:i<l.length
  .rw[W8 (by rw[he.1];exact s)]at hi;rw[W8 s]at C;simp only[m5 s];refine aq.aa (nI (he.2 i c a hi C)) H λr al h1 f=>?_;rcases h1 with h1|h1
   .exact q.top rfl i (f.1▸h1.1)
   grind
  .rw[Y5 (by rw[he.1];omega),he.1]at hi;rw[Y5 Ω]at C;simp only[m6 s];refine aq.aa (nI (E.2 _ c a hi C)) H λr al h1 f=>?_
   grind
 .grind [qQ]
 .grind
 .rw[p9,List.flatten_append];by_cases J:p= .slice ν 0 0
  .subst J;obtain⟨B,⟨_,y⟩|⟨_,_,y,_⟩⟩:=ae
   .exact⟨B,.inl ⟨rfl,y⟩⟩
   .cases y
  grind
theorem ox{q:r8}{b:Nat}{x:x1}{l:List α}{a:α}{A:ah}{K:x1->x3->Prop}(j:P.underlying t=σ (.slice e))(hi:aR P e (aq.n α) b z)(s:z.cells.size=aq.n α)(h:bH S R w [v] l)(F:b5 w (aq.n α) x 1 cs)(H:bH A R w cs a)(J:∀r,r<w.heap.size->S r->¬(A r\/R r))(y:(l.length+1)*b<=140737488355328)(L:l.length+1<=9223372036854775807)(B:∀f I,bH (λr=>S r\/A r\/w.heap.size<=r) R I [f] (l++[a])->af S w I->K f I):aD P (j4 #[t,t] q #[v,x]) w K:=by
 refine Lw (us:=[cs]) (G:=λi r=>i=0/\A r) j j hi s h (by grind) ⟨rfl,λi c b C y=>?_⟩ Ω (by grind) Ω Ω
  λf I h1 E=>B f I (aq.X h1 (by grind) λ_ _ h=>h) E
 have p:=(x4.1 C).1;have p:i=0:=by grind
 subst p
 grind
end
theorem Cb:∀(c:List x1)(i:Nat)(z:Array x1),(i+c.length<=z.size)->((c.zipIdx i).foldl (λcs (x:x1×Nat)=>cs.setIfInBounds x.2 x.1) z).toList=z.toList.take i++c++z.toList.drop (i+c.length)
 |[],i,z,h=>Ξ
 |x::r,i,z,h=>by
  simp only[Y4]at h;rw[List.zipIdx_cons,List.foldl_cons,Cb r (i+1) _ Θ];simp only[Array.toList_setIfInBounds,Y4];rw[List.drop_set_of_lt Ω,List.take_set,u5,x6 Θ];simp only[l7];rw[S7 _ _ Θ];have e:i-(z.toList.take i).length=0:=Θ
  rw[e,show i+1+r.length=i+(r.length+1) by omega];simp
theorem Cc{k:Nat}{z:Array x1}(a:z.size=k)(e:v.cells.size=k):Instr.fill (λj=>σ (j*k,k)) z [(0,v)]=σ v.cells:=by
 have h:=Cb v.cells.toList 0 z Θ;simp only[Instr.fill,Nat.zero_mul,V0];rw[m6 Θ];congr 1;apply Array.toList_inj.1;rw[<-Array.foldl_toList,Array.toList_zipIdx,h];simp;omega
section
variable{P:X2}{w:x3}{α β:Type}[aq α][aq β]{m:Bool}{S R:ah}
theorem la{b:Nat}{x:x1}{a:α}{A:ah}{K:x1->x3->Prop}(C:P.underlying t=σ (.slice e))(hi:aR P e (aq.n α) b z)(M:aq.n α<=100000)(q:x.cells=cs.toArray)(s:bH A R w cs a)(E:∀v I,Ext w I->bH (λr=>A r\/w.heap.size<=r) R I [v] [a]->b5 I (aq.n α) v 1 cs->K v I):aD P (Z3 t 1 #[(0,x)]) w K:=by
 have F:=aq.len s;refine lM C hi Ω (cs:=x.cells) (Cc Ξ (by rw[q];simpa using F)) λg I N y f=>?_;have f:ag I g e cs:=by rw[q]at f;simpa using f
 have hm:bW I g e (aq.n α) (.slice (σ ⟨g,0,ν⟩) 1 1) 1 cs:=bW.full f Ω (by simp[maxLen]);refine E _ I y ⟨_,rfl,[cs],g,λi r=>i=0/\A r/\r<w.heap.size,⟨λi r h=>.inl h.2.1,λ_ i h=>Ω,λ_ i j r G h1 H=>G (h1.1.F H.1.symm)⟩,⟨rfl,λi c a' p B=>?_⟩,?_,λ_=>⟨.inr (.inr Ω),e,by simpa using hm⟩⟩ hm.sl
 .have J:i=0:=by simpa using(x4.1 p).1
  subst J;simp at p B;subst p B;exact bN (aq.X s (λr L h=>⟨rfl,h,L⟩) λ_ _ h=>h) y
 .have:=qQ (S:=λr=>(A r\/w.heap.size<=r)\/R r) hm (.inr (.inl (.inr Ω)));simpa using this
end
theorem ce.range{B:x1->x3->(x1->x3->Prop)->Prop}(n:Nat)(a:Nat->x3->Prop)(e:n<=9223372036854775807)(f:a 0 w)(h:∀(i:Nat)(w:x3)(k:x1->x3->Prop),i<n->a i w->(∀I,a (i+1) I->k (Δ (Y6.wrap ((i:Int)+1))) I)->B (Δ (i:Int)) w k)(j:∀(w:x3)(k:x1->x3->Prop),a n w->B (Δ (n:Int)) w k):ce (Δ 0) w B:=by
 refine⟨λt w=>∃i:Nat,t=Δ (i:Int)/\i<=n/\a i w,λt _=>n-(b0 t).toNat,by grind,?_⟩
 grind [lm,b0]
theorem bT.range{a:x1}{B:x1->x1->x3->(x1->x1->x3->Prop)->Prop}(n:Nat)(e:Nat->x1->x3->Prop)(f:n<=9223372036854775807)(h:e 0 a w)(j:∀(i:Nat)(a:x1)(w:x3)(k:x1->x1->x3->Prop),i<n->e i a w->(∀a' I,e (i+1) a' I->k a' (Δ (Y6.wrap ((i:Int)+1))) I)->B a (Δ (i:Int)) w k)(p:∀(a:x1)(w:x3)(k:x1->x1->x3->Prop),e n a w->B a (Δ (n:Int)) w k):bT a (Δ 0) w B:=by
 refine⟨λa t w=>∃i:Nat,t=Δ (i:Int)/\i<=n/\e i a w,λa t _=>n-(b0 t).toNat,by grind,?_⟩
 grind [lm,b0]
theorem mn.range{a b:x1}{B:x1->x1->x1->x3->(x1->x1->x1->x3->Prop)->Prop}(n:Nat)(e:Nat->x1->x1->x3->Prop)(h:n<=9223372036854775807)(j:e 0 a b w)(p:∀(i:Nat)(a b:x1)(w:x3)(k:x1->x1->x1->x3->Prop),i<n->e i a b w->(∀a' f I,e (i+1) a' f I->k a' f (Δ (Y6.wrap ((i:Int)+1))) I)->B a b (Δ (i:Int)) w k)(q:∀(a b:x1)(w:x3)(k:x1->x1->x1->x3->Prop),e n a b w->B a b (Δ (n:Int)) w k):mn a b (Δ 0) w B:=by
 refine⟨λa b t w=>∃i:Nat,t=Δ (i:Int)/\i<=n/\e i a b w,λa b t _=>n-(b0 t).toNat,by grind,?_⟩
 grind [lm,b0]
theorem tR.range{a b c:x1}{B:x1->x1->x1->x1->x3->(x1->x1->x1->x1->x3->Prop)->Prop}(n:Nat)(e:Nat->x1->x1->x1->x3->Prop)(j:n<=9223372036854775807)(p:e 0 a b c w)(q:∀(i:Nat)(a b c:x1)(w:x3)(k:x1->x1->x1->x1->x3->Prop),i<n->e i a b c w->(∀a' f h I,e (i+1) a' f h I->k a' f h (Δ (Y6.wrap ((i:Int)+1))) I)->B a b c (Δ (i:Int)) w k)(r:∀(a b c:x1)(w:x3)(k:x1->x1->x1->x1->x3->Prop),e n a b c w->B a b c (Δ (n:Int)) w k):tR a b c (Δ 0) w B:=by
 refine⟨λa b c t w=>∃i:Nat,t=Δ (i:Int)/\i<=n/\e i a b c w,λa b c t _=>n-(b0 t).toNat,by grind,?_⟩
 grind [lm,b0]
theorem qB.range{a b c d:x1}{B:x1->x1->x1->x1->x1->x3->(x1->x1->x1->x1->x1->x3->Prop)->Prop}(n:Nat)(e:Nat->x1->x1->x1->x1->x3->Prop)(p:n<=9223372036854775807)(q:e 0 a b c d w)(r:∀(i:Nat)(a b c d:x1)(w:x3)(k:x1->x1->x1->x1->x1->x3->Prop),i<n->e i a b c d w->(∀a' f h j I,e (i+1) a' f h j I->k a' f h j (Δ (Y6.wrap ((i:Int)+1))) I)->B a b c d (Δ (i:Int)) w k)(s:∀(a b c d:x1)(w:x3)(k:x1->x1->x1->x1->x1->x3->Prop),e n a b c d w->B a b c d (Δ (n:Int)) w k):qB a b c d (Δ 0) w B:=by
 refine⟨λa b c d t w=>∃i:Nat,t=Δ (i:Int)/\i<=n/\e i a b c d w,λa b c d t _=>n-(b0 t).toNat,by grind,?_⟩
 grind [lm,b0]
section
variable{P:X2}{w:x3}{m:Bool}{S R:ah}
theorem Lx(l:Λ):(l.map λx=>[Y9 k x]).flatten=ints k l:=by
 induction l<;>grind
theorem mD{g:Nat}(h:an .i64 e w g v l):bH (λr=>r=g) R w [v] l:=by
 have j:(l.map λx=>[Y9 .i64 x]).flatten=ints .i64 l:=Lx l;refine⟨v,rfl,l.map λx=>[Δ x],g,λ_ _=>False,⟨by grind,λ_ _ h=>h,by grind⟩,⟨Ξ,λi c a f p=>?_⟩,?_,λ_=>⟨.inr rfl,e,?_⟩⟩
 .rw[x8,p]at f;simp at f;exact f.symm
 .rw[j];exact qQ h Ω
 .rw[j];exact h
def nJ.val(x:nJ k):Int:=x
theorem Cd(h:bH S R w [v] l):∃g e,an .i64 e w g v l/\(v= .slice ν 0 0\/S g):=by
 obtain⟨vs,g,F,_,he,U,hm⟩:=kw h;obtain⟨h1,e,a⟩:=hm rfl;rw[Ca he]at a;exact⟨g,e,a,h1⟩
end
end Go.Vc
namespace Go.Proofs.YtkcigodpbndobaaGreatDoor
open Go Go.Vc Go.RowKit Go.Proofs Go.Proofs.Tryz
set_option maxRecDepth 100000
def right(k:Int):Prop:=1<=k/\k<=2147483648
def cK(a k:Int):Prop:=right k/\0<=a/\a<=k
instance (k:Int):Decidable (right k):=by unfold right;infer_instance
instance (a k:Int):Decidable (cK a k):=by unfold cK;infer_instance
theorem Ce{k:Int}:ak x7 Kp [Δ k] w λv I=>v= .bool (decide (right k))/\Ext w I:=by
 refine ay func212 ?_;simp only[ct,cJ,nA,aj];refine⟨λh=>⟨?_,Ext.refl _⟩,λh=>⟨?_,Ext.refl _⟩⟩
 .congr 1;simp[right,h]
 .rw[pl];intro a;exact h a.1
theorem lb{k:Int}:ak x7 Kk [Δ a,Δ k] w λv I=>v= .bool (decide (cK a k))/\Ext w I:=by
 refine ay func202 ?_;simp only[ct];refine Ce.X ?_;rintro _ J _ ⟨rfl,e⟩;simp only[cJ,nA,aj];refine⟨λh=>⟨λf=>⟨?_,e⟩,λf=>⟨?_,e⟩⟩,λh=>⟨?_,e⟩⟩
 .congr 1;simp[cK,h,f]
 .rw[pl];intro j;exact f j.2.1
 .rw[pl];intro j;exact h j.1
theorem Ly{k:Int}:ak x7 K9 [Δ k] w λv I=>v= .bool (decide (right k))/\Ext w I:=by
 refine ay func290 ?_;simp only[ct,bG,nA,aj];refine⟨λh=>⟨?_,Ext.refl _⟩,λh=>⟨?_,Ext.refl _⟩⟩
 .congr 1;have bf:1<=k:=Ω
  simp[right,bf]
 .rw[pl];intro a;have:=a.1;omega
theorem Cf{k:Int}:ak x7 KI [Δ a,Δ k] w λv I=>v= .bool (decide (cK a k))/\Ext w I:=by
 refine ay func241 ?_;simp only[ct];refine Ly.X ?_;rintro _ J _ ⟨rfl,e⟩;simp only[cJ,nA,aj];refine⟨λh=>⟨λf=>⟨?_,e⟩,λf=>⟨?_,e⟩⟩,λh=>⟨?_,e⟩⟩
 .congr 1;simp[cK,h,f]
 .rw[pl];intro j;exact f j.2.1
 .rw[pl];intro j;exact h j.1
def aB:Λ->Int
 |[]=>1
 |x::r=>x*aB r
theorem pB:∀(a b:Λ),aB (a++b)=aB a*aB b
 |[],b=>by simp[aB]
 |x::a,b=>by simp[aB,pB a b,Int.mul_assoc]
theorem oy{i:Nat}{x:Int}(h:l[i]?=σ x):aB (l.take (i+1))=aB (l.take i)*x:=by
 rw[u5,h,pB];simp[aB]
def bU(l:Λ):Prop:=l.length<=6/\∀x∈l,1<=x/\x<=32
theorem bU.take(h:bU l)(i:Nat):bU (l.take i):=⟨by rw[j6];have:=h.1;omega,λx a=>h.2 x (V4 a)⟩
theorem bU.drop(h:bU l)(i:Nat):bU (l.drop i):=⟨by rw[List.length_drop];have:=h.1;omega,λx a=>h.2 x (List.mem_of_mem_drop a)⟩
theorem lP:∀(l:Λ),(∀x∈l,1<=x/\x<=32)->1<=aB l/\aB l<=32 ^ l.length
 |[],_=>by simp[aB]
 |x::r,h=>by
  obtain⟨h1,a⟩:=lP r λy e=>h y (.tail _ e);obtain⟨f,j⟩:=h x (.head _);simp only[aB,Y4];constructor
  .have:=Int.mul_le_mul f h1 Ω Ω;simpa using this
  .have:=Int.mul_le_mul j a Ω Ω;rw[Int.pow_succ];rw[Int.mul_comm (32 ^ r.length) 32];exact this
theorem prod_bound(h:bU l):1<=aB l/\aB l<=1073741824:=by
 obtain⟨h1,a⟩:=lP l h.2;refine⟨h1,Int.le_trans a ?_⟩;have:(32:Int) ^ l.length<=32 ^ 6:=by
  have e:=h.1
  match l.length,e with
  |0,_=>decide
  |1,_=>decide
  |2,_=>decide
  |3,_=>decide
  |4,_=>decide
  |5,_=>decide
  |6,_=>decide
 simpa using this
def cc:Λ->Λ->Int->Option Int
 |[],[],n=>σ n
 |k::s,v::t,n=>if 0<=v/\v<k then cc s t (n*k+v)else ν
 |_,_,_=>ν
theorem xv:∀(s t:Λ)(n:Int),s.length≠t.length->cc s t n=ν
 |[],[],_,h=>m7 rfl h
 |[],_::_,_,_=>rfl
 |_::_,[],_,_=>rfl
 |k::s,v::t,n,h=>by
  unfold cc;split
  .exact xv s t _ (by simpa using h)
  .rfl
def b1:Λ->Int->Λ
 |[],_=>[]
 |k::s,n=>(n / aB s) % k::b1 s n
theorem ix:∀(s:Λ)(n:Int),(b1 s n).length=s.length
 |[],_=>rfl
 |_::s,n=>by simp[b1,ix s n]
theorem Cg:∀{s:Λ}{n:Int}{i:Nat}{k:Int},s[i]?=σ k->(b1 s n)[i]?=σ ((n / aB (s.drop (i+1))) % k)
 |a::s,n,0,k,h=>by simp at h;subst h;simp[b1]
 |a::s,n,i+1,k,h=>by
  simp only[List.getElem?_cons_succ]at h;simp only[b1,List.getElem?_cons_succ,List.drop_succ_cons];exact Cg h
theorem ky:∀{s t:Λ}{m n:Int},(∀x∈s,1<=x/\x<=32)->cc s t m=σ n->m*aB s<=n/\n<(m+1)*aB s
 |[],[],m,n,_,h=>by simp[cc]at h;subst h;simp[aB];omega
 |k::s,v::t,m,n,U,h=>by
  unfold cc at h;split at h
  .rename_i p;have e:=ky (λx a=>U x (.tail _ a)) h;have q:=(lP s λx a=>U x (.tail _ a)).1;simp only[aB];have f:m*(k*aB s)=m*k*aB s:=(Int.mul_assoc _ _ _).symm;have j:(m+1)*(k*aB s)=(m*k+k)*aB s:=by rw[<-Int.mul_assoc,Int.add_mul,Int.one_mul]
   rw[f,j];constructor
   .refine Int.le_trans ?_ e.1;exact W6 Ω Ω
   .refine Int.lt_of_lt_of_le e.2 ?_;exact W6 Ω Ω
  .cases h
 |[],_::_,_,_,_,h=>by cases h
 |_::_,[],_,_,_,h=>by cases h
def bk:Λ->List (Λ)
 |[]=>[[]]
 |k::s=>(Z4 k.toNat).flatMap λ(v:Nat)=>(bk s).map λt=>(v:Int)::t
theorem jz:∀{s:Λ},(∀x∈s,1<=x/\x<=32)->(bk s).length=(aB s).toNat
 |[],_=>rfl
 |k::s,h=>by
  have e:=jz λx a=>h x (.tail _ a);have hk:=h k (.head _);have f:=(lP s λx a=>h x (.tail _ a)).1;simp only[bk,aB,List.length_flatMap,r9,e];rw[List.map_const',List.length_range,List.sum_replicate_nat,Int.toNat_mul Ω Ω]
theorem uz:∀{s x:Λ},x∈bk s->x.length=s.length
 |[],x,h=>by simp[bk]at h;subst h;rfl
 |k::s,x,h=>by
  simp only[bk,List.mem_flatMap,o8]at h;obtain⟨v,_,t,a,rfl⟩:=h;simp[uz a]
theorem xw{s x:Λ}(h:(bk s)[j]?=σ x):x.length=s.length:=uz (x5 h)
theorem qR(h:aF .i64 w sv l)(U:bU l):
  ak x7 JV [.agg #[sv]] w λv I=>v=Δ (aB l)/\Ext w I:=by
 refine ay func164 ?_;refine bj λg w0 r f j=>?_;rw[aK bq.p 0 j rfl,aS ai.u (h.W f)];refine⟨λn t J=>Ext w J/\∃i:Nat,t=Δ i/\i<=l.length/\n=Δ (aB (l.take i)),λ_ t _=>l.length-(b0 t).toNat,⟨f,0,rfl,X8 _,rfl⟩,?_⟩;rintro _ _ J ⟨a,i,rfl,hi,rfl⟩;have s:=U.1;simp only[aP,aj];refine⟨λy=>?_,λz=>⟨?_,a⟩⟩
 .obtain⟨x,e⟩:=aC (l:=l) (i:=i) Ω;rw[ba ai.u ae.i Ψ (h.W a) e];have q:=prod_bound (U.take (i+1));rw[oy e]at q;simp only[fO,aL];rw[lm Ω Ω,lm Ω Ω,<-oy e];refine⟨⟨a,i+1,rfl,Ω,rfl⟩,?_⟩;simp only[b0];omega
 .have:i=l.length:=Ω
  rw[this,p8]
theorem Lz{i:Nat}(h:aF .i64 w sv l)(U:bU l)(hi:i<l.length):
  ak x7 KY [.agg #[sv],Δ i] w λv I=>v=Δ (aB (l.drop (i+1)))/\Ext w I:=by
 have B:=U.1;refine ay func264 ?_;refine bj λg w0 C f j=>?_;have a:=h.W f;simp only[ct,aP,aj];refine⟨λE=>Ω,λ_=>?_⟩;rw[aK bq.p 0 j rfl,aS ai.u a];simp only[cJ,aj];refine⟨λG=>Ω,λ_=>?_⟩;rw[aK bq.p 0 j rfl];simp only[aL];have r:Y6.wrap ((i:Int)+1)=((i+1:Nat):Int):=by rw[lm Ω Ω];omega
 rw[r];have s:=a;obtain⟨_,b,o,base,cap,rfl,H,J,K,L⟩:=id a;rw[eB ai.u ae.i lL gX dU Ω Ω Ω];have e:=b5.part (l:=i+1) (h:=l.length) (m:=cap) s Ω Ω Ω Ω;generalize y:(x1.slice (if cap=i+1 then base else W3 (λx=>x.add ((i+1)*1)) base) (l.length-(i+1)) (cap-(i+1)))=q at e ⊢;have z:((ints .i64 l).drop ((i+1)*1)).take ((l.length-(i+1))*1)=ints .i64 (l.drop (i+1)):=by
  rw[o7 Ξ,V1,ints,<-List.map_drop]
 rw[z]at e;rw[dq (cs:=#[q]) (by subst y;kernel_rfl)];refine(qR (aF.of e) (U.drop (i+1))).X ?_;rintro _ V _ ⟨rfl,A⟩;exact⟨rfl,f.F A⟩
def mE(s t:Λ):x1:=match cc s t 0 with
 |some n=>.tuple #[Δ n,Δ 0]
 |none=>.tuple #[Δ 0,Δ 3]
theorem Ch{s t:Λ}(h:aF .i64 w sv s)(q:aF .i64 w aO t)(U:bU s):
  ak x7 I0 [.agg #[sv],aO] w λv I=>v=mE s t/\Ext w I:=by
 have K:=U.1;refine ay func85 ?_;refine bj λg w0 L e r=>?_;rw[aS ai.u (q.W e),aK bq.p 0 r rfl,aS ai.u (h.W e)];simp only[bz,aj];refine⟨λM=>⟨?_,e⟩,λz=>?_⟩
 .unfold mE;rw[xv _ _ _ Ω]
 .have z:s.length=t.length:=Ω
  rw[aS ai.u (q.W e)];refine⟨λ_ _ n c J=>Ext w0 J/\∃(i:Nat)(m:Int),c=Δ i/\i<=t.length/\n=Δ m/\0<=m/\m<aB (s.take i)/\cc s t 0=cc (s.drop i) (t.drop i) m,λ_ _ _ c _=>t.length-(b0 c).toNat,
   ⟨Ext.refl _,0,0,rfl,X8 _,rfl,Int.le_refl _,by simp[aB],rfl⟩,?_⟩
  rintro _ _ _ _ J ⟨j,i,m,rfl,hi,rfl,A,N,f⟩;have a:=e.F j;simp only[aP,aj];refine⟨λO=>?_,λP=>⟨?_,a⟩⟩
  .obtain⟨v,B,C⟩:∃v,t[i]?=σ v/\t.drop i=v::t.drop (i+1):=⟨t[i],x6 Ω,X0 Ω⟩;obtain⟨k,hk,E⟩:∃k,s[i]?=σ k/\s.drop i=k::s.drop (i+1):=⟨s[i],x6 Ω,X0 Ω⟩;rw[C,E]at f;have G:=prod_bound (U.take (i+1));have Q:=prod_bound (U.take i);have R:=U.2 k (x5 hk);rw[oy hk]at G;have y:¬(0<=v/\v<k)->mE s t= .tuple #[Δ 0,Δ 3]:=λH=>by unfold mE;rw[f];simp[cc,H]
   rw[ba ai.u ae.i Ψ (q.W a) B];simp only[ct,aP,aj,bZ];refine⟨λS=>⟨(y Ω).symm,a⟩,λV=>?_⟩;rw[aK bq.p 0 (r.W j) rfl,ba ai.u ae.i Ψ (h.W a) hk];simp only[cJ,aj];refine⟨λW=>⟨(y Ω).symm,a⟩,λX=>?_⟩;rw[aK bq.p 0 (r.W j) rfl,ba ai.u ae.i Ψ (h.W a) hk];have Y:0<=m*k/\m*k+k<=aB (s.take i)*k:=by
    constructor
    .exact Int.mul_nonneg A Ω
    .have:=W6 (show m+1<=aB (s.take i) by omega) (show 0<=k by omega);rw[Int.add_mul,Int.one_mul]at this;exact this
   simp only[fO,aL];rw[lm (x:=m*k) Ω Ω,lm (x:=m*k+v) Ω Ω,lm Ω Ω];refine⟨⟨j,i+1,m*k+v,rfl,Ω,rfl,Ω,by rw[oy hk];omega,?_⟩,?_⟩
   .rw[f];simp[cc,show 0<=v/\v<k from⟨Ω,Ω⟩]
   .simp only[b0];omega
  .have:i=t.length:=Ω
   rw[this,List.drop_of_length_le Ω,List.drop_of_length_le Ω]at f;unfold mE;rw[f];rfl
theorem LA{e:Nat}{a b:Λ}(h1:b5 w 1 s1 e (ints .i64 a))(z:b5 w 1 s2 j (ints .i64 b)):
  ak x7 Bo [s1,s2] w λv I=>v= .bool (decide (a=b))/\Ext w I:=by
 have P:a.length=e:=by simpa using h1.1
 have Q:b.length=j:=by simpa using z.1
 have A:=h1.le;obtain⟨_,R,S,U,W,rfl,X,Y,E,G⟩:=h1;obtain⟨_,Z,aa,ab,ac,rfl,ad,af,H,K⟩:=z;refine ay func33 ?_;simp only[iu ai.u,bz,aj];refine⟨λB=>⟨?_,Ext.refl _⟩,λC=>?_⟩
 .rw[pl];rintro rfl;omega
 .have C:e=j:=Ω
  refine⟨λt4 p J=>Ext w J/\∃i:Nat,p=Δ i/\i<=e/\a.take i=b.take i,λ_ p _=>e-(b0 p).toNat,⟨Ext.refl _,0,rfl,X8 _,rfl⟩,?_⟩;rintro t4 _ J ⟨f,i,rfl,hi,q⟩;simp only[aP,aj,eu];refine⟨λr V L _ _=>?_,λag=>⟨?_,f⟩⟩
  .have r:i<e:=Ω
   have f:=f.F L;obtain⟨x,s⟩:=aC (l:=a) (i:=i) Ω;obtain⟨y,h⟩:=aC (l:=b) (i:=i) Ω;have M:=jV f (G i _ (mC s));have N:=jV f (K i _ (mC h));rw[fs ai.u ae.i r E,V1,av Ψ M,fs ai.u ae.i (C▸r) H,V1,av Ψ N];simp only[bz,aj,aL];refine⟨λB=>⟨?_,f⟩,λah=>⟨⟨f,i+1,?_,Ω,xt q s h Ω⟩,?_⟩⟩
   .rw[pl];rintro rfl;rw[s]at h;cases h;exact B rfl
   .rw[lm Ω (by simp only[maxLen]at A;omega)];rfl
   .rw[lm Ω (by simp only[maxLen]at A;omega)];simp only[b0];omega
  .have O:i=e:=Ω
   subst O;rw[ms];rw[o7 Ω,o7 Ω]at q;exact q
theorem LB{s:x1}{a:Λ}(h1:b5 w 1 s n (ints .i64 a))(B:n<=1000000):
  ak x7 Bp [s] w λv I=>Ext w I/\∃g,w.heap.size<=g/\bW I g ae 1 v n (ints .i64 a):=by
 have j:=h1;obtain⟨p,C,E,G,H,rfl,K,L,q,M⟩:=h1;refine ay func43 ?_;simp only[uv ai.u,bM];refine⟨λf=>⟨Ext.refl _,w.heap.size,o5 _,?_⟩,λ_=>?_⟩
 .have:n=0:=by
   rcases Nat.eq_zero_or_pos n with h|h
   .exact h
   .rw[q h]at f;cases f
  subst this;have:ints .i64 a=[]:=c9 (by simpa using p);rw[this];exact bW.nil _ _ _ _
 .refine lM ai.u ae.i Ω (cs:=#[]) Ψ ?_;intro g J N e x;refine py ai.u ai.u ae.i rfl (bW.full x rfl Ω) (j.W e) (ku _ _) Ω (by simp only[maxLen];omega) ?_;intro O y V P z A;refine⟨e.then A (by rintro r Q rfl;omega),y,?_,?_⟩
  .have:=e.size;omega
  .simpa using z
theorem LC{e:Nat}{a b:Λ}(h1:b5 w 1 s1 e (ints .i64 a))(z:b5 w 1 s2 j (ints .i64 b)):
  ak x7 Bm [s1,s2] w λv I=>v= .bool (decide (a=b))/\Ext w I:=by
 have P:a.length=e:=by simpa using h1.1
 have Q:b.length=j:=by simpa using z.1
 have A:=h1.le;obtain⟨_,R,S,U,W,rfl,X,Y,E,G⟩:=h1;obtain⟨_,Z,aa,ab,ac,rfl,ad,ae,H,K⟩:=z;refine ay func25 ?_;simp only[iu au.u,bz,aj];refine⟨λB=>⟨?_,Ext.refl _⟩,λC=>?_⟩
 .rw[pl];rintro rfl;omega
 .have C:e=j:=Ω
  refine⟨λt4 p J=>Ext w J/\∃i:Nat,p=Δ i/\i<=e/\a.take i=b.take i,λ_ p _=>e-(b0 p).toNat,⟨Ext.refl _,0,rfl,X8 _,rfl⟩,?_⟩;rintro t4 _ J ⟨f,i,rfl,hi,q⟩;simp only[aP,aj,eu];refine⟨λr V L _ _=>?_,λaf=>⟨?_,f⟩⟩
  .have r:i<e:=Ω
   have f:=f.F L;obtain⟨x,s⟩:=aC (l:=a) (i:=i) Ω;obtain⟨y,h⟩:=aC (l:=b) (i:=i) Ω;have M:=jV f (G i _ (mC s));have N:=jV f (K i _ (mC h));rw[fs au.u ao.i r E,V1,av Ψ M,fs au.u ao.i (C▸r) H,V1,av Ψ N];simp only[bz,aj,aL];refine⟨λB=>⟨?_,f⟩,λag=>⟨⟨f,i+1,?_,Ω,xt q s h Ω⟩,?_⟩⟩
   .rw[pl];rintro rfl;rw[s]at h;cases h;exact B rfl
   .rw[lm Ω (by simp only[maxLen]at A;omega)];rfl
   .rw[lm Ω (by simp only[maxLen]at A;omega)];simp only[b0];omega
  .have O:i=e:=Ω
   subst O;rw[ms];rw[o7 Ω,o7 Ω]at q;exact q
theorem LD{s:x1}{a:Λ}(h1:b5 w 1 s n (ints .i64 a))(B:n<=1000000):
  ak x7 BF [s] w λv I=>Ext w I/\∃g,w.heap.size<=g/\bW I g ao 1 v n (ints .i64 a):=by
 have j:=h1;obtain⟨p,C,E,G,H,rfl,K,L,q,M⟩:=h1;refine ay func147 ?_;simp only[uv au.u,bM];refine⟨λf=>⟨Ext.refl _,w.heap.size,o5 _,?_⟩,λ_=>?_⟩
 .have:n=0:=by
   rcases Nat.eq_zero_or_pos n with h|h
   .exact h
   .rw[q h]at f;cases f
  subst this;have:ints .i64 a=[]:=c9 (by simpa using p);rw[this];exact bW.nil _ _ _ _
 .refine lM au.u ao.i Ω (cs:=#[]) Ψ ?_;intro g J N e x;refine py au.u au.u ao.i rfl (bW.full x rfl Ω) (j.W e) (ku _ _) Ω (by simp only[maxLen];omega) ?_;intro O y V P z A;refine⟨e.then A (by rintro r Q rfl;omega),y,?_,?_⟩
  .have:=e.size;omega
  .simpa using z
theorem se{a b:Λ}(h1:aF .i64 w s1 a)(e:aF .i64 w s2 b):
  ak x7 Bo [s1,s2] w λv I=>v= .bool (decide (a=b))/\Ext w I:=LA h1 e
theorem jZ{s:x1}{a:Λ}(h1:aF .i64 w s a)(e:a.length<=1000000):
  ak x7 Bp [s] w λv I=>Ext w I/\∃g,w.heap.size<=g/\an .i64 ae I g v a:=LB h1 e
theorem Ci{a b:Λ}(h1:aF .i64 w s1 a)(e:aF .i64 w s2 b):
  ak x7 Bm [s1,s2] w λv I=>v= .bool (decide (a=b))/\Ext w I:=LC h1 e
theorem xx{s:x1}{a:Λ}(h1:aF .i64 w s a)(e:a.length<=1000000):
  ak x7 BF [s] w λv I=>Ext w I/\∃g,w.heap.size<=g/\an .i64 ao I g v a:=LD h1 e
theorem LF{n:Int}(h:aF .i64 w sv l)(U:bU l)(x:0<=n)(Y:n<aB l):
  ak x7 Ki [.agg #[sv],Δ n] w λv I=>Ext w I/\∃aO g,v= .tuple #[aO,Δ 0]/\w.heap.size<=g/\an .i64 ae I g aO (b1 l n):=by
 have Z:=U.1;have aa:=prod_bound U;refine ay func200 ?_;refine bj λg w0 ab y a=>?_;have ac:=h.cells;simp only[ct,aP,aj];refine⟨λad=>Ω,λ_=>?_⟩;rw[bC bq.p bq.i rfl a.range];refine(qR (h.W y) U).X ?_;rintro _ J _ ⟨rfl,f⟩;simp only[cJ,aj];refine⟨λaf=>Ω,λ_=>?_⟩;have j:=y.F f;rw[aK bq.p 0 (a.W f) rfl,aS ai.u (h.W j)];refine jy ai.u ae.i Ω Ω ?_;intro E V ah z L;simp only[iu ai.u];have M:=j.F z;have s0:=y.size;have s1:=f.size;have al:=a.lt;refine⟨λt q=>Ext w q/\Ext w0 q/\∃i:Nat,t=Δ i/\i<=l.length/\ag q E ae (ints .i64 ((b1 l n).take i++u9 (l.length-i) 0)),λt _=>l.length-(b0 t).toNat,
  ⟨M,f.F z,0,rfl,X8 _,by simpa using L⟩,?_⟩
 rintro _ q ⟨A,B,i,rfl,hi,G⟩;simp only[aP,aj];refine⟨λC=>?_,λam=>?_⟩
 .have C:i<l.length:=Ω
  rw[bC bq.p bq.i rfl (a.W B).range];refine(Lz (h.W A) U C).X ?_;rintro _ ao _ ⟨rfl,N⟩;simp only[eu];intro ap O _ _;have s:=N.F O;have H:=A.F s;obtain⟨k,hk⟩:∃k,l[i]?=σ k:=⟨l[i],x6 Ω⟩;have aq:=U.2 k (x5 hk);have au:=prod_bound (U.drop (i+1));have P:0<=n / aB (l.drop (i+1)):=Int.ediv_nonneg x Ω;have av:n / aB (l.drop (i+1))<=n:=Int.ediv_le_self _ x;rw[sa Ω,Int.tdiv_eq_ediv_of_nonneg x,lm Ω Ω,
   aK bq.p 0 ((a.W B).W s) rfl,ba ai.u ae.i Ψ (h.W H) hk,
   sb Ω,Int.tmod_eq_emod_of_nonneg P,fs ai.u ae.i C (λ_=>rfl),V1]
  refine bw ae.i rfl rfl (G.W s) (by simp[ix];omega) ?_;intro aw K ax Q;simp only[aL];rw[lm Ω Ω];have az:=z.size;have aA:=j.size;refine⟨⟨H.then K (by rintro r R rfl;omega),(B.F s).then K (by rintro r R rfl;omega),i+1,rfl,Ω,?_⟩,?_⟩
  .have S:=Cg (n:=n) hk;have e:(ints .i64 ((b1 l n).take i++u9 (l.length-i) 0)).set (0+i) (Δ (n / aB (l.drop (i+1)) % k))=ints .i64 ((b1 l n).take (i+1)++u9 (l.length-(i+1)) 0):=by
    have W:((b1 l n).take i).length=i:=by rw[j6,ix];omega
    rw[V0,ints,<-V5];congr 1;rw[List.set_append,m6 Ω,W,U1,show l.length-i=(l.length-(i+1))+1 by omega,List.replicate_succ,List.set_cons_zero,u5,S];simp
   rw[<-e];exact Q
  .simp only[b0];omega
 .have X:i=l.length:=Ω
  subst X;refine⟨A,_,E,rfl,by have:=j.size;omega,an.of (bW.full ?_ (by simp[ints,ix]) (by simp[maxLen];omega))⟩;have e:(b1 l n).take l.length++u9 (l.length-l.length) 0=b1 l n:=by rw[U1,o7 (by rw[ix];omega)];simp
  rw[<-e];exact G
def jA(x:Int):Prop:=1<=x/\x<=32
instance (x:Int):Decidable (jA x):=by unfold jA;infer_instance
theorem LG{x:Int}:ak x7 uk [Δ x] w λv I=>v= .bool (decide (¬jA x))/\Ext w I:=by
 refine ay func162 ?_;simp only[ct,aP,bG,aj];refine⟨λh=>⟨?_,Ext.refl _⟩,λh=>⟨?_,Ext.refl _⟩⟩
 .rw[ms];intro a;have:=a.1;omega
 .congr 1;have:(32<x)=(¬jA x):=propext ⟨λe a=>by have:=a.2;omega,λe=>by
   by_cases f:32<x
   .exact f
   .exact m7 ⟨Ω,Ω⟩ e⟩
  simp only[this]
theorem LH(h:aF .i64 w sv l):
  ak x7 xj [sv,.func (.func uk) #[] #[]] w λv I=>Ext w I/\∃n:Int,v=Δ n/\((0<=n)=¬∀x∈l,jA x):=by
 have z:=h.le;refine ay func239 ?_;rw[aS ai.u h];refine⟨λ_ t J=>Ext w J/\∃i:Nat,t=Δ i/\i<=l.length/\∀x∈l.take i,jA x,λ_ t _=>l.length-(b0 t).toNat,⟨Ext.refl _,0,rfl,X8 _,Ξ⟩,?_⟩;rintro _ _ J ⟨e,i,rfl,hi,f⟩;simp only[aP,aj];refine⟨λA=>?_,λB=>⟨e,-1,rfl,?_⟩⟩
 .obtain⟨x,j⟩:=aC (l:=l) (i:=i) Ω;rw[ba ai.u ae.i Ψ (h.W e) j];show ak x7 uk [Δ x] J _;refine LG.X ?_;rintro _ V _ ⟨rfl,p⟩;simp only[aj,aL];refine⟨λq=>⟨e.F p,i,rfl,?_⟩,λr=>?_⟩
  .exact propext ⟨λ_ s=>q (s x (x5 j)),λ_=>Ω⟩
  .rw[lm Ω Ω];refine⟨⟨e.F p,i+1,rfl,Ω,λy a=>?_⟩,?_⟩
   .rw[u5,j]at a;rcases o9.1 a with a|a
    .exact f y a
    .simp at a;subst a;exact Z2.1 r
   .simp only[b0];omega
 .have:i=l.length:=Ω
  rw[this,p8]at f;exact propext ⟨λh=>Ω,λh=>m7 f h⟩
theorem LI(h:aF .i64 w sv l):
  ak x7 ul [sv,.func (.func uk) #[] #[]] w λv I=>v= .bool (decide (¬∀x∈l,jA x))/\Ext w I:=by
 refine ay func163 ?_;refine(LH h).X ?_;rintro _ J _ ⟨a,n,rfl,e⟩;simp only[cJ];exact⟨by congr 1;simp only[e],a⟩
def LJ(w:x3)(l:Λ)(v:x1)(I:x3):Prop:=
 Ext w I/\
   (¬bU l->v= .tuple #[.agg #[.slice ν 0 0],Δ 1])/\
   (bU l->4096<aB l->v= .tuple #[.agg #[.slice ν 0 0],Δ 5])/\
   (bU l->aB l<=4096->∃g aO,v= .tuple #[.agg #[aO],Δ 0]/\w.heap.size<=g/\an .i64 ae I g aO l)
theorem Cj(h:aF .i64 w sv l):ak x7 IY [sv] w (LJ w l):=by
 refine ay func83 ?_;refine bu bq.i λal J am a s=>?_;have an:=s.lt;refine aV (λv V=>Ext w V/\Ext J V/\∃c:Bool,v= .bool c/\((c=rs)=¬bU l)) ?_ ?_
 .rintro _ V ⟨x,y,c,rfl,H⟩;simp only[bM];refine⟨λW=>?_,λX=>?_⟩
  .have I:¬bU l:=by rw[<-H];exact W
   rw[dq (cs:=#[.slice ν 0 0]) Ψ];refine b4 (vs:=[.slice ν 0 0]) bq.i rfl rfl (by simp;rfl) (s.W y) ?_;intro ao Y ap Z;rw[fA bq.p bq.i rfl Z.range];exact⟨x.then Y (by rintro r z rfl;omega),λ_=>rfl,λh=>m7 h I,λh=>m7 h I⟩
  .have f:bU l:=by
    have K:¬(c=rs):=by simp[X]
    rw[H]at K;exact Classical.not_not.1 K
   have aq:=f.1;refine(jZ (h.W x) Ω).X ?_;rintro aO au _ ⟨A,ab,av,hm⟩;have L:=hm.ls.cells;rw[dq (cs:=#[aO]) (by obtain⟨_,_,_,_,_,rfl,_⟩:=hm.ls;kernel_rfl)];refine bu bq.i λgs aw ax B ac=>?_;refine b4 (vs:=[aO]) bq.i rfl rfl (by intro u e;simp at e;subst e;exact L.2) ac ?_;intro aA M aB N;rw[bC bq.p bq.i rfl N.range];have aC:=A.size;have aD:=B.size;have aE:=y.size;have aG:=(B.aa _).F M;have C:=B.then M (by rintro r z rfl;omega);have ad:=(x.F A).F C;have O:=hm.W C;refine(qR O.ls f).X ?_;rintro _ aH _ ⟨rfl,j⟩;have P:=ad.F j;have Q:=s.W (((y.F A).F C).F j);simp only[bG,aj];refine⟨λae=>?_,λaf=>?_⟩
   .rw[dq (cs:=#[.slice ν 0 0]) Ψ];refine b4 (vs:=[.slice ν 0 0]) bq.i rfl rfl (by simp;rfl) Q ?_;intro ag q ah E;rw[fA bq.p bq.i rfl E.range];exact⟨P.then q (by rintro r z rfl;omega),λh=>m7 f h,λ_ _=>rfl,λ_ h=>Ω⟩
   .rw[bC bq.p bq.i rfl (N.W j).range];refine b4 (vs:=[aO]) bq.i rfl rfl (by intro u e;simp at e;subst e;exact L.2) Q ?_;intro ag q ah E;rw[fA bq.p bq.i rfl E.range];have aI:=a.size;exact⟨P.then q (by rintro r z rfl;omega),λh=>m7 f h,λ_ h=>Ω,λ_ _=>⟨ab,aO,rfl,Ω,(O.W j).aa q Ω⟩⟩
 .intro az R;rw[aS ai.u (h.W a)];simp only[bG,aj];refine⟨λae=>R _ _ ⟨a,Ext.refl _,rs,rfl,?_⟩,λaf=>?_⟩
  .exact propext ⟨λ_ U=>by have:=U.1;omega,λ_=>rfl⟩
  .refine (LI (h.W a)).X ?_;rintro _ V _ ⟨rfl,S⟩;refine R _ _ ⟨a.F S,S,_,rfl,?_⟩;rw[rc];exact propext ⟨λG U=>G U.2,λG U=>G ⟨Ω,U⟩⟩
theorem xy{P:X2}(f:0<=a)(h1:a<4294967296):
  ab P (aQ .and t cx cy (.int .u64 a) (.int .u64 4294967295)) w K=K (.int .u64 a):=ab.of λI _=>by
 obtain⟨n,rfl⟩:=U8 f;have q:n<4294967296:=Ω
 have e:(U2 64 (n:Int) &&& U2 64 4294967295).toNat=n:=by
  rw[BitVec.toNat_and,BitVec.toNat_ofInt,BitVec.toNat_ofInt];have h:((n:Int) % ((2 ^ 64:Nat):Int)).toNat=n:=Ω
  have j:((4294967295:Int) % ((2 ^ 64:Nat):Int)).toNat=2 ^ 32-1:=Φ
  rw[h,j,Nat.and_two_pow_sub_one_eq_mod];omega
 have p:(U2 V9.bits (n:Int) &&& U2 V9.bits 4294967295).toNat=n:=e;simp only[aQ,eqGuard,binOp,Op.intBits,p];rw[lw Ω Ω];rfl
theorem sf{P:X2}(f:0<=a)(h1:a<4294967296):
  ab P (aQ .shr t cx cy (.int .u64 a) (.int .u64 32)) w K=K (.int .u64 0):=ab.of λI _=>by
 have e:a.fdiv (2 ^ min 32 V9.bits)=0:=by
  have:(2:Int) ^ min 32 V9.bits=4294967296:=rfl;rw[this,Int.fdiv_eq_ediv_of_nonneg _ Ω];omega
 simp[aQ,eqGuard,binOp,Op.shift,e]
theorem Ck{x:Int}(e:0<=x/\x<65536)(a:0<=y/\y<65536):
  ak x7 KU [.int .u64 x,.int .u64 y] w λv I=>v= .tuple #[.int .u64 0,.int .u64 (x*y)]/\Ext w I:=by
 have h:0<=x*y/\x*y<4294967296:=⟨Int.mul_nonneg e.1 a.1,by
  have:x*y<=65535*65535:=Int.mul_le_mul Ω Ω a.1 Ω;omega⟩
 refine ay func256 ?_;refine ak.X (K:=λv I=>v= .tuple #[.int .u64 0,.int .u64 (x*y)]/\Ext w I) ?_ ?_
 .refine ay func305 ?_;rw[xy Ω Ω,sf Ω Ω,xy Ω Ω,sf Ω Ω];simp only[fO,Int.zero_mul,Int.mul_zero];rw[lw Ω Ω,show V9.wrap 0=0 from rfl,sf Ω Ω];simp only[aL,Int.add_zero];rw[show V9.wrap 0=0 from rfl,xy Ω Ω,sf Ω Ω];simp only[fO,aL,Int.zero_mul,Int.mul_zero,Int.add_zero,show V9.wrap 0=0 from rfl];rw[sf Ω Ω];simp only[fO,aL,Int.add_zero,show V9.wrap 0=0 from rfl];exact⟨trivial,Ext.refl _⟩
 .rintro _ J _ ⟨rfl,f⟩;rw[bn,bo];exact⟨rfl,f⟩
theorem Cl{dG:x1}{c:Int}(h:aF .i64 w dG [c])(Y:n<65536):
  ak x7 Kz [dG,Δ n] w λv I=>Ext w I/\∃g,w.heap.size<=g/\an .i64 ao I g v (u9 n c):=by
 refine ay func230 ?_;refine dh (λJ=>w=J) ?_ ?_
 .rintro _ rfl;rw[aS au.u h,e9 ae.u ny.u,e9 ae.u ny.u,lw Ξ Ξ,lw Ω Ω];refine(Ck Ξ Ω).X ?_;rintro _ V _ ⟨rfl,y⟩;rw[bn,bo];have E:(([c].length:Int)*n)=(n:Int):=Ξ
  rw[E];refine dh (λa=>V=a) ?_ ?_
  .rintro _ rfl;rw[e9 ny.u ae.u,lm Ω Ω];refine jy au.u ao.i Ω Ω ?_;intro g Z aa G H;have z:=y.F G;have ab:=y.size;refine pz au.u ao.i H (λ_=>rfl) Ξ (h.W z) (ku _ _) ?_;intro ac K ad A;have L:=z.then K (by rintro r M rfl;omega);have st:over (ints .i64 (u9 n 0)) 0 ((ints .i64 [c]).take n)=ints .i64 (u9 (min 1 n) c++u9 (n-min 1 n) 0):=by
    rcases Nat.eq_zero_or_pos n with rfl|e
    .simp[over]
    .rw[o7 Θ,nG Θ];have:min 1 n=1:=Ω
     simp[this,ints]
   rw[st]at A;refine⟨λt f=>Ext w f/\∃i:Nat,t=Δ i/\i<=n/\(0<n->0<i)/\ag f g ao (ints .i64 (u9 i c++u9 (n-i) 0)),λt _=>n-(b0 t).toNat,
    ⟨L,min 1 n,Ξ,Ω,Ω,A⟩,?_⟩
   rintro _ f ⟨p,i,rfl,hi,af,q⟩;simp only[iu au.u,aP,aj,eu];refine⟨λN O s _ _=>?_,λah=>?_⟩
   .have N:i<n:=Ω
    have B:=q.W s;rw[eB au.u ao.i lL gX dU Ω Ω Ω,
     eB au.u ao.i iN mB dU Ω Ω Ω]
    have P:b5 O 1 (.slice (σ ⟨g,0,ν⟩) n n) n (ints .i64 (u9 i c++u9 (n-i) 0)):=(bW.full B (by simp<;>omega) (by simp[maxLen]<;>omega)).sl;have e:=P.part (l:=0) (h:=i) (m:=n) Ω Ω Ω Ω;have Q:((ints .i64 (u9 i c++u9 (n-i) 0)).drop (0*1)).take ((i-0)*1)=ints .i64 (u9 i c):=by
     simp[ints]
    rw[Q]at e;refine pz au.u ao.i B (o:=i) (λ_=>?_) (by simp<;>omega) e (ku _ _) ?_
    .rw[m6 Ω];simp[W0]
    .intro ai R al C;have am:=p.size;have ap:=s.size;have S:over (ints .i64 (u9 i c++u9 (n-i) 0)) i ((ints .i64 (u9 i c)).take (n-i))=ints .i64 (u9 (i+min i (n-i)) c++u9 (n-(i+min i (n-i))) 0):=by
      apply j9;intro j;rw[kt _ _ _ (by simp[ints]<;>omega)];simp only[ints,n9,List.map_replicate,List.getElem?_append,List.getElem?_take,List.getElem?_replicate,j6,List.length_replicate]
      repeat' split
      all_goals first|rfl|omega
     rw[S]at C;have U:min (i-0) (n-i)=min i (n-i):=Ω
     simp only[aL,U];have W:Y6.wrap ((i:Int)+((min i (n-i):Nat):Int))=((i+min i (n-i):Nat):Int):=by rw[lm Ω Ω];omega
     rw[W];refine⟨⟨(p.F s).then R (by rintro r M rfl;omega),_,rfl,Ω,Ω,C⟩,?_⟩;simp only[b0,u7];omega
   .have:i=n:=Ω
    subst this;rw[U1,List.replicate_zero,V2]at q;exact⟨p,g,Ω,an.of (bW.full q Ξ (by simp[maxLen];omega))⟩
  .intro az x;refine aV (λv a=>v= .bool sp/\V=a) ?_ ?_
   .rintro _ _ ⟨rfl,rfl⟩;rw[aW];exact x _ rfl
   .intro aq X;simp only[bG,aj];refine⟨λh=>Ω,λ_=>X _ _ ⟨?_,rfl⟩⟩;rw[pl];omega
 .intro az x;simp only[aP,aj];exact⟨λh=>Ω,λ_=>x _ rfl⟩
def li(v:x1)(r:Nat):Prop:=∃a n c,v= .slice (σ a) n c/\a.block=r
theorem bD{g:Nat}(h:an k e w g v l){r:Nat}(f:li v r):r=g/\g<w.heap.size:=by
 obtain⟨a,n,c,rfl,rfl⟩:=f;obtain⟨_,⟨h,_⟩|⟨cap,cs,h,j,_⟩⟩:=h
 .cases h
 .cases h;exact⟨rfl,j.lt⟩
theorem bl{g:Nat}(h:an k e w g v l)(a:af S w I)(f:∀r,li v r->¬S r):an k e I g v l:=by
 refine⟨h.1,h.2.imp id λ⟨cap,cs,h1,j,p⟩=>⟨cap,cs,h1,j.aa a (f g ⟨_,_,_,h1,rfl⟩),p⟩⟩
def cd(w:x3)(g a:Nat)(sv:x1)(szs:Λ)(k:Int)(cs:Λ):Prop:=
 (∃aY gs,ag w g cp [sv,Δ k,aY]/\an .i64 ae w gs sv szs/\an .i64 ao w a aY cs)/\(g≠a/\¬li sv a/\aB szs<=4096)/\bU szs/\cs.length=(aB szs).toNat
theorem cd.W{g e:Nat}{k:Int}{cs:Λ}(h:cd w g e sv szs k cs)(a:Ext w I):cd I g e sv szs k cs:=by
 obtain⟨⟨aY,gs,h1,f,j⟩,p⟩:=h;exact⟨⟨aY,gs,h1.W a,f.W a,j.W a⟩,p⟩
def Cm(w:x3)(l:Λ)(k a:Int)(v:x1)(I:x3):Prop:=
 Ext w I/\
  (¬bU l->v= .tuple #[.pointer ν,Δ 1])/\
  (bU l->4096<aB l->v= .tuple #[.pointer ν,Δ 5])/\
  (bU l->aB l<=4096->¬cK a k->v= .tuple #[.pointer ν,Δ 3])/\
  (bU l->aB l<=4096->cK a k->∃g e sv,v= .tuple #[Γ g,Δ 0]/\w.heap.size<=g/\w.heap.size<=e/\(∀r,li sv r->w.heap.size<=r)/\
   cd I g e sv l k (u9 (aB l).toNat a))
theorem sg{k A:Int}(h:aF .i64 w sv l):ak x7 xc [sv,Δ k,Δ A] w (Cm w l k A):=by
 refine ay func144 ?_;refine(Cj h).X ?_;rintro v J _ ⟨K,Z,aa,ac⟩;obtain⟨aO,e,rfl,ad,he⟩:∃(aO:x1)(e:Int),v= .tuple #[.agg #[aO],Δ e]/\aO.oneCell'=rs/\
   ((e=1/\¬bU l)\/(e=5/\bU l/\4096<aB l)\/(e=0/\bU l/\aB l<=4096/\∃g,w.heap.size<=g/\an .i64 ae J g aO l)):=by
  by_cases U:bU l
  .by_cases z:aB l<=4096
   .obtain⟨g,aO,rfl,h1,L⟩:=ac U z;exact⟨aO,0,rfl,L.ls.cells.2,.inr (.inr ⟨rfl,U,z,g,h1,L⟩)⟩
   .exact⟨_,_,aa U Ω,rfl,.inr (.inl ⟨rfl,U,Ω⟩)⟩
  .exact⟨_,_,Z U,rfl,.inl ⟨rfl,U⟩⟩
 rw[bn,bo];refine bu bq.i λaN V aP af ag=>?_;refine b4 (vs:=[aO]) bq.i rfl rfl (by intro u M;simp at M;subst M;exact ad) ag ?_;intro aQ ah aR ai;have N:=af.then ah (by rintro r j rfl;omega);have O:=K.F N;simp only[bz,aj];refine⟨λal=>⟨O,?_⟩,λaS=>?_⟩
 .rcases he with⟨rfl,B⟩|⟨rfl,U,z⟩|⟨rfl,_⟩
  .exact⟨λ_=>rfl,λh=>m7 h B,λh=>m7 h B,λh=>m7 h B⟩
  .exact⟨λh=>m7 U h,λ_ _=>rfl,λ_ h=>Ω,λ_ h=>Ω⟩
  .exact m7 rfl al
 .obtain⟨rfl,U,z,gs,aT,hm⟩:e=0/\bU l/\aB l<=4096/\∃g,w.heap.size<=g/\an .i64 ae J g aO l:=by
   rcases he with⟨rfl,B⟩|⟨rfl,U,z⟩|h
   .omega
   .omega
   .exact h
  have aU:=prod_bound U;refine lb.X ?_;rintro _ aV _ ⟨rfl,E⟩;have P:=O.F E;simp only[bA,bM];refine⟨λap=>⟨P,λh=>m7 U h,λ_ h=>Ω,λ_ _ _=>rfl,λ_ _ h=>by simp[h]at ap⟩,λaq=>?_⟩;have av:cK A k:=by simpa using aq
  simp only[ct,eu];intro Q G _ _;have aw:=P.F G;have C:=(N.F E).F G;have R:=(ai.W E).W G;rw[bC bq.p bq.i rfl R.range,bC bq.p bq.i rfl R.range];have s1:=K.size;have aW:=C.size;have S:((aB l).toNat:Int)=aB l:=Ω
  have W:∀{x:x3}{s:x1}{y:Nat},Ext Q x->Q.heap.size<=y->an .i64 ao x y s (u9 (aB l).toNat A)->
    ab x7 (Instr.build cp #[(0,.agg #[aO]),(1,Δ k),(2,s)]) x λax=>aD x7 (Instr.box cp ax) x λaz X=>Cm w l k A (.tuple #[az,Δ 0]) X:=by
   intro x s y q Y j;rw[dq (cs:=#[aO,Δ k,s]) (by
    obtain⟨_,_,_,_,_,rfl,_⟩:=j.ls;obtain⟨_,_,_,_,_,rfl,_⟩:=hm.ls;kernel_rfl)]
   refine bj λg X aX H aA=>?_;have aY:=q.size;have aC:li s y:=by
    obtain⟨aZ,⟨_,aE⟩|⟨cap,cs,rfl,_⟩⟩:=j
    .simp at aE;omega
    .exact⟨_,_,_,rfl,rfl⟩
   have a1:=(bD j aC).2;refine⟨(aw.F q).F H,λh=>m7 U h,λ_ h=>Ω,λ_ _ h=>m7 av h,λ_ _ _=>⟨g,y,aO,rfl,Ω,Ω,λr aG=>?_,⟨s,gs,aA,((hm.W C).W q).W H,j.W H⟩,⟨Ω,λaH=>?_,z⟩,U,Ξ⟩⟩
   .have:=(bD hm aG).1;omega
   .have:=bD hm aH;omega
  constructor
  .refine dl au.u ao.i rfl λdG am aI aJ a I=>⟨.inl a,?_⟩;refine(qR ((hm.W C).W a).ls U).X ?_;rintro _ aK _ ⟨rfl,f⟩;refine⟨.inl (a.F f),?_⟩;rw[<-S];refine(Cl (I.W f).ls Ω).X ?_;rintro s x _ ⟨q,y,Y,j⟩;have aL:=a.size;have aM:=f.size;exact⟨.inl ((a.F f).F q),W ((a.F f).F q) Ω j⟩
  .refine (qR (hm.W C).ls U).X ?_;rintro _ aI _ ⟨rfl,a⟩;refine⟨.inl a,?_⟩;refine dl au.u ao.i rfl λdG am aK aJ f I=>⟨.inl (a.F f),?_⟩;rw[<-S];refine(Cl I.ls Ω).X ?_;rintro s x _ ⟨q,y,Y,j⟩;have aL:=a.size;have aM:=f.size;exact⟨.inl ((a.F f).F q),W ((a.F f).F q) Ω j⟩
theorem oz{g:Nat}{a:List x1}{o:Nat}(h:ag w g e cs)(f:∀j v,a[j]?=σ v->cs[o+j]?=σ v):w.rangeAt g o a:=λj v p=>h.cell (f j v p)
theorem Cn{g f:Nat}{t:Λ}{k:Int}{cs:Λ}(h:cd w g f sv szs k cs)(q:aF .i64 w aO t):
  ak x7 KD [Γ g,aO] w λv I=>v=mE szs t/\Ext w I:=by
 obtain⟨⟨aY,gs,r,hm,s⟩,_,U,_⟩:=h;refine ay func235 ?_;rw[cV dp.u];simp only[l9,aW];rw[bS,aT cp.p rfl,bC (cs:=[sv]) bq.p bq.i rfl (oz r (by
  intro j v a
  match j,a with
  |0,a=>exact a))]
 refine(Ch hm.ls q U).X ?_;rintro _ J _ ⟨rfl,e⟩;unfold mE;cases cc szs t 0 with
 |none=>rw[bn,bo];exact⟨rfl,e⟩
 |some n=>rw[bn,bo];exact⟨rfl,e⟩
def sh(szs t cs:Λ):x1:=match cc szs t 0 with
 |some n=>.tuple #[Δ (cs.getD n.toNat 0),Δ 0]
 |none=>.tuple #[Δ 0,Δ 3]
theorem Co{t cs:Λ}{n:Int}(U:bU szs)(a:cs.length=(aB szs).toNat)(h:cc szs t 0=σ n):n=(n.toNat:Int)/\n.toNat<cs.length:=by
 have:=ky U.2 h;simp only[Int.zero_mul,Int.zero_add,Int.one_mul]at this;omega
theorem uA{g f:Nat}{t:Λ}{k:Int}{cs:Λ}(h:cd w g f sv szs k cs)(j:aF .i64 w aO t):
  ak x7 BK [Γ g,aO] w λv I=>v=sh szs t cs/\Ext w I:=by
 refine ay func186 ?_;refine(Cn h j).X ?_;rintro _ J _ ⟨rfl,a⟩;obtain⟨⟨aY,gs,q,hm,r⟩,_,U,s⟩:=h.W a;unfold mE sh;cases hi:cc szs t 0 with
 |none=>
  rw[bn,bo];simp only[bz,aj];exact⟨λ_=>⟨trivial,a⟩,λh=>by simp at h⟩
 |some n=>
  obtain⟨x,e⟩:=Co U s hi;rw[bn,bo];simp only[bz,aj];refine⟨λh=>m7 rfl h,λ_=>?_⟩;rw[aN cp.p 2 q rfl,
   ew x au.u ao.i Ψ r.ls (x6 e)]
  refine⟨?_,a⟩;rw[v8,x6 e];rfl
def qS(szs t:Λ)(k c:Int)(cs:Λ):Λ:=match cc szs t 0 with
 |some n=>if cK c k then cs.set n.toNat c else cs
 |none=>cs
def Cp(szs t:Λ)(k c:Int):Int:=match cc szs t 0 with
 |some _=>if cK c k then 0 else 3
 |none=>3
theorem Cq{g f:Nat}{t:Λ}{k c:Int}{cs:Λ}(h:cd w g f sv szs k cs)(C:aF .i64 w aO t):
  ak x7 JI [Γ g,aO,Δ c] w λv I=>v=Δ (Cp szs t k c)/\af (λr=>r=f) w I/\cd I g f sv szs k (qS szs t k c cs):=by
 refine ay func146 ?_;refine(Cn h C).X ?_;rintro _ J _ ⟨rfl,a⟩;have h1:=h.W a;obtain⟨⟨aY,gs,e,hm,j⟩,_,U,q⟩:=h1;unfold mE Cp qS;cases hi:cc szs t 0 with
 |none=>
  rw[bn,bo];simp only[bz,aj];exact⟨λ_=>⟨trivial,a.aa _,h.W a⟩,λh=>by simp at h⟩
 |some n=>
  obtain⟨P,Q⟩:=Co U q hi;rw[bn,bo];simp only[bz,aj];refine⟨λh=>m7 rfl h,λ_=>?_⟩;rw[aN cp.p 1 e rfl];refine lb.X ?_;rintro _ V _ ⟨rfl,s⟩;have y:=(h.W a).W s;by_cases z:cK c k
  .simp only[z,decide_true,bA,Y2,aW,if_true];obtain⟨⟨aY,gs,e,hm,j⟩,⟨E,A⟩,U,q⟩:=y;have R:=j;obtain⟨S,⟨rfl,W⟩|⟨cap,full,rfl,G,H,K,L,B⟩⟩:=j
   .omega
   .rw[aN cp.p 2 e rfl,
     B1 au.u ao.i Ω Ω (λ_=>rfl)]
    refine bw ao.i rfl rfl G Ω ?_;intro X x Y M;refine⟨trivial,((a.F s).aa _).F x,⟨_,gs,e.aa x Ω,bl hm x (λr N O=>A.1 (O▸N)),?_⟩,⟨E,A⟩,U,by simp[q]⟩;refine⟨Ξ,.inr ⟨cap,full.set (0+n.toNat*1) (Δ c),?_,M,by simpa using H,K,by simpa using L,?_⟩⟩
    .simp
    .simp only[U7,V0,V1]at B ⊢;rw[List.take_set,B,ints,ints,V5]
  .simp only[z,decide_false,bA,X1,bZ,if_false];exact⟨trivial,(a.F s).aa _,y⟩
def cY(b:Int):Bool:=decide (b=32\/b=9\/b=10\/b=13)
def b7(b:Int):Bool:=decide (33<=b/\b<=126)
def pC:Nat->Λ->List (Λ)×Bool
 |0,_=>([],rs)
 |n+1,p=>
  match p.dropWhile cY with
  |[]=>([],rs)
  |b::q=>
   if b7 b then
    match(b::q).dropWhile b7 with
    |[]=>([(b::q).takeWhile b7],rs)
    |c::r=>if cY c then(((b::q).takeWhile b7)::(pC n (c::r)).1,(pC n (c::r)).2)else([],sp)
   else([],sp)
def lex(p:Λ):List (Λ)×Bool:=pC (p.length+1) p
theorem qT(f:Int->Bool):∀(l:Λ),(l.dropWhile f).length<=l.length
 |[]=>o5 _
 |x::l=>by
  rw[List.dropWhile_cons];split
  .exact Y1 (qT f l) (Nat.le_succ _)
  omega
theorem uB{f:Int->Bool}{x:Int}(h:f x=rs):((x::l).dropWhile f).length<=l.length:=by
 grind [List.dropWhile_cons,qT]
theorem Cr:∀{n m:Nat}{p:Λ},p.length<n->p.length<m->pC n p=pC m p
 |n+1,m+1,p,j,hm=>by
  unfold pC;have h1:=qT cY p;cases f:p.dropWhile cY with
  |nil=>rfl
  |cons b q=>
   rw[f]at h1;simp only;by_cases a:b7 b=rs
   .rw[m5 a,m5 a];have e:=uB (l:=q) a;cases h:(b::q).dropWhile b7 with
    |nil=>rfl
    |cons c r=>
     rw[h]at e;simp only[Y4]at h1 e;simp only;rw[Cr (n:=n) (m:=m) (p:=c::r) (by grind) (by grind)]
   grind
theorem mF(p:Λ):lex p=match p.dropWhile cY with
  |[]=>([],rs)
  |b::q=>
   if b7 b then
    match(b::q).dropWhile b7 with
    |[]=>([(b::q).takeWhile b7],rs)
    |c::r=>if cY c then(((b::q).takeWhile b7)::(lex (c::r)).1,(lex (c::r)).2)else([],sp)
   else([],sp):=by
 unfold lex
 conv=>lhs;unfold pC
 have h1:=qT cY p;cases a:p.dropWhile cY<;>grind [uB,Cr]
theorem si:∀(n:Nat)(p:Λ),p.length<=n->(lex p).1.length<=p.length
 |n,p,s=>by
  rw[mF];have h1:=qT cY p;cases f:p.dropWhile cY with
  |nil=>simp
  |cons b q=>
   rw[f]at h1;simp only;by_cases a:b7 b=rs
   .rw[m5 a];have e:=uB (l:=q) a;cases h:(b::q).dropWhile b7 with
    |nil=>grind
    |cons c r=>
     rw[h]at e;simp only[Y4]at h1 e;simp only;by_cases j:cY c=rs
     .rw[m5 j]
      match n with
      |0=>omega
      |n+1=>
       have:=si n (c::r) (by grind)
       grind
     grind
   grind
theorem uC:∀(n:Nat)(p:Λ),p.length<=n->∀w∈(lex p).1,w≠[]/\(∀b∈w,b7 b=rs)/\w.length<=p.length
 |n,p,y,w,hw=>by
  rw[mF]at hw;have h1:=qT cY p;cases f:p.dropWhile cY with
  |nil=>grind
  |cons b q=>
   rw[f]at h1 hw;simp only at hw;have z:(b::q).length<=p.length:=h1;by_cases a:b7 b=rs
   .rw[m5 a]at hw;have e:=uB (l:=q) a;have h:(b::q).takeWhile b7≠[]/\(∀x∈(b::q).takeWhile b7,b7 x=rs)/\((b::q).takeWhile b7).length<=p.length:=
     by grind [List.takeWhile_cons,List.all_takeWhile,List.takeWhile_sublist]
    cases j:(b::q).dropWhile b7 with
    |nil=>
     grind
    |cons c r=>
     rw[j]at e hw;simp only[Y4]at h1 e;simp only at hw;by_cases s:cY c=rs
     .rw[m5 s]at hw;rcases List.mem_cons.1 hw with rfl|hw
      .exact h
      .match n with
       |0=>omega
       |n+1=>
        have:=uC n (c::r) (by grind) w hw
        grind
     grind
   grind
def ax:Int:=4611686018427387904
def gG(b:Int):Bool:=decide (48<=b/\b<=57)
def fC(n b:Int):Int:=min ax (10*n+(b-48))
def lQ:Λ->Option Int
 |[]=>ν
 |l=>if l.all gG then σ (l.foldl fC 0)else ν
def ic:Λ->Option Int
 |45::l=>(lQ l).map λn=>-n
 |l=>lQ l
theorem xz:∀{l:Λ}{n:Int},l.all gG=rs->0<=n/\n<=ax->0<=l.foldl fC n/\l.foldl fC n<=ax
 :=by
 intro a;induction a<;>grind [gG,fC]
structure aH where
 d8:List (Λ)
 m1:Int
 big:Bool
 m2:List (Λ×List (Λ×Int))
deriving DecidableEq
def dW(s:aH):Option (Λ×aH):=match s.d8 with
 |[]=>ν
 |w::l=>σ (w,{s with d8:=l})
def bh(lo hi:Int)(s:aH):Option (Int×aH):=match dW s with
 |none=>ν
 |some (w,s)=>match ic w with
  |none=>ν
  |some n=>if lo<=n/\n<=hi then σ (n,s)else ν
def bg(b:Bool)(s:aH):aH:={s with big:=s.big||b}
def dc{α:Type}(f:List α->aH->Option (α×aH)):Nat->List α->aH->Option (List α×aH)
 |0,acc,s=>σ (acc,s)
 |n+1,acc,s=>match f acc s with
  |none=>ν
  |some (a,s)=>dc f n (acc++[a]) s
def fg(n:Int)(a:Nat)(s:aH):Option (Λ×aH):=dc (λacc s=>match bh 0 (n-1) s with
 |none=>ν
 |some (v,s)=>if v∈acc then ν else σ (v,s)) a [] s
def kz:Λ->Λ->aH->Option (Λ×aH)
 |[],acc,s=>σ (acc,s)
 |k::l,acc,s=>match bh 0 (k-1) s with
  |none=>ν
  |some (v,s)=>kz l (acc++[v]) s
def eR(co:Λ)(acc:List (Λ×Int))(s:aH):Option ((Λ×Int)×aH):=match kz co [] s with
 |none=>ν
 |some (t,s)=>match bh 0 ax s with
  |none=>ν
  |some (c,s)=>if t∈acc.map (·.1)then ν else σ ((t,c),s)
def eb(co:Λ)(s:aH):Option (List (Λ×Int)×aH):=match bh (-ax) ax s with
 |none=>ν
 |some (n,s)=>
  if n<0 then match s.m2[(-n-1).toNat]? with
   |none=>ν
   |some (z,l)=>if z=co then σ (l,s)else ν
  else dc (eR co) n.toNat [] (bg (decide (16384<min (s.m1+n) ax)) {s with m1:=min (s.m1+n) ax})
def dH(co:Λ):Bool:=decide (4096<aB (co.map λk=>min k 4097))
structure cv where
 scope:Λ
 co:Λ
 other:Int
 lines:List (Λ×Int)
deriving DecidableEq
def du(all:Λ)(s:aH):Option (cv×aH):=match bh (-ax) ax s with
 |none=>ν
 |some (a,s)=>match fg all.length a.natAbs s with
  |none=>ν
  |some (scope,s)=>
   let co:=scope.map λv=>all.getD v.toNat 0
   match bh 0 ax (bg (decide (6<a.natAbs)||dH co) s)with
   |none=>ν
   |some (other,s)=>match eb co s with
    |none=>ν
    |some (lines,s)=>σ (⟨scope,co,other,lines⟩,if a<0 then{s with m2:=s.m2++[(co,lines)]}else s)
def gH(most:Int)(_:Λ)(s:aH):Option (Int×aH):=match bh 1 most s with
 |none=>ν
 |some (z,s)=>σ (z,bg (decide (32<z)) s)
structure ca where
 name:Λ
 k:Int
 co:Λ
 d7:List cv
deriving DecidableEq
def jB(s:aH):Option (ca×aH):=match dW s with
 |none=>ν
 |some (name,s)=>match bh 1 ax (bg (decide (64<name.length)) s)with
  |none=>ν
  |some (n,s)=>match bh 1 ax (bg (decide (64<n)) s)with
   |none=>ν
   |some (most,s)=>match bh 0 ax s with
    |none=>ν
    |some (count,s)=>match bh 1 ax (bg (decide (256<count)) s)with
     |none=>ν
     |some (k,s)=>match dc (gH most) n.toNat [] (bg (decide (2147483648<k)) s)with
      |none=>ν
      |some (co,s)=>match dc (λ_ s=>du co s) count.toNat [] s with
       |none=>ν
       |some (d7,s)=>σ (⟨name,k,co,d7⟩,s)
def ie(p:Λ):Option ca:=if 65536<p.length then ν else match jB ⟨(lex p).1,0,sp,[]⟩with
 |none=>ν
 |some (f,s)=>if s.d8=[]/\(lex p).2=rs/\s.big=sp then σ f else ν
def oA(n:Int)(a:Bool)(v:Int):Prop:=0<=n/\n<=4611686018427387909/\(a=rs->v=ax)/\(a=sp->v=min ax n)
theorem LK{n b v:Int}{a:Bool}(h:oA n a v)(e:48<=b/\b<=57):
  oA (if a=rs\/461168601842738790<n then n else 10*n+(b-48)) (a||decide (461168601842738790<n)) (fC v b):=by
 obtain⟨h1,f,j,p⟩:=h;unfold fC oA ax at*;cases a<;>grind
theorem LL:oA 0 sp 0:=by grind [oA,ax]
theorem LM{n v:Int}{a:Bool}(h:oA n a v):v=if a=rs\/4611686018427387904<n then 4611686018427387904 else n:=by
 obtain⟨h1,e,f,j⟩:=h
 grind [ax]
structure Cell where
 v:Int
 st:Nat
structure mG where
 i:Nat
 c:Cell
structure uD where
 olds:Nat
 cells:Nat
 st:Nat
structure aw where
 cells:List Cell
 olds:List mG
 marks:List uD
 kA:Nat
def aw.bP(t:aw):Λ:=t.cells.map (·.v)
def aw.set(t:aw)(i:Nat)(x:Int):aw:=match t.cells[i]? with
 |none=>t
 |some c=>match t.marks.getLast? with
  |none=>{t with cells:=t.cells.set i ⟨x,c.st⟩}
  |some m=>if c.st<m.st/\i<m.cells then{t with olds:=t.olds++[⟨i,c⟩],cells:=t.cells.set i ⟨x,m.st⟩}else{t with cells:=t.cells.set i ⟨x,c.st⟩}
def aw.grow(t:aw)(n:Nat):aw:={t with cells:=t.cells++u9 n ⟨0,0⟩}
def back(os:List mG)(cs:List Cell):List Cell:=os.foldr (λo cs=>cs.set o.i o.c) cs
theorem LN:∀(os:List mG)(cs:List Cell),(back os cs).length=cs.length
 :=by
 intro a;induction a<;>grind [back]
theorem back_append(a b:List mG)(cs:List Cell):back (a++b) cs=back a (back b cs):=by grind [back]
theorem LO:∀{os:List mG}{cs:List Cell}{n:Nat},(back os cs).take n=back (os.filter λo=>decide (o.i<n)) (cs.take n)
 :=by
 intro a;induction a<;>grind [back,List.take_set,List.take_set_of_le]
theorem LP{os:List mG}{cs:List Cell}(h:∀o∈os,o.i<n):(back os cs).take n=back os (cs.take n):=by
 grind [LO,List.filter_eq_self]
theorem Cs:∀{os:List mG}{cs a:List Cell}{i:Nat},cs.length=a.length->(∃o∈os,o.i=i)->(back os cs)[i]?=(back os a)[i]?
 |[],_,_,_,_,⟨_,h,_⟩=>by cases h
 |o::os,cs,a,i,f,hm=>by
  show((back os cs).set o.i o.c)[i]?=((back os a).set o.i o.c)[i]?;rw[Y8,Y8];by_cases h:o.i=i
  .grind [LN]
  .rw[m6 h,m6 h];obtain⟨x,e,he⟩:=hm;rcases List.mem_cons.1 e with rfl|e
   .omega
   .exact Cs f ⟨x,e,he⟩
theorem LQ:∀{os:List mG}{cs e:List Cell}{i:Nat},cs[i]?=e[i]? ->cs.length=e.length->(back os cs)[i]?=(back os e)[i]?
 :=by
 intro a;induction a<;>grind [back]
def gI:aw->List aw->Prop
 |t,[]=>t.marks=[]/\t.olds=[]/\(∀c∈t.cells,c.st<=t.kA)/\t.kA<=1000000
 |t,s::h=>gI s h/\(∀c∈t.cells,c.st<=t.kA)/\∃m new,t.marks=s.marks++[m]/\m.olds=s.olds.length/\m.cells=s.cells.length/\t.olds=s.olds++new/\m.cells<=t.cells.length/\(back new t.cells).take m.cells=s.cells/\
   (∀c∈s.cells,c.st<m.st)/\(∀c∈t.cells,c.st<=m.st)/\(∀(i:Nat)c,i<m.cells->t.cells[i]?=σ c->c.st=m.st->∃o∈new,o.i=i)/\(∀o∈new,o.i<m.cells)/\m.st<=t.kA/\s.kA<=t.kA
theorem gI.len:∀{h:List aw}{t:aw},gI t h->t.marks.length=h.length
 :=by
 intro a;induction a<;>grind [gI]
theorem gI.grow{h:List aw}{t:aw}(hk:gI t h):gI (t.grow n) h:=by
 cases h with
 |nil=>
  refine⟨hk.1,hk.2.1,λc a=>?_,hk.2.2.2⟩;rcases o9.1 a with a|a
  .exact hk.2.2.1 c a
  grind
 |cons s h=>
  obtain⟨h1,f,m,new,j,p,a3,a4,a5,z,q,r,a9,w,x,y⟩:=hk;have e:∀{b:Nat},(∀c∈t.cells,c.st<=b)->∀c∈(t.grow n).cells,c.st<=b:=λA c a=>by
   rcases o9.1 a with a|a
   all_goals grind
  refine⟨h1,e f,m,new,j,p,a3,a4,by show m.cells<=(t.cells++_).length;grind,?_,q,e r,λi c hi a he=>?_,w,x,y⟩
  .show (back new (t.cells++_)).take m.cells=_
   grind [LP]
  .have a:(t.cells++u9 n ⟨0,0⟩)[i]?=σ c:=a
   grind
theorem LR{s:aw}{m:uD}{l:List uD}(h:l=s.marks++[m]):l.getLast? =σ m:=by grind
theorem gI.set{h:List aw}{t:aw}{i:Nat}{x:Int}(hk:gI t h):gI (t.set i x) h:=by
 unfold aw.set;cases w:t.cells[i]? with
 |none=>exact hk
 |some c=>
  have K:=(x4.1 w).1;have f:=x5 w;have e:∀{b st:Nat},(∀c∈t.cells,c.st<=b)->st<=b->∀d∈t.cells.set i ⟨x,st⟩,d.st<=b:=by grind
  cases h with
  |nil=>
   obtain⟨h1,a,y,F⟩:=hk;simp only[h1,List.getLast?_nil];exact⟨rfl,a,e y (y c f),F⟩
  |cons s h=>
   obtain⟨h1,a,m,new,p,z,a3,a4,a5,G,A,B,a9,H,q,C⟩:=hk;simp only[LR p];by_cases E:c.st<m.st/\i<m.cells
   .rw[m5 E];refine⟨h1,e a q,m,new++[⟨i,c⟩],p,z,a3,by grind,by grind,?_,A,by grind,λj d I r he=>?_,λo L=>?_,q,C⟩
    .show (back (new++[⟨i,c⟩]) (t.cells.set i _)).take m.cells=_;rw[back_append];have:back [⟨i,c⟩] (t.cells.set i ⟨x,m.st⟩)=t.cells:=by
      show(t.cells.set i _).set i c=_;rw[List.set_set];refine j9 λj=>?_
      grind
     grind
    .have r:(t.cells.set i ⟨x,m.st⟩)[j]?=σ d:=r;by_cases J:i=j
     .exact⟨⟨i,c⟩,Ξ,J⟩
     grind
    grind
   .rw[m6 E];refine⟨h1,e a (a c f),m,new,p,z,a3,a4,by grind,?_,A,e B (B c f),λj d I r he=>?_,H,q,C⟩
    .rw[<-G];show(back new (t.cells.set i _)).take m.cells=_;refine j9 λj=>?_
     grind [Cs,LQ]
    grind
theorem aw.qU{t:aw}{i:Nat}{x:Int}:(t.set i x).bP=t.bP.set i x:=by
 grind [aw.set,aw.bP,List.set_eq_of_length_le,V5]
theorem aw.LS{t:aw}:(t.grow n).bP=t.bP++u9 n 0:=by
 grind [aw.grow,aw.bP,List.map_replicate]
end Go.Proofs.YtkcigodpbndobaaGreatDoor
namespace Go.Vc
open Go Go.RowKit
section
variable{P:X2}{w:x3}{m:Bool}{S R:ah}
theorem uE{b k l:Nat}{low high:Option x1}(j:P.underlying t=σ (.slice e))(hi:aR P e k b z)(a:b5 w k v n cs)(h1:nD low l)(p:nE high n h)(q:l<=h)(ap:h<=n)(r:∀f,b5 w k f (h-l) ((cs.drop (l*k)).take ((h-l)*k))->K f):
  ab P (V6 t v low high ν) w K:=by
 have s:=a;obtain⟨_,x,o,base,cap,rfl,y,_⟩:=a;rw[eB j hi h1 p dU q Ω (o5 _)]
 grind [b5.part]
theorem uF{b i:Nat}(j:y=(i:Int))(p:P.underlying t=σ (.slice e))(hi:aR P e 1 b z)(h:aF k w v l)(q:i<=l.length)(r:∀a,aF k w a (l.drop i)->K a):ab P (V6 t v (σ (.int f y)) ν ν) w K:=by
 refine uE p hi h (mA i y j) gX q (o5 _) λa bf=>r a (aF.of (n:=l.length-i) ?_)
 grind [o7,List.map_drop]
theorem LU{b i:Nat}(j:y=(i:Int))(p:P.underlying t=σ (.slice e))(hi:aR P e 1 b z)(h:aF k w v l)(q:i<=l.length)(r:∀a,aF k w a (l.take i)->K a):ab P (V6 t v ν (σ (.int f y)) ν) w K:=by
 refine uE p hi h iN (nF i y j) (X8 _) q λa bf=>r a (aF.of (n:=i) ?_)
 grind [S0]
theorem sj{b:Nat}{parts:Array (Nat×x1)}{K:x1->x3->Prop}(a:P.underlying t=σ (.slice e))(hi:aR P e 1 b (Δ 0))(x:n<=100000)(f:l.length=n)(h:Instr.fill (λj=>σ (j*1,1)) ((Array.range (n*1)).map ((if n*1=0 then#[]else(Y9 .i64 0).cells)[·% (if n*1=0 then#[]else(Y9 .i64 0).cells).size]!)) parts.toList=σ (ints .i64 l).toArray)(p:∀v g I,g=w.heap.size->Ext w I->an .i64 e I g v l->K v I):aD P (Z3 t n parts) w K:=
 lM a hi Ω h λg I q r s=>p _ g I q r (an.of (bW.full (by simpa using s) (by simp[f]) (by simp[maxLen];omega)))
end
section
variable{P:X2}{w:x3}
theorem Ct{a f:r8}{h kn:o4}{b k:Nat}{base:Option S6}{K:x1->x3->Prop}(r:y=(k:Int))(s:P.underlying t=σ (.slice e))(x:P.underlying a=σ (.int kn))(hi:aR P e 1 b z)(A:z.cells= #[z])(U:b5 w 1 (.slice base n cap) n xs)(B:0<k)(p:cap<n+k)(C:(n+k)*b<=140737488355328)(S:n+k<=9223372036854775807)(E:∀v g I,g=w.heap.size->Ext w I->bW I g e 1 v (n+k) (xs++u9 k z)->K v I):aD P (j4 #[t,a] f #[.slice base n cap,.int h y]) w K:=by
 subst r;obtain⟨i,hi,T,rfl,F⟩:=hi;obtain⟨V,W,o,X,Y,he,Z,aa,G,H⟩:=U;cases he;have J:(j5.firstCells i.size n (.slice base n cap)).run P w.drew= .ok xs.toArray w.drew:=by
  rcases Nat.eq_zero_or_pos n with rfl|L
  .have:xs=[]:=by grind
   subst this;cases base<;>grind [run_firstCells_none,run_firstCells_some]
  .have:=G L;subst this;refine run_firstCells_some w.drew i.size n _ n cap xs (by grind) λj u M=>?_;rw[W0];exact H j u M
 have N:k*i.bytes<=281474976710656:=by
  grind
 have O:=Lib.run_append_grow_zeros (P:=P) w t a f e i z h kn s x hi F base n cap xs J k B Ω p Ω N (growslice_fits p C);have Q:n+k<=grownCap w (n+k) cap e:=grownCap_ge w _ _ _;have R:grownCap w (n+k) cap e<=maxLen:=by grind [grownCap_le_maxLen,maxLen]
 have q:∀m,S1 z.cells m=(u9 m z).toArray:=λm=>by
  rw[A];apply Array.ext
  all_goals grind [S1]
 refine .of O ((qu w _ (Nat.le_succ _)).F (qw _ _)) (E _ w.heap.size _ rfl ((rR w _).F (qv _ _)) ⟨by grind,.inr ⟨_,xs++u9 k z++u9 (grownCap w (n+k) cap e-(n+k)) z,rfl,?_,Q,R,?_,?_⟩⟩)
 .rw[q,q];have:=heap_alloc_new w.drew (.cells (xs.toArray++(u9 k z).toArray++(u9 (grownCap w (n+k) cap e-(n+k)) z).toArray) e);rw[List.append_toArray,List.append_toArray]at this ⊢;exact this
 all_goals grind
theorem Cu{g:Nat}(h:ag w g e cs):w.shape? g=σ (e,cs.length):=by
 grind [ag,x3.shape?]
theorem xA{a:r8}{base:Option S6}(f:P.underlying t=σ (.slice e)):
  ab P (j5.cap_ #[t] a #[.slice base n c]) w K=K (Δ c):=ab.of λI _=>by simp[j5.cap_,run_underlying f,goInt]
theorem Cv{g o k:Nat}(h:ag w g e cs)(hk:o+k<=cs.length)(f:k<=c)(p:c<=maxLen):b5 w 1 (.slice (σ ⟨g,o,ν⟩) k c) k ((cs.drop o).take k):=by
 refine⟨Θ,g,o,_,c,rfl,f,p,λ_=>rfl,λj v a=>?_⟩;have q:=(x4.1 a).1;simp at q;rw[Y3 Ω,List.getElem?_drop]at a;exact h.cell a
theorem LV{f p q:r8}{J g o ea s:Nat}{x:x1}{base:Option S6}{C:r8}{K:x1->x3->Prop}(E:P.underlying f=σ (.slice e))(hi:aR P e 1 J z)(a:ag w g C cs)(L:0<ea->base=σ ⟨g,o,ν⟩)(X:o+ea<=cs.length)(U:b5 w 1 x n xs)(h1:∀u∈xs.take ea,u.oneCell'=rs)(h:∀I,af (λr=>r=g) w I->I.heap.size=w.heap.size->ag I g C (over cs o (xs.take ea))->K (Δ (min n ea:Nat)) I):
  aD P (j5.copy_ #[f,p] q #[.slice base ea s,x]) w K:=by
 obtain⟨M,b,o',N,cap,rfl,_,_,O,Q⟩:=U;simp only[V1]at M;have F:(P.info? e).map (·.size)=σ 1:=hi.size;by_cases y:Nat.min n ea=0
 .have he:xs.take ea=[]:=by grind
  rw[he]at h;refine .of (run_copy_none (P:=P) w f p q e base N ea s n cap E F y) (cA.refl _) ?_;have G:min n ea=0:=y;rw[G]at h;exact h w (af.refl _ _) rfl a
 .have G:min n ea≠0:=y;have R:=O Ω;have S:=L Ω;subst R;subst S;have H:(xs.take ea).length=min n ea:=by grind
  obtain⟨T,A⟩:=nH (xs.take ea) cs o w a;have V:=run_copy_cells (P:=P) w f p q e g o ea s ⟨b,o',ν⟩ n cap (xs.take ea) E F H
   (λj u B=>by
    rw[W0];have W:=(x4.1 B).1;rw[Y3 Ω]at B;exact Q j u B)
   (λj W=>by rw[a.cell (x6 Ω)];rfl) (λj _=>a.frozen _ _) Ω
  refine .of V (A.cB a) ?_;rw[H];exact h _ A.aa A.size T
theorem LW{a p B q:r8}{C g m:Nat}{x:x1}{K:x1->x3->Prop}(E:P.underlying t=σ (.slice e))(s:P.underlying a=σ (.slice B))(hi:aR P e 1 C z)(f:ag w g q cs)(U:b5 w 1 x m news)(h1:∀u∈news,u.oneCell'=rs)(F:n+m<=cap)(M:cap<=cs.length)(G:∀I,af (λr=>r=g) w I->I.heap.size=w.heap.size->ag I g q (over cs n news)->K (.slice (σ ⟨g,0,ν⟩) (n+m) cap) I):aD P (j4 #[t,a] p #[.slice (σ ⟨g,0,ν⟩) n cap,x]) w K:=by
 obtain⟨i,hi,y,rfl,N⟩:=hi;have H:news.length=m:=by simpa using U.1
 have J:Src P i.size a x m news w:=by
  rw[y];rcases Nat.eq_zero_or_pos m with rfl|hm
  .have:news=[]:=c9 H;subst this;exact U.B5 s
  .exact U.src s h1 hm
 have A:=run_append_room_src (P:=P) w t a p e i E hi g 0 n cap x m news J F
  (λj O=>by rw[f.cell (x6 (by grind))];rfl) (λj _=>f.frozen _ _)
 rw[y,V1,V0]at A;obtain⟨L,h⟩:=nH news cs n w f;exact .of A (h.cB f) (G _ h.aa h.size L)
theorem xB{h p:r8}{q g o:Nat}{K:x1->x3->Prop}(s:P.underlying t=σ (.slice e))(hi:aR P e 1 q z)(x:z.cells= #[z])(h1:z.oneCell'=rs)(a:ag w g p cs)(y:0<n)(F:o+n<=cs.length)(A:∀I,af (λr=>r=g) w I->I.heap.size=w.heap.size->ag I g p (over cs o (u9 n z))->K (.tuple #[]) I):aD P (j5.clear_ #[t] h #[.slice (σ ⟨g,o,ν⟩) n cap]) w K:=by
 obtain⟨i,hi,G,rfl,B⟩:=hi;have C:=Lib.run_clear_slice (P:=P) w t e h z s (λw=>by simp[zeroValue,typeInfo,hi,B]) x h1 g o n cap y
  (λj H=>by rw[a.cell (x6 Ω)];rfl) (λj _=>a.frozen _ _)
 obtain⟨E,f⟩:=nH (u9 n z) cs o w a;exact .of C (f.cB a) (A _ f.aa f.size E)
end
section
variable{P:X2}{w:x3}
theorem gb{a:r8}{i b g:Nat}(j:y=(i:Int))(p:P.underlying t=σ (.slice e))(hi:aR P e 1 b z)(h:an k a w g v l)(q:i<l.length):ab P (j0 t v (.int f y)) w K=K (.pointer (σ ⟨g,i,ν⟩)):=by
 subst j;obtain⟨_,⟨_,r⟩|⟨cap,cs,rfl,_⟩⟩:=h
 .omega
 .rw[fs p hi q (λ_=>rfl)];simp
theorem pD{i b:Nat}{x:Int}(j:y=(i:Int))(p:P.underlying t=σ (.slice e))(hi:aR P e 1 b z)(h:aF k w v l)(a:l[i]?=σ x)(q:∀b o,w.cell? ⟨b,o,ν⟩=σ (.int k x)->K (.pointer (σ ⟨b,o,ν⟩))):ab P (j0 t v (.int f y)) w K:=by
 subst j;have r:=(x4.1 a).1;obtain⟨_,_,_,_,_,rfl,_,_,s,A⟩:=h;rw[fs p hi r s,V1];exact q _ _ (A i _ (mC a))
theorem gd{a:r8}{i b g:Nat}{x:Int}{K:Unit->x3->Prop}(hi:aR P e 1 b z)(h:an k a w g v l)(A:i<l.length)(f:∀I,af (λr=>r=g) w I->I.heap.size=w.heap.size->an k a I g v (l.set i x)->K () I):aD P (o6 e (.pointer (σ ⟨g,i,ν⟩)) (.int k x)) w K:=by
 obtain⟨B,⟨_,C⟩|⟨cap,full,rfl,j,E,p,F,G⟩⟩:=h
 .omega
 .have q:i<full.length:=Ω
  refine bw hi rfl rfl j q λI s U y=>f I s U ⟨Ξ,.inr ⟨cap,full.set i (.int k x),Ξ,y,by grind,p,by grind,?_⟩⟩
  grind [List.take_set,V5]
theorem mH{b o:Nat}(a:k9 P t=rs)(h:w.cell? ⟨b,o,ν⟩=σ v):cC P (u4 t (.pointer (σ ⟨b,o,ν⟩))) v w:=λI f=>by
 have bf:=jV f h;unfold k9 at a;cases e:P.underlying t with
 |none=>grind
 |some d=>
  rw[e]at a;cases d<;>first|(cases a;done)|simp[u4,Instr.sureAddr,loadVar,isAgg,run_underlying e,bf]
theorem jg{S:ah}(h:aF k w v l)(x:af S w I)(y:∀r,S r->∀a n c,v= .slice (σ a) n c->a.block≠r):aF k I v l:=by
 obtain⟨h1,b,o,base,cap,rfl,p,q,e,z⟩:=h;refine⟨h1,b,o,base,cap,rfl,p,q,e,?_⟩;rcases Nat.eq_zero_or_pos l.length with f|f
 .intro j u A
  grind
 .have s:=e f;subst s
  grind [gW]
end
end Go.Vc
namespace Go.Vc
open Go Go.RowKit Go.ChangeShapes Go.WideShapes
structure oB(P:X2)(t:r8)(α:Type)[aq α](G:α->Prop):Prop where
 op:∀{H:Type}{enc:r8×x1->H}{w:x3}{base:Nat}{spare:Nat->Bool}{held:Bool}{fuel:Nat}{cs:List x1}{x:DataW H×List MemPlace},
  DataW.trod enc P w base spare held fuel t cs=σ x->∃a:α,Seen ff w cs a/\G a
section
variable{P:X2}{α β:Type}[aq α][aq β]
theorem Cw{n:Int}(h:(Lit.int k n).wf=rs):k.min<=n/\n<=k.max:=by grind [Lit.wf]
theorem LX(a:P.underlying t=σ (.int k)):oB P t (nJ k) λn=>k.min<=n.val/\n.val<=k.max:=⟨λh=>by
 obtain⟨n,rfl,_,hw⟩:=DataW.trod_int a h;exact⟨(n:Int),rfl,Cw hw⟩⟩
theorem uG(a:P.underlying t=σ (.int .i64)):oB P t Int λn=>Y6.min<=n/\n<=Y6.max:=⟨λh=>by
 obtain⟨n,rfl,_,hw⟩:=DataW.trod_int a h;exact⟨n,rfl,Cw hw⟩⟩
theorem LY(a:S6)(m n:Nat):(a.add m).add n=a.add (m+n):=by
 grind [S6.add]
theorem LZ{base:Nat}{a:S6}(h:w.cells? base a n=σ cs):cs.length=n/\∀j v,cs[j]?=σ v->w.cell? (a.add j)=σ v:=by
 unfold x3.cells? at h;split at h
 .have e:cs.length=n:=by
   have:=mapM_some_length h
   grind
  refine⟨e,λj v f=>?_⟩;have p:=(x4.1 f).1;have:=mapM_some_get h j j (List.getElem?_range Ω)
  grind
 .cases h
theorem L0{G:α->Prop}(E:P.underlying t=σ (.slice e))(he:oB P e α G)(F:P.cellsOf e=aq.n α)(N:0<aq.n α):oB P t (List α) λl=>∀a∈l,G a:=by
 constructor;intro H enc w base O Q fuel cs x h;rcases DataW.trod_slice E h with⟨rfl,_⟩|⟨a,len,cap,R,rest,n,_,rfl,rfl,S,T,hm,U,I,_,_⟩
 .exact⟨[],iw,by grind⟩
 .
  have A:∀i,i<len->∃(c:List x1)(y:α),c.length=aq.n α/\(∀j v,c[j]?=σ v->w.cell? (a.add (i*aq.n α+j))=σ v)/\Seen ff w c y/\G y:=by
   intro i hi;have h1:=I i hi;rw[x6 Ω,F,Option.bind_eq_some_iff]at h1;obtain⟨c,f,p⟩:=h1;obtain⟨B,q⟩:=LZ f;obtain⟨y,r,V⟩:=he.op p
   grind [LY]
  have all:∀m,m<=len->∃(vs:List (List x1))(l:List α),vs.length=m/\l.length=m/\(∀c∈vs,c.length=aq.n α)/\(∀(j:Nat)(v:x1),vs.flatten[j]?=σ v->w.cell? (a.add j)=σ v)/\
    (∀(i:Nat)(c:List x1)(y:α),vs[i]?=σ c->l[i]?=σ y->Seen ff w c y)/\∀y∈l,G y:=by
   intro m;induction m with
   |zero=>exact λ_=>⟨[],[],rfl,rfl,by grind,by grind,by grind,by grind⟩
   |succ m J=>
    intro hm;obtain⟨vs,l,h1,f,p,B,q,r⟩:=J Ω;obtain⟨c,y,g1,C,W,X⟩:=A m Ω;refine⟨vs++[c],l++[y],by simp[h1],by simp[f],λd K=>?_,λj v L=>?_,λi d z K M=>?_,λz M=>?_⟩
    .grind
    .have s:=kv p
     grind
    all_goals grind
  obtain⟨vs,l,h1,f,p,B,q,r⟩:=all len (o5 _);have s:=kv p;rw[h1]at s;have Y:0<len->a=⟨a.block,a.off,ν⟩:=λZ=>by
   obtain⟨c,y,g1,C,_⟩:=A 0 Ω;have:=C 0 c[0] (x6 Ω);rw[Nat.zero_mul]at this;exact xu this
  refine⟨l,⟨_,rfl,vs,0,λ_ _=>False,⟨by grind,by grind,by grind⟩,⟨Ω,q⟩,⟨by rw[s,f],a.block,a.off,σ a,cap,by rw[f],Ω,hm,by grind,by grind,λj v L=>?_⟩,by grind⟩,r⟩
  grind [W0]
structure uH(P:X2)(fs:List Field)(off:Nat)(α:Type)[aq α](G:α->Prop):Prop where
 op:∀{H:Type}{enc:r8×x1->H}{w:x3}{base:Nat}{spare:Nat->Bool}{held:Bool}{n:Nat}{cs:List x1},cs.length=off+aq.n α->
  (∀f∈fs,∃x,DataW.trod enc P w base spare held n f.type ((cs.drop f.offset).take (P.cellsOf f.type))=σ x)->∃a:α,Seen ff w (cs.drop off) a/\G a
theorem L1{f:Field}{G:α->Prop}(h:oB P f.type α G)(p:f.offset=off)(q:P.cellsOf f.type=aq.n α):uH P [f] off α G:=by
 constructor;intro H enc w base r s n cs y e;obtain⟨x,j⟩:=e f (.head _);obtain⟨a,h1,z⟩:=h.op j
 grind [o7]
theorem uI{f:Field}{e:List Field}{G:α->Prop}{j:β->Prop}(h:oB P f.type α G)(r:f.offset=off)(s:P.cellsOf f.type=aq.n α)(y:uH P e (off+aq.n α) β j):
  uH P (f::e) off (α×β) λp=>G p.1/\j p.2:=by
 constructor;intro H enc w base F I n cs J q;obtain⟨x,z⟩:=q f (.head _);obtain⟨a,h1,A⟩:=h.op z;rw[r,s]at h1;have K:aq.n (α×β)=aq.n α+aq.n β:=rfl;obtain⟨b,B,C⟩:=y.op Ω λg E=>q g (.tail _ E);refine⟨(a,b),⟨(cs.drop off).take (aq.n α),cs.drop (off+aq.n α),λ_=>False,λ_=>False,?_,λ_ h=>h,λ_ h=>h,by grind,h1,B⟩,A,C⟩;rw[<-List.drop_drop,List.take_append_drop]
theorem L2{a:List Field}{G:α->Prop}(e:P.underlying t=σ (.struct a.toArray))(j:uH P a 0 α G)(s:P.cellsOf t=aq.n α):oB P t α G:=by
 constructor;intro H enc w base y z fuel cs x h;obtain⟨xs,n,_,rfl,A,B,p⟩:=DataW.trod_struct e h;have:=j.op (cs:=cs) Ω λf q=>by
  obtain⟨i,hi,rfl⟩:=List.mem_iff_getElem.1 q;have r:i<xs.length:=by grind
  have:=p i a[i] (by simp[hi]);rw[x6 r]at this;exact⟨_,this⟩
 grind
end
end Go.Vc
namespace Go.Vc
open Go Go.RowKit
set_option maxRecDepth 100000
theorem L3:(⟨#[]⟩:ByteArray)=strOfNums []:=rfl
theorem L4{az:x1->x1->x1->x3->Prop}{B:(x1->x1->x1->x3->Prop)->Prop}(G:x1->x1->x1->x3->Prop)(h1:∀t u v w,G t u v w->az t u v w)(e:∀a:x1->x1->x1->x3->Prop,(∀t u v w,G t u v w->a t u v w)->B a):ct az B:=e az h1
theorem xC{az:x1->x1->x1->x1->x3->Prop}{B:(x1->x1->x1->x1->x3->Prop)->Prop}(G:x1->x1->x1->x1->x3->Prop)(h1:∀s t u v w,G s t u v w->az s t u v w)(e:∀a:x1->x1->x1->x1->x3->Prop,(∀s t u v w,G s t u v w->a s t u v w)->B a):ct az B:=e az h1
abbrev cb(l:Λ):x1:=.string (strOfNums l)
def Bytes(l:Λ):Prop:=∀b∈l,0<=b/\b<256
theorem pE(l:Λ):(strOfNums l).size=l.length:=strOfNums_size l
theorem L5(h:Bytes l){i:Nat}{b:Int}(hi:l[i]?=σ b):(strOfNums l)[i]?=σ (UInt8.ofNat b.toNat)/\((UInt8.ofNat b.toNat).toNat:Int)=b:=by
 have a:=h b (x5 hi);have e:=x4.1 hi;refine⟨?_,by rw[UInt8.toNat_ofNat'];omega⟩;have U:i<(strOfNums l).size:=by grind [pE]
 rw[getElem?_pos (strOfNums l) i U];congr 1;show(strOfNums l).data[i]=_
 grind [strOfNums]
theorem str_inj{a b:Λ}(j:Bytes a)(p:Bytes b)(h:strOfNums a=strOfNums b):a=b:=by
 have h1:(strOfNums a).data.toList=(strOfNums b).data.toList:=by rw[h]
 rw[strOfNums_data,strOfNums_data]at h1;have key:∀{l:Λ},Bytes l->(l.map λn=>UInt8.ofNat n.toNat).map (λu=>((u.toNat:Nat):Int))=l:=λ{l}e=>by
  rw[T8]
  conv=>rhs;rw[<-List.map_id l]
  refine V3 λx f=>?_;have:=e x f
  grind [UInt8.toNat_ofNat']
 grind
theorem L6(a b:Λ):strOfNums a++strOfNums b=strOfNums (a++b):=by
 apply ByteArray.ext;rw[ByteArray.data_append];simp[strOfNums]
theorem L7(l:Λ)(i j:Nat):(strOfNums l).extract i j=strOfNums ((l.take j).drop i):=by
 apply ByteArray.ext
 grind [ByteArray.data_extract,strOfNums,List.map_drop,S0,List.drop_take]
theorem L8(l:Λ):(strOfNums l).toList=l.map λn=>UInt8.ofNat n.toNat:=by
 grind [ByteArray.toList_eq,strOfNums_data]
theorem Cx{a b:Λ}(e:Bytes a)(f:Bytes b):((strOfNums a).toList == (strOfNums b).toList)=decide (a=b):=by
 grind [L8,str_inj,strOfNums]
section
variable{P:X2}{w:x3}
theorem pF{a:r8}(e:P.underlying t=σ .string):ab P (X7 #[t] a #[cb l]) w K=K (Δ l.length):=ab.of λI _=>by
 simp[X7,run_underlying e,goInt,pE]
theorem sk{b:Int}{i:Nat}(a:y=(i:Int))(f:P.underlying t=σ .string)(h:Bytes l)(hi:l[i]?=σ b):ab P (Instr.index t (cb l) (.int k y)) w K=K (.int .u8 b):=ab.of λI _=>by
 subst a;obtain⟨h1,j⟩:=L5 h hi;have e:(0:Int)<=(i:Int):=Ω
 simp only[Instr.index,asIntOf,X4,W9,X9,run_underlying f]
 grind [W9]
theorem xD{a b:Λ}(h:a.length+b.length<=9223372036854775807):ab P (aQ .add t cx cy (cb a) (cb b)) w K=K (cb (a++b)):=ab.of λI _=>by
 have:=run_string_add_sum (P:=P) (w:=I) (strOfNums a) (strOfNums b) (by grind [pE])
 grind [aQ,eqGuard,binOp,L6]
theorem Cy{a b:Λ}(e:Bytes a)(f:Bytes b):ab P (aQ .eql t cx cy (cb a) (cb b)) w K=K (.bool (decide (a=b))):=ab.of λI _=>by
 simp[aQ,eqGuard,binOp,Op.stringOp,Cx e f]
theorem L9{a b:Λ}(e:Bytes a)(f:Bytes b):ab P (aQ .neq t cx cy (cb a) (cb b)) w K=K (.bool (decide (a≠b))):=ab.of λI _=>by
 simp[aQ,eqGuard,binOp,Op.stringOp,Cx e f]
theorem Cz{i:Nat}(a:y=(i:Int))(f:P.underlying t=σ .string)(hi:i<=l.length):ab P (V6 t (cb l) (σ (.int k y)) ν ν) w K=K (cb (l.drop i)):=ab.of λI _=>by
 have j:=uw (P:=P) I (sl:=sp) (n:=(strOfNums l).size) (c:=(strOfNums l).size) (low:=σ (.int k y)) (high:=ν) (mx:=ν) (l:=i) (h:=(strOfNums l).size) (m:=(strOfNums l).size) (mA i y a) gX dU (by grind [pE]) (o5 _) (o5 _);have e:(strOfNums l).extract i (strOfNums l).size=strOfNums (l.drop i):=by grind [L7,pE]
 simp[V6,Instr.slice,run_underlying f,j,e]
theorem xE{s:r8}(U:P.underlying s=σ (.slice e))(he:P.underlying e=σ (.int .u8))(f:P.underlying t=σ .string)(h:aF .u8 w v l):ab P (convert s t v) w K=K (cb l):=ab.of λI p=>by
 obtain⟨q,b,o,base,cap,rfl,_,_,r,x⟩:=h.W p;have q:l.length=l.length*1:=Ω
 by_cases y:0<l.length
 .rw[r y];refine run_convert_bytes_arg I s e U he b o l.length cap l rfl (λi hi=>?_) t f;have j:l[i]?=σ l[i]:=x6 hi;rw[v8,j];exact x i _ (mC j)
 .have z:l=[]:=by grind
  subst z;cases base with
  |none=>
   rw[run_convert_bytes_nil I s e U he _ _ t f];rfl
  |some a=>
   rw[run_convert_bytes_string I s t e _ _ _ U he f];have:=run_bytesToString (P:=P) I a 0 cap [] (by grind [run_loadCells_list]);simp only[List.length_nil];rw[this];rfl
theorem xF{s:r8}{u:TypeDesc}{K:x1->x3->Prop}(U:P.underlying s=σ u)(q:P.underlying t=σ (.slice e))(he:P.underlying e=σ (.int .u8))(x:Bytes l)(hm:l.length<=1000000000)(y:∀v I,Ext w I->aF .u8 I v l->(∀r,(∃a n c,v= .slice (σ a) n c/\a.block=r)->w.heap.size<=r)->K v I):aD P (convert s t (cb l)) w K:=by
 have A:=Lib.bytesWorld_at_new w e (strOfNums l);have B:=λj f=>Lib.bytesWorld_at_old w e (strOfNums l) j f;have C:=Lib.bytesWorld_size w e (strOfNums l);refine .of (Lib.run_convert_string_bytes w s t e (strOfNums l) U q he) ⟨rfl,⟨rfl,Nat.le_succ _⟩,rfl,Ω,λr o z _=>?_⟩ (y _ _ ⟨Ω,λr o z _=>?_⟩ ?_ ?_)
 .grind
 .grind
 .rw[pE];refine⟨Ξ,w.heap.size,0,_,_,rfl,?_,?_,λ_=>rfl,λj v h=>?_⟩
  .grind [grownCap_ge]
  .grind [grownCap_le_maxLen,maxLen]
  .have f:j<l.length:=by grind
   have p:l[j]?=σ l[j]:=x6 f;rw[V0,Lib.bytesWorld_cell w e (strOfNums l) j (by grind [pE])];rw[mC p]at h;rw[<-Z7 h,strOfNums_data,v8,x8,p];have:=x l[j] (T0 f)
   grind [UInt8.toNat_ofNat']
 grind
end
end Go.Vc
namespace Go.Proofs.YtkcigodpbndobaaGreatDoor
open Go Go.Vc Go.RowKit Go.Proofs Go.Proofs.Tryz
set_option maxRecDepth 100000
theorem CA{b:Int}(h:cY b=rs):b7 b=sp:=by
 have h:=ro h
 grind [b7]
theorem CB{b:Int}{p:Λ}(h:cY b=rs):lex (b::p)=lex p:=by
 grind [mF,List.dropWhile_cons]
theorem Ma{b:Int}{p:Λ}(h:cY b=sp)(a:b7 b=sp):lex (b::p)=([],sp):=by
 grind [mF,List.dropWhile_cons]
theorem CC{b:Int}{p:Λ}(h:b7 b=rs):lex (b::p)=match p.dropWhile b7 with
  |[]=>([b::p.takeWhile b7],rs)
  |c::r=>if cY c then((b::p.takeWhile b7)::(lex (c::r)).1,(lex (c::r)).2)else([],sp):=by
 grind [CA,mF,List.takeWhile_cons,List.dropWhile]
def j1:Λ->List (Λ)->Λ->Bool->List (Λ)×Bool
 |[],out,w,op=>(if op then out++[w]else out,rs)
 |b::p,out,w,op=>
  if cY b then j1 p (if op then out++[w]else out) [] sp
  else if b7 b then j1 p out (if op then w++[b]else[b]) rs
  else(out,sp)
theorem sm:∀(p:Λ)(out:List (Λ))(w:Λ),j1 p out w sp=(out++(lex p).1,(lex p).2)/\
  j1 p out w rs=match p.dropWhile b7 with
   |[]=>(out++[w++p.takeWhile b7],rs)
   |c::r=>if cY c then(out++[w++p.takeWhile b7]++(lex (c::r)).1,(lex (c::r)).2)else(out,sp)
 |[],out,w=>by simp[j1,mF []]
 |b::p,out,w=>by
  by_cases U:cY b=rs
  .have hw:=CA U;refine⟨?_,?_⟩
   .rw[j1,m5 U,(sm p _ _).1,CB U];simp
   .rw[j1,m5 U,m5 rfl,(sm p _ _).1,List.dropWhile_cons,m6 (by simp[hw])]
    grind [List.takeWhile_cons,CB]
  .have a:cY b=sp:=by grind
   by_cases hw:b7 b=rs
   .refine⟨?_,?_⟩
    .rw[j1,m6 U,m5 hw,m6 Ξ,(sm p _ _).2,CC hw];cases p.dropWhile b7<;>grind
    .rw[j1,m6 U,m5 hw,m5 rfl,(sm p _ _).2,List.dropWhile_cons,m5 hw,List.takeWhile_cons,m5 hw]
     grind
   grind [j1,Ma,List.dropWhile_cons]
theorem Mb(p:Λ):j1 p [] [] sp=lex p:=by grind [sm]
def qV:Nat->Nat->Λ
 |0,_=>[]
 |k+1,n=>(if n<10 then[]else qV k (n / 10))++[48+((n % 10:Nat):Int)]
def gf(n:Nat):Λ:=qV (n+1) n
theorem CD:∀{k m n:Nat},n<k->n<m->qV k n=qV m n
 |k+1,m+1,n,h1,a=>by
  unfold qV;by_cases h:n<10
  .grind
  .rw[m6 h,m6 h,CD (k:=k) (m:=m) (n:=n / 10) Ω Ω]
theorem pG(n:Nat):gf n=(if n<10 then[]else gf (n / 10))++[48+((n % 10:Nat):Int)]:=by
 grind [gf,qV,CD]
theorem CE:∀(k n:Nat),n<k->∀b∈gf n,48<=b/\b<=57
 |k+1,n,hk,b,a=>by
  rw[pG]at a;rcases o9.1 a with a|a
  .by_cases h:n<10
   .grind
   .rw[m6 h]at a;exact CE k (n / 10) Ω b a
  grind
theorem CF(n:Nat):∀b∈gf n,48<=b/\b<=57:=CE (n+1) n Ω
def sn(l:Λ):Int:=l.foldl (λn b=>10*n+(b-48)) 0
theorem Mc(l:Λ)(b:Int):sn (l++[b])=10*sn l+(b-48):=by simp[sn]
theorem xG:∀(k n:Nat),n<k->sn (gf n)=n
 |k+1,n,hk=>by
  rw[pG,Mc];by_cases h:n<10
  .grind [sn]
  .rw[m6 h,xG k (n / 10) Ω];omega
theorem Md{a b:Nat}(h:gf a=gf b):a=b:=by
 have h1:=xG (a+1) a Ω;have e:=xG (b+1) b Ω
 grind
theorem xH:∀(k n:Nat),n<10 ^ k->1<=k->(gf n).length<=k
 |k+1,n,h,_=>by
  rw[pG,p9];by_cases a:n<10
  .grind
  .rw[m6 a];have hk:1<=k:=by
    grind
   have e:(10:Nat) ^ (k+1)=10*10 ^ k:=Ω
   have:=xH k (n / 10) Ω hk
   grind
def eS(t:Λ):Λ:=t.flatMap λv=>gf v.toNat++[32]
theorem Me(t:Λ)(v:Int):eS (t++[v])=eS t++(gf v.toNat++[32]):=by simp[eS]
theorem CG{r:Λ}(a:∀b∈l,b≠32):(l++32::r).takeWhile (λb=>decide (b≠32))=l/\(l++32::r).dropWhile (λb=>decide (b≠32))=32::r:=by
 induction l<;>grind [List.takeWhile_cons,List.dropWhile_cons]
theorem CH:∀{a b:Λ},(∀x∈a,0<=x)->(∀x∈b,0<=x)->eS a=eS b->a=b
 |[],[],_,_,_=>rfl
 |[],y::b,_,_,h=>by simp[eS]at h
 |x::a,[],_,_,h=>by simp[eS]at h
 |x::a,y::b,f,j,h=>by
  have e:∀(z:Int)(l:Λ),eS (z::l)=gf z.toNat++32::eS l:=by grind [eS]
  rw[e,e]at h;have d:∀z:Int,∀c∈gf z.toNat,c≠32:=λz c p=>by have:=CF _ c p;omega
  have s1:=CG (r:=eS a) (d x);have s2:=CG (r:=eS b) (d y);rw[h]at s1;have q:=s1.1.symm.F s2.1;have s:=s1.2.symm.F s2.2;have A:=f x (.head _);have B:=j y (.head _);have:=Md q;have w:x=y:=Ω
  subst w;rw[CH (by grind) (by grind) (List.cons.inj s).2]
theorem CI(t:Λ):Bytes (eS t):=λb a=>by
 obtain⟨v,_,a⟩:=List.mem_flatMap.1 a;rcases o9.1 a with a|a
 .have:=CF _ b a;omega
 grind
theorem CJ{b:Int}:ak x7 Ju [.int .u8 b] w λv I=>v= .bool (cY b)/\Ext w I:=by
 refine ay func124 ?_;refine aV (λv J=>v= .bool (cY b)/\Ext w J) (λ_ _ h=>h) λaz a=>?_;rw[bi,aj];refine⟨λh=>a _ _ ⟨by unfold cY;rw[ms (.inl h)],Ext.refl _⟩,λh1=>?_⟩;rw[bi,aj];refine⟨λh=>a _ _ ⟨by unfold cY;rw[ms (.inr (.inl h))],Ext.refl _⟩,λe=>?_⟩;rw[bi,aj];refine⟨λh=>a _ _ ⟨by unfold cY;rw[ms (.inr (.inr (.inl h)))],Ext.refl _⟩,λf=>?_⟩;rw[bi];refine a _ _ ⟨?_,Ext.refl _⟩;congr 1;unfold cY;rw[U5,rc,rc];omega
theorem Mf{b:Int}:ak x7 Jt [.int .u8 b] w λv I=>v= .bool (b7 b)/\Ext w I:=by
 refine ay func123 ?_;refine aV (λv J=>v= .bool (b7 b)/\Ext w J) (λ_ _ h=>h) λaz a=>?_;rw[cJ,aj];refine⟨λh=>?_,λh=>a _ _ ⟨by unfold b7;rw[pl Ω],Ext.refl _⟩⟩;rw[nA];refine a _ _ ⟨?_,Ext.refl _⟩;congr 1;unfold b7;rw[U5,rc,rc];omega
def nN(w:x3)(g:Nat)(a:x1)(p:Λ)(at_:Nat)(bad:Int):Prop:=Bytes p/\p.length<=100000/\at_<=p.length/\ag w g jd [a,Δ (at_:Int),Δ bad]/\∃bx,an .u8 cP w bx a p
theorem nN.W{g:Nat}{a:x1}{p:Λ}{at_:Nat}{bad:Int}(h:nN w g a p at_ bad)(e:Ext w I):nN I g a p at_ bad:=by
 obtain⟨h1,f,j,q,bx,r⟩:=h;exact⟨h1,f,j,q.W e,bx,r.W e⟩
theorem Mg(h:aF .u8 w v l)(A:l.length<=100000):ak x7 Jo [v] w λf I=>Ext w I/\∃g,an .u8 cP I g f l:=by
 have e:=h;obtain⟨B,b,o,base,cap,rfl,C,hm,p,E⟩:=h;refine ay func117 ?_;rw[uv cS.u,bM];refine⟨λq=>⟨Ext.refl _,0,?_⟩,λ_=>?_⟩
 .have:l=[]:=by
   cases base with
   |none=>
        by_cases e:0<l.length
        .have:=p e;cases this
        .exact c9 Ω
   |some a=>cases q
  subst this;exact an.nil _ _ _ _
 .refine lM (k:=1) (cs:=#[]) cS.u cP.i Ω Ψ λg J G j r=>?_;have s:an .u8 cP J g (.slice (σ ⟨g,0,ν⟩) 0 0) []:=an.of (n:=0) (bW.full (by simpa using r) rfl Ξ);refine iO cS.u cP.i rfl s (e.W j) Θ Θ λf x V H y z=>?_;exact⟨j.put z Ω,x,by simpa using y⟩
theorem CK(h:aF .u8 w v l)(q:Bytes l)(e:l.length<=100000):ak x7 Bq [v] w λr I=>Ext w I/\∃g,r=Γ g/\w.heap.size<=g/\∃a,nN I g a l 0 (-1):=by
 refine ay func47 ?_;refine(Mg h e).X ?_;rintro a J _ ⟨f,bx,j⟩;rw[dq (cs:=#[a,Δ 0,Δ (-1)]) (by obtain⟨_,_,_,_,_,rfl,_⟩:=j.ls;kernel_rfl)];refine bj λg V x p s=>?_;have s1:=f.size;exact⟨f.F p,g,rfl,Ω,a,q,e,X8 _,s,bx,j.W p⟩
def runN(f:Int->Bool)(p:Λ):Nat:=(p.takeWhile f).length
theorem Mh(f:Int->Bool)(p:Λ):runN f p<=p.length:=(List.takeWhile_sublist f).length_le
theorem CL{f:Int->Bool}{p:Λ}{i:Nat}{b:Int}(hi:p[i]?=σ b)(e:f b=rs):i+runN f (p.drop i)=(i+1)+runN f (p.drop (i+1)):=by
 have a:=x4.1 hi;unfold runN;rw[X0 a.1,a.2,List.takeWhile_cons,m5 e,Y4];omega
theorem CM{f:Int->Bool}{p:Λ}{i:Nat}(h:∀b,p[i]?=σ b->f b=sp):runN f (p.drop i)=0:=by
 unfold runN;cases a:p[i]? with
 |none=>
  rw[List.drop_of_length_le (List.getElem?_eq_none_iff.1 a)];rfl
 |some b=>
  have e:=x4.1 a;rw[X0 e.1,e.2,List.takeWhile_cons,m6 (by simp[h b a])];rfl
theorem Mi{g at_:Nat}{A:x1}{p:Λ}{bad:Int}(h:nN w g A p at_ bad):ak x7 Js [Γ g] w λv I=>v=Δ ((at_+runN cY (p.drop at_):Nat):Int)/\Ext w I:=by
 obtain⟨M,N,B,a,bx,q⟩:=h;refine ay func122 ?_;rw[aN jd.p 1 a rfl];refine⟨λv J=>Ext w J/\∃i:Nat,v=Δ (i:Int)/\i<=p.length/\i+runN cY (p.drop i)=at_+runN cY (p.drop at_),λv _=>p.length-(b0 v).toNat,⟨Ext.refl _,at_,rfl,B,rfl⟩,?_⟩;rintro _ J ⟨j,i,rfl,hi,he⟩;refine aV (λv V=>Ext w V/\∃c:Bool,v= .bool c/\(c=rs↔ ∃b,p[i]?=σ b/\cY b=rs)) ?_ ?_
 .rintro _ V ⟨r,c,rfl,s⟩;rw[bM];refine⟨λC=>?_,λx=>?_⟩
  .obtain⟨b,e,E⟩:=s.1 C;have G:=(x4.1 e).1;rw[aL,lm Ω Ω];exact⟨⟨r,i+1,rfl,G,by rw[<-he,CL e E]⟩,by simp only[b0];omega⟩
  .have H:=CM (f:=cY) (p:=p) (i:=i) λb a=>by
    cases U:cY b with
    |false=>rfl
    |true=>rw[s.2 ⟨b,a,U⟩]at x;cases x
   exact⟨by rw[<-he,H,Nat.add_zero],r⟩
 .intro az y;have z:=a.W j;rw[aN jd.p 0 z rfl,aS cS.u (q.W j).ls,aP,aj];refine⟨λO=>?_,λP=>y _ _ ⟨j,sp,rfl,⟨λh=>(by cases h),λ⟨b,a,_⟩=>by have:=(x4.1 a).1;omega⟩⟩⟩;have K:i<p.length:=Ω
  have e:=x6 K;rw[aN jd.p 0 z rfl,ba cS.u cP.i Ψ (q.W j).ls e];refine CJ.X ?_;rintro _ Q _ ⟨rfl,L⟩;exact y _ _ ⟨j.F L,_,rfl,⟨λh=>⟨_,e,h⟩,λ⟨b,a,h⟩=>by rw[e]at a;cases a;exact h⟩⟩
inductive Mj where
 |word (from_ to:Nat)
 |none
 |text (at_:Nat)
def gJ(p:Λ)(at_:Nat):Nat:=at_+runN cY (p.drop at_)
def j2(p:Λ)(a:Nat):Nat:=a+runN b7 (p.drop a)
open Classical in
noncomputable def qW(p:Λ)(at_:Nat):Mj:=
 if j2 p (gJ p at_)<p.length/\(∀c,p[j2 p (gJ p at_)]?=σ c->cY c=sp)then .text (j2 p (gJ p at_))else if gJ p at_=j2 p (gJ p at_)then .none else .word (gJ p at_) (j2 p (gJ p at_))
def sq(w:x3)(g:Nat)(e:x1)(p:Λ)(at_:Nat)(v:x1)(I:x3):Prop:=
 match qW p at_ with
 | .word a b=>v= .tuple #[cb ((p.take b).drop a),Δ (a:Int),Δ 0]/\af (λr=>r=g) w I/\nN I g e p b (-1)
 | .none=>∃n:Nat,v= .tuple #[cb [],Δ (n:Int),Δ 2]/\Ext w I
 | .text b=>v= .tuple #[cb [],Δ (b:Int),Δ 11]/\af (λr=>r=g) w I/\nN I g e p at_ (b:Int)
theorem iP{aX:Nat->Prop}{a b c:x3}(h:af S a b)(k:af aX b c)(j:∀r,r<a.heap.size->aX r->S r):af S a c:=
 ⟨Y1 h.size k.size,λr o e U f=>k.a8 r o (h.a8 r o e U f) U λp=>f (j r (Z9.1 e).1 p)⟩
theorem ch{g:Nat}{p:r8}(h:an k e w g v l)(q:ag w j p cs)(x:e≠p){r:Nat}(s:li v r):r≠j:=by
 obtain⟨rfl,_⟩:=bD h s;obtain⟨_,⟨rfl,_⟩|⟨_,_,_,f,_⟩⟩:=h
 .obtain⟨a,n,c,h,_⟩:=s;cases h
 .rintro rfl;unfold ag at q f;rw[q]at f;injection f with h1;injection h1 with z y;exact x y.symm
theorem Mk{s:r8}{e:o4}{b i:Nat}(p:x7.underlying s=σ (.slice t))(hi:aR x7 t 1 b z)(h:aF .u8 w v l)(q:i<=j)(r:j<=l.length)(x:∀a,aF .u8 w a ((l.take j).drop i)->K a):ab x7 (V6 s v (σ (.int e (i:Int))) (σ (.int f (j:Int))) ν) w K:=by
 refine uE p hi h (mA i _ rfl) (nF j _ rfl) q r λa bf=>x a (aF.of (n:=j-i) ?_);have y:((ints .u8 l).drop (i*1)).take ((j-i)*1)=ints .u8 ((l.take j).drop i):=by
  rw[V1,V1,ints,ints,List.map_drop,S0,List.drop_take]
 rw[y]at bf;exact bf
theorem Ml{g at_:Nat}{E:x1}{p:Λ}(h:nN w g E p at_ (-1)):ak x7 w6 [Γ g] w (sq w g E p at_):=by
 obtain⟨P,Q,an,e,bx,G⟩:=id h;refine ay func53 ?_;rw[cV ur.u,l9,aW,aN jd.p 2 e rfl,cJ,aj];refine⟨λh=>Ω,λ_=>?_⟩;refine(Mi h).X ?_;rintro _ V _ ⟨rfl,ao⟩;obtain⟨a,R⟩:∃a,a=at_+runN cY (p.drop at_):=⟨_,rfl⟩;rw[<-R];have ap:a<=p.length:=by have:=Mh cY (p.drop at_);rw[List.length_drop]at this;omega
 refine⟨λv H=>Ext V H/\∃i:Nat,v=Δ (i:Int)/\a<=i/\i<=p.length/\i+runN b7 (p.drop i)=a+runN b7 (p.drop a),λv _=>p.length-(b0 v).toNat,⟨Ext.refl _,a,rfl,o5 _,ap,rfl⟩,?_⟩;rintro _ H ⟨S,i,rfl,aq,hi,he⟩;have I:=ao.F S;have W:=e.W I;have X:=G.W I;refine aV (λv y=>Ext H y/\∃c:Bool,v= .bool c/\(c=rs↔ ∃b,p[i]?=σ b/\b7 b=rs)) ?_ ?_
 rotate_left
 .intro az q;rw[aN jd.p 0 W rfl,aS cS.u X.ls,aP,aj];refine⟨λau=>?_,λav=>q _ _ ⟨Ext.refl _,sp,rfl,⟨λh=>(by cases h),λ⟨b,e,_⟩=>by have:=(x4.1 e).1;omega⟩⟩⟩;have z:i<p.length:=Ω
  have j:=x6 z;rw[aN jd.p 0 W rfl,ba cS.u cP.i Ψ X.ls j];refine Mf.X ?_;rintro _ y _ ⟨rfl,A⟩;exact q _ _ ⟨A,_,rfl,⟨λh=>⟨_,j,h⟩,λ⟨b,e,h⟩=>by rw[j]at e;cases e;exact h⟩⟩
 rintro _ y ⟨A,c,rfl,s⟩;have J:=I.F A;have Y:=e.W J;have Z:=G.W J;rw[bM];refine⟨λK=>?_,λab=>?_⟩
 .obtain⟨b,j,aw⟩:=s.1 K;have ax:=(x4.1 j).1;rw[aL,lm Ω Ω];exact⟨⟨S.F A,i+1,rfl,Ω,ax,by rw[<-he,CL j aw]⟩,by simp only[b0];omega⟩
 have aE:=CM (f:=b7) (p:=p) (i:=i) λb e=>by
  cases U:b7 b with
  |false=>rfl
  |true=>rw[s.2 ⟨b,e,U⟩]at ab;cases ab
 have aA:i=a+runN b7 (p.drop a):=Ω
 refine aV (λv L=>Ext y L/\∃c:Bool,v= .bool c/\(c=rs↔i<p.length/\∀c,p[i]?=σ c->cY c=sp)) ?_ ?_
 rotate_left
 .intro az q;rw[aN jd.p 0 Y rfl,aS cS.u Z.ls,aP,aj];refine⟨λau=>?_,λav=>q _ _ ⟨Ext.refl _,sp,rfl,⟨λh=>(by cases h),λh=>Ω⟩⟩⟩;have z:i<p.length:=Ω
  have j:=x6 z;rw[aN jd.p 0 Y rfl,ba cS.u cP.i Ψ Z.ls j];refine CJ.X ?_;rintro _ L _ ⟨rfl,M⟩;rw[bA];refine q _ _ ⟨M,_,rfl,⟨λh=>⟨z,λc s=>?_⟩,λh=>by rw[h.2 _ j];rfl⟩⟩;rw[j]at s;cases s;cases U:cY p[i]with
  |false=>rfl
  |true=>rw[U]at h;cases h
 rintro _ L ⟨M,aF,rfl,ac⟩;have x:=J.F M;have B:=e.W x;have C:=G.W x;have ad:∀r,li E r->r≠g:=λr aB=>ch C B Φ aB;have N:qW p at_=open Classical in if i<p.length/\(∀c,p[i]?=σ c->cY c=sp)then .text i else if a=i then .none else .word a i:=by
  unfold qW;rw[show gJ p at_=a from R.symm,show j2 p a=i from aA.symm]
 rw[bM];refine⟨λK=>?_,λaf=>?_⟩
 .rw[bS,aT jd.p rfl];refine bw (g:=g) (o:=2) ae.i rfl rfl B Ξ λaG ag aH aC=>?_;unfold sq;rw[N,m5 (ac.1 K)];exact⟨rfl,(x.aa _).F ag,P,Q,an,aC,bx,bl C ag ad⟩
 .have ah:¬(i<p.length/\∀c,p[i]?=σ c->cY c=sp):=λh=>by rw[ac.2 h]at af;cases af
  rw[bi,aj];refine⟨λaI=>?_,λaJ=>?_⟩
  .intro aK O _ _;rw[aN jd.p 0 (B.W O) rfl,aS cS.u (C.W O).ls];unfold sq;rw[N,m6 ah,m5 Ω];exact⟨p.length,rfl,x.F O⟩
  .rw[bS,aT jd.p rfl];refine bw (g:=g) (o:=1) ae.i rfl rfl B Ξ λaM ai aO al=>?_;have am:=bl C ai ad;rw[aN jd.p 0 al rfl];refine Mk cS.u cP.i am.ls aq hi λaQ aD=>?_;rw[xE cS.u cP.u da.u aD];unfold sq;rw[N,m6 ah,m6 Ω];exact⟨rfl,(x.aa _).F ai,P,Q,hi,al,bx,am⟩
end Go.Proofs.YtkcigodpbndobaaGreatDoor
