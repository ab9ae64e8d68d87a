/- own texts, made small by a tool (wip/ holds them as they were written): no statement of the seat. -/
import Derived.RangeFuncNested
import Derived.RangeFuncLeaves
import Derived.OrdersIn
import Derived.KernelRfl
import Derived.Deep.Upon
import Derived.RangeFuncBound
import Derived.Deep.MidRow
import Derived.Laws.Cover3
import Derived.Laws.Pointers
import Derived.Laws.StructEq
import Derived.Laws.Tables
import Derived.Below
import Derived.Laws.MakeOwn
import Derived.Lib.Overlaps
import Derived.Lib.AppendZerosOnto
import Derived.Lib.SliceRun
import Derived.OpenShut
import Derived.Lib.ConvBytes
import Derived.Laws.BytesArg
import Derived.Laws.Concat
import Derived.MapKept
import Derived.Carry
import Derived.WideKeyArr
import Derived.WideKeyMaps
import Derived.Laws.IdiomRangeMap
import Derived.Shelf.SlSortCmp.NoneTotal
import Derived.Shelf.SlSortCmp.WholeK
import Derived.Ground.SlsfProg
import Derived.WideKeyEntry
import Derived.WalkKit
import Derived.Test.YtnhkbjhpbbobaaaGreatDoorProg
import Derived.Test.YtnhkbjhpbbobaaaGreatDoorChecked
set_option linter.unusedVariables false
set_option linter.unusedSimpArgs false
set_option linter.unnecessarySimpa false
open Array renaming getElem?_eq_some_iff→j9,getElem?_toList→Q3
open BitVec renaming ofInt→T9
open Bool renaming false→rs,true→ro,not_true→X1,not_false→W7,or_eq_false_iff→U4,and_eq_true→T1
open Decidable renaming not_not→X5
open Go renaming Value→x1,World→x4,TypeId→p9,IntKind→o7,Builtin→Y1,Program→V5,Oper→S2,Operand→R4,FuncId→Q9
open Go.Addr renaming add_mid→T8
open Go.Builtin renaming append_→Y0,len_→V7
open Go.Instr renaming loadAt→u5,fieldAt→u7,storeAt→n9,indexAt→Z0,extract→Y8,buildSlice→X2,sliceAt→U5,alloc→P7
open Go.IntKind renaming i64→W6,u64→T7
open Go.Proofs.Tryz renaming prog→x8
open Go.Result renaming andThen→V2
open Go.Sem renaming run_bind→V1,run_pure→U1
open Go.Sort renaming Holds→Q1
open Go.Value renaming int→U6
open Go.World renaming putObj_heap_other→P6
open Int renaming toNat_natCast→u6,eq_ofNat_of_zero_le→V3,le_refl→S8
open List renaming getElem?_eq_some_iff→x5,mem_of_getElem?→x6,getElem?_eq_getElem→x7,getElem?_map→v8,getD_eq_getElem?_getD→u4,length_map→u9,take_add_one→r8,length_append→r9,replicate→o4,length_set→o5,take_length→o6,length_take→o8,getElem?_set_self→l9,mem_map→j0,mem_append→j4,take_of_length_le→j5,mem_singleton→j6,eq_nil_of_length_eq_zero→c9,length_cons→Z4,map_append→Z5,getElem?_append_right→Z7,getElem?_set_ne→Z9,getElem?_append_left→Y2,getElem?_eq_none→Y4,getElem?_set→Y6,getElem?_take_of_lt→Y7,ext_getElem?→X3,drop_eq_getElem_cons→X8,append_assoc→X9,range→W3,append_nil→W5,mem_or_eq_of_mem_set→V0,mem_cons→V4,length_eq_one_iff→V6,foldl_cons→V8,mem_of_mem_take→U3,map_set→T2,map_cons→T3,set_append_right→T4,mem_range→T6,getElem_mem→Q4,length_nil→Q7
open Nat renaming le_refl→p8,mul_le_mul_right→Y5,le_trans→Y9,zero_le→X7,zero_add→W0,sub_self→W8,add_mul→U7,mul_one→T5,lt_of_lt_of_le→S3,beq→S6,add_assoc→R5,min_eq_left→Q6,eq_zero_or_pos→P8
open Option renaming toList_some→o9,isNone_some→Z3,map_some→Y3,getD_some→V9,map→T0
open Option.some renaming injEq→X4
open Prod.mk renaming injEq→S7
set_option maxHeartbeats 16000000
open Option renaming some→σ,none→ν
abbrev Λ:=List Int
namespace Go
theorem _root_.Eq.F{α:Sort _}{a b c:α}(h:a=b)(g:b=c):a=c:=h.trans g
theorem _root_.Iff.F{a b c:Prop}(h:a<->b)(g:b<->c):a<->c:=h.trans g
theorem _root_.List.Perm.F{α:Type _}{a b c:List α}(h:a.Perm b)(g:b.Perm c):a.Perm c:=h.trans g
set_option linter.defProp false in
def _root_.Go.Calls.Y:=@Calls.mono
theorem _root_.m3{c:Prop}{h:Decidable c}(hc:c){α:Sort _}{t e:α}:ite c t e=t:=if_pos hc
theorem _root_.m5{c:Prop}{h:Decidable c}(hnc:¬c){α:Sort _}{t e:α}:ite c t e=e:=if_neg hnc
theorem _root_.m6{a b:Prop}(h:a)(g:¬a):b:=absurd h g
theorem _root_.m7{p:Prop}[Decidable p](h:p):decide p=true:=decide_eq_true h
theorem _root_.ms{p:Prop}[Decidable p](h:¬p):decide p=false:=decide_eq_false h
theorem _root_.ne{p:Prop}[Decidable p]:(decide p=true)=p:=decide_eq_true_eq
theorem _root_.rc{p:Prop}[Decidable p](h:decide p=true):p:=of_decide_eq_true h
theorem Ω{p:Prop}(h:p:=by omega):p:=h
theorem Ψ{p:Prop}(h:p:=by kernel_rfl):p:=h
theorem Φ{p:Prop}(h:p:=by decide):p:=h
theorem Ξ{p:Prop}(h:p:=by simp):p:=h
theorem Θ{p:Prop}(h:p:=by simp;omega):p:=h
abbrev Γ(n:Nat):Value:=.pointer (some ⟨n,0,none⟩)
abbrev Δ:Int→Value:=Value.int .i64
end Go
variable{a y:Int}{c h j n off:Nat}{I w:x4}{S:Nat->Prop}{aS s1 sv v z:x1}{args cs vs xs:List x1}{K:x1->Prop}{ai l:Λ}{D:List Nat}{f k:o7}{e t:p9}{cx cy:Bool}
namespace Go.Vc
open Go Go.RowKit
def fL:Obj->Bool
 | .loop _=>rs
 | .deferred _=>rs
 | .mapIter ..=>rs
 |_=>ro
def book:Obj->Bool
 | .loop _=>ro
 | .deferred _=>ro
 |_=>rs
theorem zr{o:Obj}(h:book o=ro):fL o=rs:=by cases o<;>first|rfl|cases h
def sX:Obj->Bool
 | .mapIter ..=>ro
 |_=>rs
theorem G8{o:Obj}(h:sX o=ro):fL o=rs:=by cases o<;>first|rfl|cases h
structure Ext(w I:x4):Prop where
 size:w.heap.size<=I.heap.size
 aZ:∀(r:Nat)(o:Obj),w.heap[r]?=σ o->fL o=ro->I.heap[r]?=σ o
theorem Ext.refl(w:x4):Ext w w:=⟨p8 _,λ_ _ h _=>h⟩
theorem Ext.F{a b c:x4}(h:Ext a b)(k:Ext b c):Ext a c:=
 ⟨Y9 h.size k.size,λr o e J=>k.aZ r o (h.aZ r o e J) J⟩
structure af(S:Nat->Prop)(w I:x4):Prop where
 size:w.heap.size<=I.heap.size
 aZ:∀(r:Nat)(o:Obj),w.heap[r]?=σ o->fL o=ro->¬S r->I.heap[r]?=σ o
theorem Ext.V(S:Nat->Prop)(h:Ext w I):af S w I:=⟨h.size,λr o a J _=>h.aZ r o a J⟩
theorem af.W(h:af S w I)(e:∀r,r<w.heap.size->¬S r):Ext w I:=
 ⟨h.size,λr o a J=>h.aZ r o a J (e r (j9.1 a).1)⟩
theorem af.refl(S:Nat->Prop)(w:x4):af S w w:=⟨p8 _,λ_ _ h _ _=>h⟩
theorem af.F{a b c:x4}(h:af S a b)(k:af S b c):af S a c:=
 ⟨Y9 h.size k.size,λr o f J e=>k.aZ r o (h.aZ r o f J e) J e⟩
theorem af.Y{T:Nat->Prop}{a b:x4}(h:af S a b)(f:∀r,r<a.heap.size->S r->T r):af T a b:=
 ⟨h.size,λr o e J j=>h.aZ r o e J λp=>j (f r (j9.1 e).1 p)⟩
theorem Ext.then{a b c:x4}(h:Ext a b)(k:af S b c)(f:∀r,r<a.heap.size->¬S r):Ext a c:=
 ⟨Y9 h.size k.size,λr o e J=>k.aZ r o (h.aZ r o e J) J (f r (j9.1 e).1)⟩
def kT(w I:x4):Prop:=I.tape=w.tape/\w.drawn<=I.drawn
theorem kT.lC(h:I.tape=w.tape:=by rfl)(k:I.drawn=w.drawn:=by rfl):kT w I:=⟨h,Nat.le_of_eq k.symm⟩
theorem kT.F{a b c:x4}(k:kT b c)(h:kT a b):kT a c:=⟨k.1.F h.1,Y9 h.2 k.2⟩
structure cN(w I:x4):Prop where
 os:I.os=w.os
 tape:kT w I
 output:I.output=w.output
 size:w.heap.size<=I.heap.size
 aZ:∀(r:Nat)(o:Obj),w.heap[r]?=σ o->fL o=rs->I.heap[r]?=σ o
structure cI(n:Nat)(w I:x4):Prop where
 os:I.os=w.os
 tape:kT w I
 output:I.output=w.output
 size:w.heap.size<=I.heap.size
 aZ:∀(r:Nat)(o:Obj),w.heap[r]?=σ o->book o=ro->I.heap[r]?=σ o
 old:∀(r:Nat)(o:Obj),r<n->w.heap[r]?=σ o->fL o=rs->I.heap[r]?=σ o
theorem cN.b(h:cN w I):cI n w I:=⟨h.os,h.tape,h.output,h.size,λr o a J=>h.aZ r o a (zr J),λr o _ a J=>h.aZ r o a J⟩
theorem cI.refl(n:Nat)(w:x4):cI n w w:=⟨rfl,.lC,rfl,p8 _,λ_ _ h _=>h,λ_ _ _ h _=>h⟩
theorem cI.F{a b c:x4}(h:cI n a b)(k:cI n b c):cI n a c:=
 ⟨k.os.F h.os,k.tape.F h.tape,k.output.F h.output,Y9 h.size k.size,λr o e J=>k.aZ r o (h.aZ r o e J) J,λr o f e J=>k.old r o f (h.old r o f e J) J⟩
theorem cI.cu(h:cI n w I)(e:w.heap.size<=n):cN w I:=
 ⟨h.os,h.tape,h.output,h.size,λr o a J=>h.old r o (S3 (j9.1 a).1 e) a J⟩
structure fM(n:Nat)(w I:x4):Prop where
 os:I.os=w.os
 tape:kT w I
 output:I.output=w.output
 size:w.heap.size<=I.heap.size
 old:∀(r:Nat)(o:Obj),r<n->w.heap[r]?=σ o->fL o=rs->I.heap[r]?=σ o
theorem cI.o(h:cI n w I):fM n w I:=⟨h.os,h.tape,h.output,h.size,h.old⟩
theorem cN.o(h:cN w I):fM n w I:=⟨h.os,h.tape,h.output,h.size,λr o _ a J=>h.aZ r o a J⟩
theorem fM.Y{m:Nat}(h:fM n w I)(hm:m<=n):fM m w I:=⟨h.os,h.tape,h.output,h.size,λr o a=>h.old r o (S3 a hm)⟩
theorem cI.zs{m:Nat}{a b c:x4}(h:cI n a b)(k:fM m b c)(hm:a.heap.size<=m):cI n a c:=
 ⟨k.os.F h.os,k.tape.F h.tape,k.output.F h.output,Y9 h.size k.size,
  λr o e J=>k.old r o (S3 (j9.1 e).1 hm) (h.aZ r o e J) (zr J),
  λr o f e J=>k.old r o (S3 (j9.1 e).1 hm) (h.old r o f e J) J⟩
def e9(w I:x4):Prop:=∀(r:Nat)(o:Obj),w.heap[r]?=σ o->sX o=ro->I.heap[r]?=σ o
theorem e9.refl(w:x4):e9 w w:=λ_ _ h _=>h
theorem e9.F{a b c:x4}(h:e9 a b)(k:e9 b c):e9 a c:=λr o e J=>k r o (h r o e J) J
theorem cN.lD(h:cN w I):e9 w I:=λr o a J=>h.aZ r o a (G8 J)
abbrev fN:=Bool×Nat
theorem cN.refl(w:x4):cN w w:=⟨rfl,.lC,rfl,p8 _,λ_ _ h _=>h⟩
theorem cN.F{a b c:x4}(h:cN a b)(k:cN b c):cN a c:=
 ⟨k.os.F h.os,k.tape.F h.tape,k.output.F h.output,Y9 h.size k.size,λr o e J=>k.aZ r o (h.aZ r o e J) J⟩
theorem sY(w:x4)(n:Nat):Ext w {w with drawn:=n}:=⟨p8 _,λ_ _ h _=>h⟩
theorem q4(w:x4)(n:Nat)(h:w.drawn<=n):cN w {w with drawn:=n}:=⟨rfl,⟨rfl,h⟩,rfl,p8 _,λ_ _ h _=>h⟩
theorem q5(w:x4)(o:Obj):Ext w {w with heap:=w.heap.push o}:=
 ⟨Ξ,λr o' h _=>by
  have a:=(j9.1 h).1;simp only[Array.getElem?_push];rw[m5 Ω];exact h⟩
theorem q6(w:x4)(o:Obj):cN w {w with heap:=w.heap.push o}:=
 ⟨rfl,.lC,rfl,Ξ,λr o' h _=>by
  have a:=(j9.1 h).1;simp only[Array.getElem?_push];rw[m5 Ω];exact h⟩
inductive eK where
 |v (x:x1)
 |b (c:Bool)
 |u
def eK.val:eK->x1
 | .v x=>x
 | .b c=>.bool c
 | .u=>undef
def eK.ofConst:x1->eK
 | .bool c=>.b c
 |x=>.v x
theorem eK.G9(x:x1):(eK.ofConst x).val=x:=by cases x<;>rfl
abbrev Env:=List (Nat×eK)
def look:Env->Nat->Option eK
 |[],_=>ν
 |(s,x)::r,t=>bif S6 s t then σ x else look r t
def eS(e:Env):R4->Option eK
 | .tmp t=>look e t
 | .const x=>σ (eK.ofConst x)
 | .global g=>σ (.v (Γ g))
 | .func f=>σ (.v (.func (.func f) #[] #[]))
def cV(e:Env)(x:R4):x1:=
 match eS e x with
 |some y=>y.val
 |none=>undef
def known(e:Env):List R4->Bool
 |[]=>ro
 |x::r=>(eS e x).isSome&&known e r
def Q1(N:Nat)(e:Env)(a:Act):Prop:=
 a.tmps.size=N/\∀t x,look e t=σ x->a.tmps.getD t undef=x.val
theorem Q1.eS{N:Nat}{e:Env}{a:Act}(h:Q1 N e a){x:R4}{y:eK}(j:Vc.eS e x=σ y):a.eval x=y.val:=by
 cases x with
 |tmp t=>exact h.2 t y j
 |const v=>simp[Vc.eS]at j;subst j;simp[Act.eval,eK.G9]
 |global g=>simp[Vc.eS]at j;subst j;rfl
 |func f=>simp[Vc.eS]at j;subst j;rfl
theorem Q1.eval{N:Nat}{e:Env}{a:Act}(h:Q1 N e a){x:R4}(j:(Vc.eS e x).isSome=ro):a.eval x=cV e x:=by
 obtain⟨y,f⟩:=Option.isSome_iff_exists.1 j;rw[h.eS f];simp[cV,f]
theorem vK{e:Env}:∀{l:List R4},known e l=ro->∀x∈l,(eS e x).isSome=ro
 |[],_,_,a=>by cases a
 |y::r,h,x,a=>by
  simp only[known,T1]at h;cases a with
  |head=>exact h.1
  |tail _ a=>exact vK h.2 x a
def ei(e:Env)(d:Option Tmp)(x:eK):Env:=
 match d with
 |some t=>(t,x)::e
 |none=>e
def kU(N:Nat)(d:Option Tmp):Bool:=
 match d with
 |some t=>Nat.blt t N
 |none=>ro
theorem Q1.put{N:Nat}{e:Env}{a:Act}(h:Q1 N e a){d:Option Tmp}(p:kU N d=ro){x:eK}(q:x.val=v):
  Q1 N (ei e d x) (a.put d v):=by
 cases d with
 |none=>exact h
 |some t=>
  have r:t<N:=by simpa[kU,Nat.blt_eq]using p
  refine⟨by simp[Act.put,h.1],λs y J=>?_⟩;simp only[ei,look]at J;cases f:S6 t s with
  |true=>
   have j:=Nat.eq_of_beq_eq_true f;subst j;simp only[f,cond_true,X4]at J;subst J;simp[Act.put,h.1,r,q]
  |false=>
   have j:=Nat.ne_of_beq_eq_false f;simp only[f,cond_false]at J;have:=h.2 s y J;simp only[Act.put,Array.getD_eq_getD_getElem?]at this ⊢;rw[Array.getElem?_setIfInBounds_ne j];exact this
def eL(r:Option Nat):Fence:={Fence.wide with round:=r}
theorem vL(r:Option Nat)(n:Nat):(eL r).depth.isSome=ro->1<=n:=λh=>by simp[eL,Fence.wide]at h
theorem zt{r:Option Nat}{P:V5}{f:Q9}{args:Array x1}{R:Ending->x4->Prop}(h:Calls P f args w R):CallsIn (eL r) n P f args w R:=by
 have:=(callsIn_wide (n:=n)).2 h;exact this
section
variable(P:V5)
def aH{α:Type}(s:Sem α)(w:x4)(K:α->x4->Prop):Prop:=∃v I,s.run P w= .ok v I/\cN w I/\K v I
def sZ{α:Type}(free:fN)(s:Sem α)(w:x4)(K:α->x4->Prop):Prop:=∃v I,s.run P w= .ok v I/\(free.1=rs->cI free.2 w I)/\K v I
def Split(x:x1)(A B:Prop):Prop:=∃c,x= .bool c/\(c=ro->A)/\(c=rs->B)
def a7:Bool->R4
 |true=>.const (.bool ro)
 |false=>.tmp 0
def pX:R4->Bool
 | .const _=>ro
 |_=>rs
theorem Ha(op:BinOp)(t:p9)(x y:R4)(a b:x1):eqGuard op t x y a b=eqGuard op t (a7 (pX x)) (a7 (pX y)) a b:=by
 cases x<;>cases y<;>rfl
def aN(op:BinOp)(t:p9)(cx cy:Bool)(a b:x1):Sem x1:=do eqGuard op t (a7 cx) (a7 cy) a b;binOp op t a b
def s3(s:Sem Next):Sem x1:=do
 match <-s with
 | .value v=>pure v
 |_=>stuck "no value"
def bR(x:x1):Sem x1:=s3 (execOp (λ_=>x) {dst:=ν,op:=.nilCheck (.tmp 0),type:=0,pos:= "",after:=#[],guard:=ν})
def bM(a:R4->x1):List R4->List x1
 |[]=>[]
 |x::r=>a x::bM a r
theorem s4(a:R4->x1):∀l,bM a l=l.map a
 |[]=>rfl
 |x::r=>by simp[bM,s4 a r]
theorem vM(a:R4->x1)(l:Array R4):(bM a l.toList).toArray=l.map a:=by
 apply Array.toList_inj.1;simp[s4]
def partsOf(a:R4->x1):List (Nat×R4)->List (Nat×x1)
 |[]=>[]
 |x::r=>(x.1,a x.2)::partsOf a r
theorem zu(a:R4->x1):∀l,partsOf a l=l.map λ(i,x)=>(i,a x)
 |[]=>rfl
 |x::r=>by simp[partsOf,zu a r]
theorem Hb(a:R4->x1)(l:Array (Nat×R4)):(partsOf a l.toList).toArray=l.map λ(i,x)=>(i,a x):=by
 apply Array.toList_inj.1;simp[zu]
def opsOf:Op->List R4
 | .alloc _| .ready _| .waits _=>[]
 | .move x| .assign x| .box _ x| .load _ x| .nilCheck x| .unOp _ _ x| .convert _ _ x| .sliceToArrayPointer _ x| .makeInterface _ x
 | .makeChan _ x| .fieldAddr _ x _| .field _ x _| .range _ x| .next x _| .entry x| .typeAssert x _ _ _| .extract x _| .panic x| .recv _ x _=>[x]
 | .pick c a b=>[c,a,b]
 | .build _ e| .buildSlice _ _ e=>e.toList.map (·.2)
 | .store _ a v| .binOp _ _ a v _| .makeSlice _ a v| .indexAddr _ a v| .index _ a v| .lookup _ a v _| .mapEntry _ a v| .send a v=>[a,v]
 | .makeFunc _ first j=>first.toList++j.toList
 | .makeMap _ r=>match r with
  |some x=>[x]
  |none=>[]
 | .slice _ x l h m=>x::((match l with
  |some y=>[y]
  |none=>[])++((match h with
  |some y=>[y]
  |none=>[])++(match m with
  |some y=>[y]
  |none=>[])))
 | .mapUpdate _ m k v| .entryStore _ m k v| .insert _ m k v=>[m,k,v]
 | .call c=>match c.callee with
  | .value f=>f::c.args.toList
  | .invoke r _=>r::c.args.toList
  | .builtin _=>c.args.toList
 | .go _| .defer _| .select ..=>[]
theorem Hc{op:Op}(h1:∀c,op≠ .go c)(e:∀c,op≠ .defer c)(f:∀cs b,op≠ .select cs b):∀x∈op.operands,x∈opsOf op:=by
 intro x a;cases op<;>simp only[Op.operands,opsOf]at a ⊢<;>try (first|(simp at a;done)|(simp at a ⊢;exact a))
 case go c=>exact m6 rfl (h1 c)
 case defer c=>exact m6 rfl (e c)
 case select cs b=>exact m6 rfl (f cs b)
 case makeMap t r=>cases r<;>simp at a ⊢<;>exact a
 case slice t y l h m=>cases l<;>cases h<;>cases m<;>simpa[or_assoc]using a
 case call c=>cases j:c.callee<;>simpa[Call.operands,j]using a
def q7(e:R4->x1):Op->Option (Sem x1)
 | .pick c a b=>σ (do pure (if <-asBool (e c)then e a else e b))
 | .alloc j=>σ (P7 j ro (.tuple #[]))
 | .box j x=>σ (Instr.box j (e x))
 | .build t parts=>σ (Instr.build t (partsOf e parts.toList).toArray)
 | .buildSlice t len parts=>σ (X2 t len (partsOf e parts.toList).toArray)
 | .load t a=>σ (u5 t (e a))
 | .nilCheck x=>σ (bR (e x))
 | .binOp op js x y _=>σ (aN op js (pX x) (pX y) (e x) (e y))
 | .unOp op _ x=>σ (Op.unary op (e x))
 | .convert src dst x=>σ (convert src dst (e x))
 | .makeInterface js x=>σ (Instr.makeInterface js (e x))
 | .makeFunc fn first p=>σ (Instr.makeFunc fn (bM e first.toList).toArray (bM e p.toList).toArray)
 | .makeMap t r=>σ (Instr.makeMap t (r.map e))
 | .makeSlice t l c=>σ (Instr.makeSlice t (e l) (e c))
 | .slice t x lo hi mx=>σ (U5 t (e x) (lo.map e) (hi.map e) (mx.map e))
 | .fieldAddr s x f=>σ (u7 s (e x) f)
 | .field js x f=>σ (Instr.field js (e x) f)
 | .indexAddr t x h=>σ (Z0 t (e x) (e h))
 | .index js x h=>σ (Instr.index js (e x) (e h))
 | .lookup js x h ok=>σ (Instr.lookup js (e x) (e h) ok)
 | .mapEntry t m k=>σ (Instr.mapEntry t (e m) (e k))
 | .range js x=>σ (Instr.range js (e x))
 | .entry q=>σ (Instr.entry (e q))
 | .typeAssert x js w ok=>σ (Instr.typeAssert (e x) js w ok)
 | .extract t h=>σ (Y8 (e t) h)
 |_=>ν
def vN(e:R4->x1):Op->Option (Sem Unit)
 | .store t a x=>σ (n9 t (e a) (e x))
 | .mapUpdate t m k x=>σ (Instr.mapUpdate t (e m) (e k) (e x))
 | .insert t m k x=>σ (Instr.mapUpdate t (e m) (e k) (e x))
 | .entryStore t m s x=>σ (Instr.entryStore t (e m) (e s) (e x))
 |_=>ν
def pY(b:Y1)(ats:Array p9)(a:p9)(args:Array x1):Option (Sem x1):=
 match b with
 | .append=>σ (Y0 ats a args)
 | .cap=>σ (Y1.cap_ ats a args)
 | .clear=>σ (Y1.clear_ ats a args)
 | .copy=>σ (Y1.copy_ ats a args)
 | .delete=>σ (Y1.delete_ ats a args)
 | .len=>σ (V7 ats a args)
 | .max=>σ (Y1.max_ ats a args)
 | .min=>σ (Y1.min_ ats a args)
 |_=>ν
theorem Hd{s:Sem Next}(h:(s3 s).run P w= .ok v I):s.run P w= .ok (.value v) I:=by
 unfold s3 at h;rw[V1]at h;cases J:s.run P w with
 |halt x U=>rw[J]at h;simp[V2]at h
 |ok x U=>
  rw[J]at h;cases x<;>simp_all [V2,stuck,U1]
theorem He(x:x1)(b:Bool)(t:p9):Instr.next x b 0=Instr.next x b t:=rfl
theorem vO{f:R4->x1}{o:S2}{s:Sem x1}(h:q7 f o.op=σ s)(a:s.run P w= .ok v I):
  (execOp f o).run P w= .ok (.value v) I:=by
 cases e:o.op with
 |nilCheck x=>
  rw[e]at h;cases h;have:=Hd P a;unfold execOp at this ⊢;simpa[e]using this
 |pick c x y=>
  rw[e]at h;cases h;unfold execOp;simp only[e,V1,U1]at a ⊢;cases j:(asBool (f c)).run P w with
  |halt x U=>rw[j]at a;simp[V2]at a
  |ok x U=>rw[j]at a;simp only[V2,Result.ok.injEq]at a ⊢;simp[a]
 |binOp op js x y p=>
  rw[e]at h;cases h;unfold execOp;simp only[e];unfold aN at a;rw[<-Ha]at a;simp only[V1,U1]at a ⊢;rw[a];rfl
 |_=>
  rw[e]at h
  first
   |(cases h;done)
   |(cases h;simp only[vM,Hb]at a;unfold execOp;simp only[e,V1,a,V2,U1])
   |(cases h;unfold execOp;simp only[e,V1,a,V2,U1])
theorem Hf{a:R4->x1}{o:S2}{s:Sem Unit}(h:vN a o.op=σ s){v:Unit}(f:s.run P w= .ok v I):
  (execOp a o).run P w= .ok .skip I:=by
 cases e:o.op with
 |_=>
  rw[e]at h
  first
   |(cases h;done)
   |(cases h;unfold execOp;simp only[e,V1,f,V2,U1])
def Enters(f:Q9):Prop:=∀args w,(callFunc f args).run P w= .ok (.enter f args) w
inductive al(f:Q9)(args:List x1)(w:x4)(K:x1->x4->Prop):Prop
 |code (h1:Enters P f) (h2:Calls P f args.toArray w λe I=>∃v,e= .returned v/\cN w I/\K v I)
 |W (v:x1) (I:x4) (h1:(callFunc f args.toArray).run P w= .ok (.value v) I) (h2:cN w I) (h3:K v I)
inductive gS(f:Q9)(args:List x1)(w:x4)(K:x1->x4->Prop):Prop
 |code (h1:Enters P f) (h2:Calls P f args.toArray w λe I=>∃v,e= .returned v/\K v I)
 |W (v:x1) (I:x4) (h1:(callFunc f args.toArray).run P w= .ok (.value v) I) (h3:K v I)
theorem gS.calls{f:Q9}{K:x1->x4->Prop}(h:gS P f args w K)(a:Enters P f):Calls P f args.toArray w λe I=>∃v,e= .returned v/\K v I:=by
 cases h with
 |code _ h=>exact h
 |W v I h1=>rw[a]at h1;cases h1
def jf(l:Nat)(args:List x1)(w:x4)(K:x1->x4->Prop):Prop:=
 YieldAt Fence.wide 0 P l args.toArray w λe I=>∃v,e= .returned v/\K v I
theorem jf.Y{P:V5}{l:Nat}{K a:x1->x4->Prop}(h:jf P l args w K)(e:∀v I,K v I->a v I):jf P l args w a:=by
 obtain⟨fn,tmps,f,body,j,p⟩:=h;exact⟨fn,tmps,f,body,j,RoundIn.mono p λ_ I ⟨v,h1,q⟩=>⟨v,h1,e v I q⟩⟩
def s5(free:Bool)(f:x1)(args:List x1)(w:x4)(K:x1->x4->Prop):Prop:=
 match f with
 | .func (.func g) first cap=>bif free then gS P g (first.toList++args++cap.toList) w K else al P g (first.toList++args++cap.toList) w K
 | .func (.yield l) first _=>bif free then free=ro/\jf P l (first.toList++args) w K else jf P l (first.toList++args) w λv I=>cN w I/\K v I
 |_=>False
def ab(s:Sem x1)(w:x4)(K:x1->Prop):Prop:=∃v,(∀I,Ext w I->s.run P I= .ok v I)/\K v
def Hg:List (Nat×Nat):=[(9,22),(22,22)]
def Hh(s d:Nat):Bool:=Hg.any λp=>S6 p.1 s&&S6 p.2 d
def kq(o:S2):Bool:=
 match o.op with
 | .convert s d _=>!Hh s d
 | .move _| .assign _| .pick .. | .load .. | .nilCheck _| .binOp .. | .unOp .. | .makeInterface .. | .makeFunc .. | .slice .. | .fieldAddr .. | .field ..
 | .indexAddr .. | .index .. | .lookup .. | .extract .. | .build .. | .typeAssert ..=>ro
 | .call c=>
  match c.callee with
  | .builtin .len| .builtin .cap| .builtin .min| .builtin .max=>ro
  |_=>rs
 |_=>rs
def cE(s:Sem x1)(v:x1)(I:x4):Prop:=∀a,Ext I a->s.run P a= .ok v a
def mW(o:S2)(e:Env)(w:x4)(K:Env->(x4->Prop)->Prop):Prop:=
 bif known e (opsOf o.op)then
  match o.op with
  | .move x| .assign x=>
   match eS e x with
   |some y=>K (ei e o.dst y) (λ_=>True)
   |none=>False
  | .pick c a b=>
   match eS e c with
   |some (.b ro)=>(match eS e a with|some y=>K (ei e o.dst y) (λ_=>True)|none=>False)
   |some (.b rs)=>(match eS e b with|some y=>K (ei e o.dst y) (λ_=>True)|none=>False)
   |some (.v x)=>Split x (K (ei e o.dst (.v (cV e a))) (λ_=>True)) (K (ei e o.dst (.v (cV e b))) (λ_=>True))
   |some .u=>False
   |none=>False
  | .call c=>
   match c.callee with
   | .builtin b=>
    match pY b c.argTypes o.type (bM (cV e) c.args.toList).toArray with
    |some s=>ab P s w λv=>K (ei e o.dst (.v v)) (cE P s v)
    |none=>False
   |_=>False
  |op=>
   match q7 (cV e) op with
   |some s=>ab P s w λv=>K (ei e o.dst (.v v)) (cE P s v)
   |none=>False
 else False
def vP(free:fN)(o:S2)(e:Env)(w:x4)(K:Env->x4->Prop):Prop:=
 bif known e (opsOf o.op)then
  match o.op with
  | .call c=>
   match c.callee with
   | .builtin b=>
    match pY b c.argTypes o.type (bM (cV e) c.args.toList).toArray with
    |some s=>aH P s w λv I=>K (ei e o.dst (.v v)) I
    |none=>False
   | .value (.func f)=>
    bif free.1 then gS P f (bM (cV e) c.args.toList) w λv I=>K (ei e o.dst (.v v)) I
    else al P f (bM (cV e) c.args.toList) w λv I=>K (ei e o.dst (.v v)) I
   | .value x=>s5 P free.1 (cV e x) (bM (cV e) c.args.toList) w λv I=>K (ei e o.dst (.v v)) I
   | .invoke _ _=>False
  | .next x str=>sZ P free (Instr.next (cV e x) str 0) w λv I=>K (ei e o.dst (.v v)) I
  |op=>
   match q7 (cV e) op with
   |some s=>aH P s w λv I=>K (ei e o.dst (.v v)) I
   |none=>
    match vN (cV e) op with
    |some s=>aH P s w λ_ I=>K (ei e o.dst (.v undef)) I
    |none=>False
 else False
def pZ(free:fN)(o:S2)(e:Env)(w:x4)(K:Env->x4->Prop):Prop:=
 bif kq o then mW P o e w (λa _=>K a w)else vP P free o e w K
theorem Enters.of{f:Q9}{fn:Func}{c:Code}(a:P.funcs[f]?=σ fn)(e:fn.body=σ c)(h:(fn.name == "runtime.NumGoroutine")=rs):Enters P f:=by
 intro args w;have j:fn.name≠ "runtime.NumGoroutine":=by simpa using h
 unfold callFunc;simp[V1,program,Sem.run,V2,a,j,e,U1]
variable{P}
variable{N:Nat}{r:Option Nat}{o:S2}{e:Env}{a:Act}{w:x4}
theorem lE(f:Q1 N e a)(hk:known e (opsOf o.op)=ro)(J:∀cs b,o.op≠ .select cs b)(h:∀c,o.op≠ .go c:=by simp_all)(j:∀c,o.op≠ .defer c:=by simp_all):
  execOp a.eval o=execOp (cV e) o:=
 execOp_congr o J λx p=>f.eval (vK hk x (Hc h j J x p))
theorem q8{next:Act->x4->Prop}{Q:Exit->Act->x4->Prop}(j:Q1 N e a)(hk:known e (opsOf o.op)=ro)(J:∀cs b,o.op≠ .select cs b)(f:∀c,o.op≠ .defer c){v:x1}{I:x4}(p:(execOp (cV e) o).run P w= .ok (.value v) I)(h:next (a.put o.dst v) I)(q:∀c,o.op≠ .go c:=by simp_all):o.wpIn (eL r) 0 P a w next Q:=by
 refine⟨λ_ _=>trivial,?_⟩;rw[S2.semAt_eq _ _ _ f,lE j hk J q f,p,S2.uponIn_value];exact h
theorem Hi{next:Act->x4->Prop}{Q:Exit->Act->x4->Prop}(j:Q1 N e a)(hk:known e (opsOf o.op)=ro)(J:∀cs b,o.op≠ .select cs b)(f:∀c,o.op≠ .defer c){I:x4}(p:(execOp (cV e) o).run P w= .ok .skip I)(h:next (a.put o.dst undef) I)(q:∀c,o.op≠ .go c:=by simp_all):o.wpIn (eL r) 0 P a w next Q:=by
 refine⟨λ_ _=>trivial,?_⟩;rw[S2.semAt_eq _ _ _ f,lE j hk J q f,p,S2.uponIn_skip];exact h
def fy(N:Nat)(free:fN)(K:Env->x4->Prop)(o:S2)(a:Act)(w:x4)(a':Act)(I:x4):Prop:=
 ∃e v,K e I/\Q1 N e a'/\a'=a.put o.dst v/\(free.1=rs->cI free.2 w I)
theorem fy.of{free:fN}{K:Env->x4->Prop}{x:eK}(f:K (ei e o.dst x) I)(h:Q1 N e a)(j:kU N o.dst=ro)(p:x.val=v)(q:free.1=rs->cI free.2 w I):fy N free K o a w (a.put o.dst v) I:=⟨_,v,f,h.put j p,rfl,q⟩
theorem zv{free:fN}{K:Env->x4->Prop}{Q:Exit->Act->x4->Prop}{f:Q9}{args:Array x1}(p:Q1 N e a)(q:kU N o.dst=ro)(h:Calls P f args w λj I=>∃v,j= .returned v/\(free.1=rs->cI free.2 w I)/\K (ei e o.dst (.v v)) I):
  o.uponIn (eL r) 0 P a (fy N free K o a w) Q (.ok (.enter f args) w):=by
 rw[S2.uponIn_enter];refine⟨vL _ _,CallsIn.mono (zt h) ?_⟩;rintro j I ⟨v,rfl,s,x⟩;exact fy.of x p q rfl s
theorem mX{x:R4}{y:eK}(h:eS e x=σ y):cV e x=y.val:=by simp[cV,h]
theorem zw{l:List R4}{x:R4}(hk:known e l=ro)(a:x∈l):∃y,eS e x=σ y:=Option.isSome_iff_exists.1 (vK hk x a)
theorem zx{K:Env->(x4->Prop)->Prop}(h:mW P o e w K)(A:Q1 N e a)(M:kU N o.dst=ro):
  ∃v,∃st:x4->Prop,(∀I,Ext w I->(execOp a.eval o).run P I= .ok (.value v) I)/\(∃B,K B st/\Q1 N B (a.put o.dst v))/\(∀c,o.op≠ .defer c)/\
   (∀I,st I->∀j,Ext I j->(execOp a.eval o).run P j= .ok (.value v) j):=by
 unfold mW at h;cases hk:known e (opsOf o.op)with
 |false=>rw[hk]at h;exact h.elim
 |true=>
  rw[hk]at h;simp only[cond_true]at h;have put:∀{x:eK}{v:x1}{st:x4->Prop},K (ei e o.dst x) st->x.val=v->∃B,K B st/\Q1 N B (a.put o.dst v):=λh1 C=>⟨_,h1,A.put M C⟩;cases f:o.op with
  |move x=>
   rw[f]at h;simp only at h;cases q:eS e x with
   |none=>rw[q]at h;exact h.elim
   |some y=>
    rw[q]at h;have all:∀I:x4,(execOp a.eval o).run P I= .ok (.value y.val) I:=λI=>by
     rw[lE A hk (by simp[f])];unfold execOp;simp only[f,U1,mX q]
    exact⟨y.val,_,λI _=>all I,put h rfl,Ξ,λ_ _ j _=>all j⟩
  |assign x=>
   rw[f]at h;simp only at h;cases q:eS e x with
   |none=>rw[q]at h;exact h.elim
   |some y=>
    rw[q]at h;have all:∀I:x4,(execOp a.eval o).run P I= .ok (.value y.val) I:=λI=>by
     rw[lE A hk (by simp[f])];unfold execOp;simp only[f,U1,mX q]
    exact⟨y.val,_,λI _=>all I,put h rfl,Ξ,λ_ _ j _=>all j⟩
  |pick c x y=>
   rw[f]at h;simp only at h;have F:=hk;rw[f]at F;obtain⟨S,q⟩:=zw F (x:=x) (by simp[opsOf]);obtain⟨T,L⟩:=zw F (x:=y) (by simp[opsOf]);have E:∀(t:Bool)(I:x4),cV e c= .bool t->(execOp a.eval o).run P I= .ok (.value (if t=ro then cV e x else cV e y)) I:=by
    intro t I G;rw[lE A hk (by simp[f])];unfold execOp;simp[f,G,asBool,U1]
   cases p:eS e c with
   |none=>rw[p]at h;exact h.elim
   |some O=>
    rw[p]at h;cases O with
    |b t=>
     cases t with
     |true=>
      simp only[q]at h;exact⟨_,_,λI _=>E ro I (mX p),put h (by simp[mX q]),Ξ,λ_ _ I _=>E ro I (mX p)⟩
     |false=>
      simp only[L]at h;exact⟨_,_,λI _=>E rs I (mX p),put h (by simp[mX L]),Ξ,λ_ _ I _=>E rs I (mX p)⟩
    |v z=>
     obtain⟨t,Q,G,R⟩:=h;have r:=λI=>E t I (by rw[mX p];exact Q);cases t with
     |true=>exact⟨_,_,λI _=>r I,put (G rfl) rfl,Ξ,λ_ _ I _=>r I⟩
     |false=>exact⟨_,_,λI _=>r I,put (R rfl) rfl,Ξ,λ_ _ I _=>r I⟩
    |u=>exact h.elim
  |call c=>
   rw[f]at h;simp only at h;cases p:c.callee with
   |builtin b=>
    rw[p]at h;simp only at h;rw[vM]at h;cases J:pY b c.argTypes o.type (c.args.map (cV e))with
    |none=>rw[J]at h;exact h.elim
    |some s=>
     rw[J]at h;obtain⟨v,r,H⟩:=h;have all:∀I:x4,s.run P I= .ok v I->(execOp a.eval o).run P I= .ok (.value v) I:=λI r=>by
      rw[lE A hk (by simp[f])];unfold execOp;cases b<;>simp only[pY]at J<;>first|(cases J;done)|(cases J;simp[f,p,resolve,invoke,builtin,r,V2])
     exact⟨v,_,λI hw=>all I (r I hw),put H rfl,Ξ,λI h1 j C=>all j (h1 j C)⟩
   |value x=>rw[p]at h;exact h.elim
   |invoke x m=>rw[p]at h;exact h.elim
  |_=>
   rw[f]at h
   first
    |(simp only[q7]at h;done)
    |(obtain⟨v,r,H⟩:=h
      refine⟨v,_,λI hw=>?_,put H rfl,Ξ,λI h1 j C=>?_⟩
      .rw[lE A hk (by simp[f])];exact vO P (by rw[f];rfl) (r I hw)
      .rw[lE A hk (by simp[f])];exact vO P (by rw[f];rfl) (h1 j C))
theorem Hj{free:fN}{K:Env->x4->Prop}{Q:Exit->Act->x4->Prop}(h:vP P free o e w K)(p:Q1 N e a)(C:kU N o.dst=ro):
  o.wpIn (eL r) 0 P a w (fy N free K o a w) Q:=by
 unfold vP at h;cases hk:known e (opsOf o.op)with
 |false=>rw[hk]at h;exact h.elim
 |true=>
  rw[hk]at h;simp only[cond_true]at h;cases j:o.op with
  |call c=>
   rw[j]at h;simp only at h;cases E:c.callee with
   |builtin b=>
    rw[E]at h;simp only at h;rw[vM]at h;cases J:pY b c.argTypes o.type (c.args.map (cV e))with
    |none=>rw[J]at h;exact h.elim
    |some s=>
     rw[J]at h;obtain⟨v,I,q,A,B⟩:=h;refine q8 p hk (by simp[j]) (by simp[j]) (v:=v) ?_ (fy.of B p C rfl λ_=>A.b);unfold execOp;cases b<;>simp only[pY]at J<;>first|(cases J;done)|(cases J;simp[j,E,resolve,invoke,builtin,q,V2])
   |value x=>
    rw[E]at h;have step:∀(d:Deferred)(y:x1),cV e x=y->Deferred.ofValue y (c.args.map (cV e))=pure d->
      (invoke d.target d.args).run P w=(execOp (cV e) o).run P w:=by
     intro d y z S;unfold execOp;simp only[j,E,resolve,z,S,V1,U1,V2]
    have G:∀(g:Q9)(first cap:Array x1),cV e x= .func (.func g) first cap->
      (execOp (cV e) o).run P w=(callFunc g (first.toList++bM (cV e) c.args.toList++cap.toList).toArray).run P w:=by
     intro g first cap z
     rw[<-step {target:=.fn (.func g) cap,args:=first++c.args.map (cV e)} _ z rfl];simp only[invoke];have H:first++c.args.map (cV e)++cap=(first.toList++bM (cV e) c.args.toList++cap.toList).toArray:=by apply Array.toList_inj.1;simp[s4]
     rw[H]
    have enter:∀(g:Q9)(first cap:Array x1),cV e x= .func (.func g) first cap->Enters P g->
      (execOp (cV e) o).run P w= .ok (.enter g (first.toList++bM (cV e) c.args.toList++cap.toList).toArray) w:=by
     intro g first cap z F
     rw[G g first cap z,F]
    have go:∀(g:Q9)(first cap:Array x1),cV e x= .func (.func g) first cap->
      (bif free.1 then gS P g (first.toList++bM (cV e) c.args.toList++cap.toList) w λv I=>K (ei e o.dst (.v v)) I
       else al P g (first.toList++bM (cV e) c.args.toList++cap.toList) w λv I=>K (ei e o.dst (.v v)) I)->
      o.wpIn (eL r) 0 P a w (fy N free K o a w) Q:=by
     intro g first cap z h
     obtain⟨fr,T⟩:=free;cases fr with
     |true=>
      rcases h with⟨F,L⟩|⟨v,I,q,B⟩
      .refine⟨λ_ _=>trivial,?_⟩;rw[S2.semAt_eq _ _ _ (by simp[j]),lE p hk (by simp[j])];rw[enter g first cap z F];exact zv p C (L.Y λR I ⟨v,h1,M⟩=>⟨v,h1,(λh=>by cases h),M⟩)
      .rw[<-G g first cap z]at q;exact q8 p hk (by simp[j]) (by simp[j]) q (fy.of B p C rfl λh=>by cases h)
     |false=>
      rcases h with⟨F,L⟩|⟨v,I,q,A,B⟩
      .refine⟨λ_ _=>trivial,?_⟩;rw[S2.semAt_eq _ _ _ (by simp[j]),lE p hk (by simp[j])];rw[enter g first cap z F];exact zv p C (L.Y λR I ⟨v,h1,A,M⟩=>⟨v,h1,λ_=>A.b,M⟩)
      .rw[<-G g first cap z]at q;exact q8 p hk (by simp[j]) (by simp[j]) q (fy.of B p C rfl λ_=>A.b)
    have O:s5 P free.1 (cV e x) (bM (cV e) c.args.toList) w (λv I=>K (ei e o.dst (.v v)) I)->
      o.wpIn (eL r) 0 P a w (fy N free K o a w) Q:=by
     intro h;unfold s5 at h;split at h
     .rename_i g first cap z
      exact go g first cap z h
     .rename_i l first cap z
      obtain⟨fn,tmps,U,body,V,W⟩:jf P l (first.toList++bM (cV e) c.args.toList) w λv I=>(free.1=rs->cI free.2 w I)/\K (ei e o.dst (.v v)) I:=by
       obtain⟨fr,T⟩:=free;cases fr with
       |true=>exact jf.Y h.2 λv I hk=>⟨(λh=>by cases h),hk⟩
       |false=>exact jf.Y h λv I hk=>⟨λ_=>hk.1.b,hk.2⟩
      refine⟨λ_ _=>trivial,?_⟩;rw[S2.semAt_eq _ _ _ (by simp[j]),lE p hk (by simp[j])];have:(execOp (cV e) o).run P w= .ok (.round l fn tmps U body) w:=by
       rw[<-step {target:=.fn (.yield l) cap,args:=first++c.args.map (cV e)} _ z rfl,<-V];have H:(first.toList++bM (cV e) c.args.toList).toArray=first++c.args.map (cV e):=by apply Array.toList_inj.1;simp[s4]
       rw[H];rfl
      rw[this,S2.uponIn_round];refine⟨vL _ _,?_⟩;have X:=W;refine RoundIn.mono X ?_;rintro R I ⟨v,rfl,A,B⟩;exact fy.of B p C rfl A
     .exact h.elim
    cases x with
    |func f=>exact go f #[] #[] rfl (by simpa using h)
    |tmp t=>exact O h
    |const v=>exact O h
    |global g=>exact O h
   |invoke x m=>rw[E]at h;exact h.elim
  |next x str=>
   rw[j]at h;obtain⟨v,I,q,A,B⟩:=h;refine q8 p hk (by simp[j]) (by simp[j]) (v:=v) ?_ (fy.of B p C rfl A);rw[He _ _ o.type]at q;unfold execOp;simp only[j,V1,q,V2,U1]
  |_=>
   rw[j]at h
   first
    |(simp only[q7,vN]at h;done)
    |(obtain⟨v,I,q,A,B⟩:=h
      exact q8 p hk (by simp[j]) (by simp[j]) (vO P (by rw[j];rfl) q) (fy.of B p C rfl λ_=>A.b))
    |(obtain⟨v,I,q,A,B⟩:=h
      exact Hi p hk (by simp[j]) (by simp[j]) (Hf P (by rw[j];rfl) q) (fy.of B p C rfl λ_=>A.b))
theorem s6{free:fN}{K:Env->x4->Prop}{Q:Exit->Act->x4->Prop}(h:pZ P free o e w K)(j:Q1 N e a)(p:kU N o.dst=ro):
  o.wpIn (eL r) 0 P a w (fy N free K o a w) Q:=by
 unfold pZ at h;cases q:kq o with
 |false=>rw[q]at h;exact Hj h j p
 |true=>
  rw[q]at h;have h:mW P o e w (λf _=>K f w):=h;obtain⟨v,st,s,⟨f,x,y⟩,z,_⟩:=zx h j p;refine⟨λ_ _=>trivial,?_⟩;rw[S2.semAt_eq _ _ _ z,s w (Ext.refl _),S2.uponIn_value];exact⟨f,v,x,y,rfl,λ_=>cI.refl _ _⟩
end
section
variable{P:V5}
def Still{α:Type}(P:V5)(s:Sem α):Prop:=∀w v U,s.run P w= .ok v U->U=w/\∀I,s.run P I= .ok v I
theorem Still.pure{α:Type}(a:α):Still P (Pure.pure a:Sem α):=λw v U h=>by
 rw[U1]at h;cases h;exact⟨rfl,λI=>by rw[U1]⟩
theorem Still.bind{α β:Type}{s:Sem α}{f:α->Sem β}(J:Still P s)(j:∀a,Still P (f a)):Still P (s >>= f):=λw v U h=>by
 rw[V1]at h;cases e:s.run P w with
 |halt x aa=>rw[e]at h;simp[V2]at h
 |ok a aa=>
  rw[e]at h;obtain⟨rfl,p⟩:=J w a aa e;obtain⟨rfl,q⟩:=j a _ v U h;exact⟨rfl,λI=>by rw[V1,p I];exact q I⟩
theorem Still.never{α:Type}{s:Sem α}(h:∀w v U,s.run P w≠ .ok v U):Still P s:=λw v U aW=>m6 aW (h w v U)
theorem Still.stuck{α:Type}(m:String):Still P (stuck m:Sem α):=.never λw v U h=>by simp[Go.stuck]at h
theorem Still.unsupported{α:Type}(m):Still P (unsupported m:Sem α):=.never λw v U h=>by simp[Go.unsupported]at h
theorem Still.program:Still P program:=λw v U h=>by cases h;exact⟨rfl,λ_=>rfl⟩
theorem Still.underlying(t:p9):Still P (underlying t):=Still.bind .program λp=>by
 cases p.underlying t with
 |some d=>exact Still.pure d
 |none=>exact Still.stuck _
theorem Still.typeInfo(t:p9):Still P (typeInfo t):=Still.bind .program λp=>by
 cases p.info? t with
 |some d=>exact Still.pure d
 |none=>exact Still.stuck _
theorem Still.sizeOf(t:p9):Still P (sizeOf t):=Still.bind (.typeInfo t) λ_=>Still.pure _
theorem Still.boundsPanic{α:Type}(k:o7)(x y:Int)(c:BoundsCode):Still P (boundsPanic k x y c:Sem α):=.never λw v U h=>by
 have e:∀(s:Sem Bool)(w:x4)(v:α)(U:x4),(s >>= λb=>(runtimePanic (.bounds (W6.wrap x) y b c):Sem α)).run P w≠ .ok v U:=by
  intro s w v U h;rw[V1]at h;cases f:s.run P w with
  |halt x aa=>rw[f]at h;simp[V2]at h
  |ok a aa=>rw[f]at h;simp[V2,Go.runtimePanic,Go.goPanic]at h
 unfold Go.boundsPanic at h;dsimp only at h;split at h
 .exact e _ _ _ _ h
 .exact e _ _ _ _ h
theorem Still.asIntOf(v:x1):Still P (asIntOf v):=by
 unfold Go.asIntOf;split
 .exact Still.pure _
 .exact Still.unsupported _
 .exact Still.stuck _
theorem Still.sureAddr(v:x1):Still P (Instr.sureAddr v):=by
 unfold Instr.sureAddr;split
 .exact Still.pure _
 .exact Still.stuck _
theorem Still.extract(v:x1)(i:Nat):Still P (Y8 v i):=by
 unfold Y8;split
 .split
  .exact Still.pure _
  .exact Still.stuck _
 .exact Still.stuck _
theorem Still.indexAt(t:p9)(x i:x1):Still P (Z0 t x i):=by
 have tail:∀(t:p9)(k:o7)(i:Int)(base:Option Addr)(len:Nat)(e:p9),Still P (do
   let f:=len<=1&&(match <-Go.underlying t with| .array ..=>ro|_=>rs)
   match base with
   |some a=>
    if 0<=i/\i<len then Pure.pure (x1.pointer (σ (a.add (i.toNat*(<-Go.sizeOf e)))))
    else if f then Go.unsupported (.noEntry "op/indexAddr.an index out of range at an array of length 0 or 1 (ledger 616)")
    else Go.boundsPanic k i len .index
   |none=>Go.boundsPanic k i 0 .index):=by
  intro t k i base len e;refine .bind (.underlying t) λd=>?_;cases base with
  |none=>exact Still.boundsPanic _ _ _ _
  |some a=>
   dsimp only;split
   .exact .bind (.sizeOf e) λ_=>.pure _
   .split<;>split<;>first|exact Still.unsupported _|exact Still.boundsPanic _ _ _ _
 unfold Z0;refine .bind (.asIntOf i) λh=>?_;refine .bind (.underlying t) λd=>?_;split
 .refine .bind (.sureAddr _) λb=>?_;refine .bind (.pure _) λy=>?_;exact tail _ _ _ _ _ _
 .refine .bind (.pure _) λy=>?_;exact tail _ _ _ _ _ _
 .refine .bind (.stuck _) λy=>?_;exact tail _ _ _ _ _ _
end
section
variable(P:V5)
def s7(free:fN)(ops:Array S2)(o:S2)(e:Env)(w:x4)(K:Env->x4->Prop):Prop:=
 match o.guard with
 |none=>pZ P free o e w K
 |some (j,b)=>
  match(ops[j]?).bind (·.dst)with
  |none=>False
  |some s=>
   match look e s with
   |some (.b c)=>bif xor c b then K (ei e o.dst .u) w else pZ P free o e w K
   |some (.v x)=>
    Split x (bif b then pZ P free o ((s,.b ro)::e) w K else K (ei ((s,.b ro)::e) o.dst .u) w)
     (bif b then K (ei ((s,.b rs)::e) o.dst .u) w else pZ P free o ((s,.b rs)::e) w K)
   |some .u=>K (ei e o.dst .u) w
   |none=>False
def p0(free:fN)(ops:Array S2):List S2->Env->x4->(Env->x4->Prop)->Prop
 |[],e,w,K=>K e w
 |o::l,e,w,K=>s7 P free ops o e w λa I=>p0 free ops l a I K
def vQ(ops:Array S2)(o:S2)(e:Env)(w:x4)(K:Env->(x4->Prop)->Prop):Prop:=
 match o.guard with
 |none=>mW P o e w K
 |some (j,b)=>
  match(ops[j]?).bind (·.dst)with
  |none=>False
  |some s=>
   match look e s with
   |some (.b c)=>bif xor c b then K (ei e o.dst .u) (λ_=>True)else mW P o e w K
   |some (.v x)=>
    Split x (bif b then mW P o ((s,.b ro)::e) w K else K (ei ((s,.b ro)::e) o.dst .u) (λ_=>True))
     (bif b then K (ei ((s,.b rs)::e) o.dst .u) (λ_=>True)else mW P o ((s,.b rs)::e) w K)
   |some .u=>K (ei e o.dst .u) (λ_=>True)
   |none=>False
def mY(o:S2):Bool:=
 match o.op with
 | .move _| .assign _| .extract .. | .indexAddr ..=>ro
 |_=>rs
def nK(ops:Array S2):List Nat->Option Nat
 |[]=>ν
 |i::r=>match ops[i]? with
  |some o=>bif kq o then σ i else nK ops r
  |none=>nK ops r
def vR(p:Nat->Prop):List Nat->Prop
 |[]=>True
 |[i]=>p i
 |i::r=>p i/\vR p r
def mc(a:Array Nat)(j k:Nat):Bool:=!(S6 k j)&&(!((a.getD j 0).testBit k)&& !((a.getD k 0).testBit j))
def s8(same:Bool)(q:Nat)(w:x4)(st:x4->Prop)(a:List (x4×List (Nat×(x4->Prop)))):List (x4×List (Nat×(x4->Prop))):=
 match same,a with
 |true,g::r=>(g.1,(q,st)::g.2)::r
 |_,a=>(w,[(q,st)])::a
def q9(a:Array Nat)(j:Nat):List (Nat×(x4->Prop))->Bool
 |[]=>rs
 |x::r=>mc a j x.1||q9 a j r
def p1(a:Array Nat)(j:Nat)(I:x4):List (Nat×(x4->Prop))->Prop
 |[]=>True
 |x::r=>bif mc a j x.1 then x.2 I/\p1 a j I r else p1 a j I r
def oJ(a:Array Nat)(j:Nat)(I:x4)(C:Prop):List (x4×List (Nat×(x4->Prop)))->Prop
 |[]=>C
 |g::r=>bif q9 a j g.2 then(Ext g.1 I\/p1 a j I g.2)/\oJ a j I C r else oJ a j I C r
def nL(free:fN)(ops:Array S2)(f:Array Nat):Nat->Array Bool->Bool->List (x4×List (Nat×(x4->Prop)))->Env->x4->(Env->x4->Prop)->Prop
 |0,a,_,_,e,w,K=>match Region.ready .any ops a with|[]=>K e w|_=>False
 |fuel+1,a,same,h,e,w,K=>
  match Region.ready .any ops a with
  |[]=>K e w
  |i::r=>
   match nK ops (i::r)with
   |some q=>
    bif Region.free .any ops a q then
     match ops[q]? with
     |some o=>vQ P ops o e w λp st=>
       bif mY o then nL free ops f fuel (a.setIfInBounds q ro) same h p w K
       else nL free ops f fuel (a.setIfInBounds q ro) ro (s8 same q w st h) p w K
     |none=>False
    else False
   |none=>
    vR (λj=>match ops[j]? with
     |some o=>s7 P free ops o e w λp I=>oJ f j I (nL free ops f fuel (a.setIfInBounds j ro) rs h p I K) h
     |none=>False) (i::r)
def vS(free:fN)(ops:Array S2)(e:Env)(w:x4)(K:Env->x4->Prop):Prop:=
 bif Region.noSelect ops then nL P free ops (Region.before ops) ops.size (Array.replicate ops.size rs) rs [] e w K else False
end
section
variable{P:V5}{N:Nat}{r:Option Nat}{free:fN}{ops:Array S2}
theorem Hk{e:Env}{a:Act}(p:Q1 N e a){s:Nat}{c:Bool}(q:(ops[j]?).bind (·.dst)=σ s){x:eK}(J:look e s=σ x)(r:x.val= .bool c):
  yielded ops a.tmps j=σ c:=by
 have h:=p.2 s x J;rw[r]at h;have w:a.tmps[s]?=σ (.bool c):=by
  rw[Array.getD_eq_getD_getElem?]at h;cases f:a.tmps[s]? with
  |none=>rw[f]at h;simp[undef]at h
  |some y=>rw[f]at h;simpa using h
 simp[yielded,q,w]
theorem s9{e:Env}{a:Act}(f:Q1 N e a){o:S2}{s:Nat}{b c:Bool}(h:o.guard=σ (j,b))(p:(ops[j]?).bind (·.dst)=σ s){x:eK}(J:look e s=σ x)(q:x.val= .bool c):Region.wanted o (yielded ops a.tmps)= !(xor c b):=by
 simp only[Region.wanted,h,Hk f p J q];cases c<;>cases b<;>rfl
theorem zy{e:Env}{a:Act}(p:Q1 N e a){o:S2}{s:Nat}{b:Bool}(q:o.guard=σ (j,b))(r:(ops[j]?).bind (·.dst)=σ s)(J:look e s=σ .u):Region.wanted o (yielded ops a.tmps)=rs:=by
 have h:=p.2 s .u J;have w:yielded ops a.tmps j=ν:=by
  rw[Array.getD_eq_getD_getElem?]at h;unfold yielded;rw[r];cases f:a.tmps[s]? with
  |none=>simp[f]
  |some y=>
   rw[f]at h;simp only[V9,eK.val]at h;subst h;simp[f,undef]
 simp[Region.wanted,q,w]
theorem Q1.lit{e:Env}{a:Act}(h:Q1 N e a){s:Nat}{x:eK}{c:Bool}(J:look e s=σ x)(p:x.val= .bool c):Q1 N ((s,.b c)::e) a:=by
 refine⟨h.1,λt y f=>?_⟩;simp only[look]at f;cases j:S6 s t with
 |true=>
  have:s=t:=Nat.eq_of_beq_eq_true j;subst this;simp only[j,cond_true,X4]at f;subst f;rw[h.2 s x J,p];rfl
 |false=>simp only[j,cond_false]at f;exact h.2 t y f
theorem zz{o:S2}{e:Env}{a:Act}{K:Env->x4->Prop}{Q:Exit->Act->x4->Prop}(h:s7 P free ops o e w K)(f:Q1 N e a)(p:kU N o.dst=ro):
  (Region.wanted o (yielded ops a.tmps)=ro/\o.wpIn (eL r) 0 P a w (fy N free K o a w) Q)\/
  (Region.wanted o (yielded ops a.tmps)=rs/\fy N free K o a w (a.put o.dst undef) w):=by
 unfold s7 at h;cases q:o.guard with
 |none=>rw[q]at h;exact .inl ⟨by simp[Region.wanted,q],s6 h f p⟩
 |some F=>
  obtain⟨j,b⟩:=F;rw[q]at h;simp only at h;cases z:(ops[j]?).bind (·.dst)with
  |none=>rw[z]at h;exact h.elim
  |some s=>
   rw[z]at h;simp only at h;cases J:look e s with
   |none=>rw[J]at h;exact h.elim
   |some x=>
    rw[J]at h;cases x with
    |b c=>
     simp only at h;have hw:=s9 f q z J rfl;cases E:xor c b with
     |true=>
      rw[E]at h hw;exact .inr ⟨hw,fy.of h f p rfl λ_=>cI.refl _ _⟩
     |false=>
      rw[E]at h hw;exact .inl ⟨hw,s6 h f p⟩
    |v y=>
     simp only at h;obtain⟨c,rfl,A,B⟩:=h;have hw:=s9 f q z J rfl;have C:=f.lit J rfl;cases c with
     |true=>
      have A:=A rfl;cases b with
      |true=>exact .inl ⟨hw,s6 A C p⟩
      |false=>exact .inr ⟨hw,fy.of A C p rfl λ_=>cI.refl _ _⟩
     |false=>
      have B:=B rfl;cases b with
      |true=>exact .inr ⟨hw,fy.of B C p rfl λ_=>cI.refl _ _⟩
      |false=>exact .inl ⟨hw,s6 B C p⟩
    |u=>exact .inr ⟨zy f q z J,fy.of h f p rfl λ_=>cI.refl _ _⟩
def gT(D:List Nat)(a a':Act):Prop:=a'.defers=a.defers/\∀t,t∉D->a'.tmps.getD t undef=a.tmps.getD t undef
theorem gT.refl(D:List Nat)(a:Act):gT D a a:=⟨rfl,λ_ _=>rfl⟩
theorem gT.F{a b c:Act}(h:gT D a b)(k:gT D b c):gT D a c:=⟨k.1.F h.1,λt e=>(k.2 t e).F (h.2 t e)⟩
theorem gT.put(a:Act){d:Option Tmp}(v:x1)(e:∀t,d=σ t->t∈D):gT D a (a.put d v):=by
 cases d with
 |none=>exact gT.refl _ _
 |some s=>
  refine⟨rfl,λt f=>?_⟩;have j:s≠t:=λh=>f (h▸e s rfl);simp only[Act.put,Array.getD_eq_getD_getElem?];rw[Array.getElem?_setIfInBounds_ne j]
def nM(N:Nat)(free:fN)(K:Env->x4->Prop)(D:List Nat)(a:Act)(w:x4)(a':Act)(I:x4):Prop:=
 ∃e,K e I/\Q1 N e a'/\gT D a a'/\(free.1=rs->cI free.2 w I)
theorem nM.step{K:Env->x4->Prop}{a e a':Act}{U:x4}(h:nM N free K D e U a' I)(hk:gT D a e)(j:free.1=rs->cI free.2 w U):
  nM N free K D a w a' I:=by
 obtain⟨p,h1,q,r,s⟩:=h;exact⟨p,h1,q,hk.F r,λf=>(j f).F (s f)⟩
def oK(N:Nat)(l:List S2):Bool:=l.all λo=>kU N o.dst
theorem Hl{K:Env->x4->Prop}{Q:Exit->Act->x4->Prop}(B:∀o∈ops.toList,∀t,o.dst=σ t->t∈D)(y:oK N ops.toList=ro):
  ∀(l:List S2)(k:Nat)(e:Env)(a:Act)(w:x4),(∀j,l[j]?=ops[k+j]?)->p0 P free ops l e w K->Q1 N e a->
   (∀a' I,nM N free K D a w a' I->Q .normal a' I)->wpOpsIn (eL r) 0 P ops Q (List.range' k l.length) a w:=by
 intro l;induction l with
 |nil=>
  intro k e a w _ h f p;exact p a w ⟨e,h,f,gT.refl _ _,λ_=>cI.refl _ _⟩
 |cons o l C=>
  intro k e a w z h f p;have q:=z 0;simp only[List.getElem?_cons_zero,Nat.add_zero]at q;have A:o∈ops.toList:=by
   have:=q.symm;rw[<-Q3]at this;exact x6 this
  have E:kU N o.dst=ro:=by
   simp only[oK,List.all_eq_true]at y;exact y o A
  have F:∀j,l[j]?=ops[k+1+j]?:=λj=>by
   have:=z (j+1);rw[List.getElem?_cons_succ]at this;rw[this];congr 1;omega
  have next:∀s U,fy N free (λG I=>p0 P free ops l G I K) o a w s U->wpOpsIn (eL r) 0 P ops Q (List.range' (k+1) l.length) s U:=by
   rintro s U ⟨H,v,J,L,rfl,M⟩;refine C (k+1) H _ U F J L λa' I ac=>p a' I (ac.step (gT.put a v λt O=>B o A t O) M)
  simp only[p0]at h;show wpOpsIn (eL r) 0 P ops Q (k::List.range' (k+1) l.length) a w;unfold wpOpsIn;rw[<-q];simp only;rcases zz h f E with⟨hw,x⟩|⟨hw,x⟩
  .rw[m3 hw];exact S2.wpIn_mono next x
  .rw[hw];exact⟨λ_ _=>trivial,next _ _ x⟩
theorem Hm{K:Env->x4->Prop}{Q:Exit->Act->x4->Prop}{id:Nat}{e:Env}{a:Act}(f:∀o∈ops.toList,∀t,o.dst=σ t->t∈D)(p:oK N ops.toList=ro)(h:p0 P free ops ops.toList e w K)(q:Q1 N e a)(s:∀a' I,nM N free K D a w a' I->Q .normal a' I):
  (Code.region id ops rs).wpIn (eL r) 0 P Q a w:=by
 refine wpIn_region ?_;have:=Hl (r:=r) f p ops.toList 0 e a w (λj=>Ξ) h q s;rw[List.range_eq_range'];simpa using this
end
section
variable{P:V5}{N:Nat}{r:Option Nat}{free:fN}{ops:Array S2}{Q:Exit->Act->x4->Prop}
theorem Hn(e:Option Nat)(o:S2)(J:∀cs b,o.op≠ .select cs b)(a:Act)(d:Option Tmp)(v:x1)(h:∀t,d=σ t->t∉o.looksAt ops):
  o.semAt e (a.put d v).eval=o.semAt e a.eval:=by
 have he:=execOp_put o J a d v h;unfold S2.semAt;split
 .rename_i l c f;have:resolve (a.put d v).eval c o.type=resolve a.eval c o.type:=resolve_congr c o.type λx j=>Act.eval_put λt p q=>h t p (by
   subst q;refine List.mem_append_left _ (List.mem_filterMap.2 ⟨.tmp t,?_,rfl⟩);rw[f];simpa[Op.operands]using j)
  rw[this]
 .exact he
def nN(o:S2)(w0:x4)(st:x4->Prop)(I:x4):Prop:=mY o=ro\/Ext w0 I\/∃U,st U/\Ext U I
theorem nN.W{o:S2}{w0:x4}{st:x4->Prop}(h:nN o w0 st w)(k:Ext w I):nN o w0 st I:=by
 rcases h with h|h|⟨U,h1,a⟩
 .exact .inl h
 .exact .inr (.inl (h.F k))
 .exact .inr (.inr ⟨U,h1,a.F k⟩)
theorem Ho{o:S2}(hm:mY o=ro){e:R4->x1}(h:(execOp e o).run P w= .ok (.value v) w):(execOp e o).run P I= .ok (.value v) I:=by
 unfold mY at hm;split at hm
 .rename_i x a;unfold execOp at h ⊢;simp only[a,U1,Result.ok.injEq,and_true]at h ⊢;exact h
 .rename_i x a;unfold execOp at h ⊢;simp only[a,U1,Result.ok.injEq,and_true]at h ⊢;exact h
 .rename_i x i a;unfold execOp at h ⊢;simp only[a]at h ⊢;exact((Still.bind (Still.extract _ _) λ_=>Still.pure _) _ _ _ h).2 _
 .rename_i t x i a;unfold execOp at h ⊢;simp only[a]at h ⊢;exact((Still.bind (Still.indexAt _ _ _) λ_=>Still.pure _) _ _ _ h).2 _
 .cases hm
def jt(P:V5)(ops:Array S2)(o:S2)(v:x1)(a:Act)(w0:x4->Prop):Prop:=
 (Region.wanted o (yielded ops a.tmps)=ro/\(∀c,o.op≠ .defer c)/\∀I,w0 I->(execOp a.eval o).run P I= .ok (.value v) I)\/
 (Region.wanted o (yielded ops a.tmps)=rs/\v=undef)
theorem jt.put{o e:S2}{a:Act}{w0:x4->Prop}(f:jt P ops o v a w0)(J:∀cs b,o.op≠ .select cs b)(h:∀t,e.dst=σ t->t∉o.looksAt ops)(u:x1):
  jt P ops o v (a.put e.dst u) w0:=by
 unfold jt at*;rw[execOp_put o J a e.dst u h,wanted_put o a e.dst u h];exact f
theorem jt.go{i:Nat}{e:S2}{a:Act}{w0:x4->Prop}(hi:ops[i]?=σ e)(f:jt P ops e v a w0)(hw:w0 w){K:Act->x4->Prop}(h:K (a.put e.dst v) w):
  wpOpIn (eL r) 0 P ops Q i K a w:=by
 unfold wpOpIn;simp only[hi];rcases f with⟨h1,j,p⟩|⟨h1,rfl⟩
 .rw[m3 h1];refine⟨λ_ _=>trivial,?_⟩;rw[S2.semAt_eq _ _ _ j,p w hw,S2.uponIn_value];exact h
 .rw[h1];exact⟨λ_ _=>trivial,h⟩
theorem Hp{p s:S2}(B:ops[j]?=σ s)(C:p.apart ops s=ro)(E:∀cs b,p.op≠ .select cs b)(F:∀cs b,s.op≠ .select cs b)(z:∀c a w,¬Q (.panic c) a w){K:Act->x4->Prop}{a:Act}{w:x4}{w0:x4->Prop}(q:jt P ops p v a w0)(h:wpOpIn (eL r) 0 P ops Q j K (a.put p.dst v) w):
  wpOpIn (eL r) 0 P ops Q j (λa' I=>jt P ops p v a' w0/\K (a'.put p.dst v) I) a w:=by
 obtain⟨h1,y,G⟩:=S2.apart_spec C;have aZ:∀(a:Act),jt P ops p v a w0->∀u,jt P ops p v (a.put s.dst u) w0:=λa q u=>q.put E G u;have H:∀d,jt P ops p v {a with defers:=d::a.defers} w0:=λd=>q;unfold wpOpIn at*;simp only[B]at*;rw[wanted_put s a p.dst v h1]at h;split
 .rename_i hw;simp only[hw,if_true]at h;obtain⟨_,h⟩:=h;refine⟨λ_ _=>trivial,?_⟩;rw[Hn _ s F a p.dst v h1]at h;generalize (s.semAt (eL r).round a.eval).run P w=J at*;cases J with
  |ok n I=>
   cases n<;>simp only[S2.uponIn]at h ⊢
   case value u=>exact⟨aZ a q u,by rw[<-Act.put_comm a v u y];exact h⟩
   case skip=>exact⟨aZ a q _,by rw[<-Act.put_comm a v undef y];exact h⟩
   case defer d=>
    refine⟨aZ _ (H d) _,?_⟩;rw[<-Act.put_comm _ v undef y,<-Act.put_defers];exact h
   case enter f args=>
    refine⟨h.1,CallsIn.mono h.2 λe A he=>?_⟩;cases e with
    |returned u=>exact⟨aZ a q u,by rw[<-Act.put_comm a v u y];exact he⟩
    |panicked c=>exact m6 he (z _ _ _)
    |outgrown=>exact he
   case row row args=>exact⟨h.1,RowsIn.mono h.2 λu A he=>⟨aZ a q u,by rw[<-Act.put_comm a v u y];exact he⟩⟩
   case round l f tmps L body=>
    refine⟨h.1,RoundIn.mono h.2 λe A he=>?_⟩;cases e with
    |returned u=>exact⟨aZ a q u,by rw[<-Act.put_comm a v u y];exact he⟩
    |panicked c=>exact m6 he (z _ _ _)
    |outgrown=>exact he
  |halt x I=>
   cases x<;>simp only[S2.uponIn]at h ⊢
   case panic u=>exact m6 h (z _ _ _)
 .rename_i hw;simp only[hw]at h;exact⟨λ_ _=>trivial,aZ a q _,by rw[<-Act.put_comm a v undef y];exact h.2⟩
def mZ(ops:Array S2)(a:Array Nat):Bool:=
 (W3 ops.size).all λj=>(W3 ops.size).all λk=>!((a.getD j 0).testBit k)||
  (match ops[j]? with
   |some o=>o.after.any λe=>Region.binds .any e&&Nat.blt e.on j&&(S6 e.on k||(a.getD e.on 0).testBit k)
   |none=>rs)
def Down(ops:Array S2)(a:Array Bool):Prop:=
 ∀(x:Nat)(o:S2),ops[x]?=σ o->a.getD x rs=ro->∀e∈o.after,Region.binds .any e=ro->a.getD e.on rs=ro
theorem zA{f:Array Nat}(p:mZ ops f=ro){k:Nat}(r:j<ops.size)(hk:k<ops.size)(h:(f.getD j 0).testBit k=ro):
  ∃o,ops[j]?=σ o/\∃e∈o.after,Region.binds .any e=ro/\e.on<j/\(e.on=k\/(f.getD e.on 0).testBit k=ro):=by
 simp only[mZ,List.all_eq_true,T6]at p;have:=p j r k hk;rw[h]at this;simp only[X1,Bool.false_or]at this;cases q:ops[j]? with
 |none=>rw[q]at this;cases this
 |some o=>
  rw[q]at this;obtain⟨e,he,a⟩:=Array.any_eq_true'.1 this;simp only[T1,Nat.blt_eq,Bool.or_eq_true]at a;exact⟨o,rfl,e,he,a.1.1,a.1.2,a.2.imp (λh=>Nat.eq_of_beq_eq_true h) id⟩
theorem Hq{f:Array Nat}{a:Array Bool}(q:mZ ops f=ro)(r:Down ops a):∀(j k:Nat),j<ops.size->k<ops.size->a.getD j rs=ro->
  (f.getD j 0).testBit k=ro->a.getD k rs=ro:=by
 intro j;induction j using Nat.strongRecOn with
 |_ j s=>
  intro k w hk x h;obtain⟨o,y,e,he,z,A,h⟩:=zA q w hk h;have p:=r j o y x e he z;rcases h with rfl|h
  .exact p
  .exact s e.on A k Ω hk p h
theorem zB{f:Array Nat}{a:Array Bool}(p:mZ ops f=ro)(w:Down ops a){k:Nat}(hk:k<ops.size)(x:j∈Region.ready .any ops a)(h:(f.getD j 0).testBit k=ro):a.getD k rs=ro:=by
 obtain⟨_,o,q,y⟩:=mem_ready.1 x;have z:=(j9.1 q).1;obtain⟨o',r,e,he,A,B,h⟩:=zA p z hk h;rw[q]at r;cases r;have s:=y e he A;rcases h with rfl|h
 .exact s
 .exact Hq p w e.on k Ω hk s h
theorem Down.set{a:Array Bool}(r:Down ops a){i:Nat}(s:i∈Region.ready .any ops a):Down ops (a.setIfInBounds i ro):=by
 intro x o f h e he j;by_cases p:x=i
 .subst p;obtain⟨_,o',q,w⟩:=mem_ready.1 s;rw[f]at q;cases q;exact getD_set_true (w e he j)
 .rw[getD_set_ne rs (Ne.symm p)]at h;exact getD_set_true (r x o f h e he j)
theorem vT{a:Array Bool}{k:Nat}(h:a.getD k ro=rs):a.getD k rs=rs:=by
 rcases Nat.lt_or_ge k a.size with aW|aW
 .simpa[aW]using h
 .simp[Array.getElem?_eq_none aW]at h
def nO(ops:Array S2)(i:Nat):Bool:=match ops[i]? with
 |some o=>kq o
 |none=>rs
def nP(a:Array Nat)(e:List (x4×List (Nat×(x4->Prop))))(j:Nat)(I:x4):Prop:=∀g∈e,∀x∈g.2,mc a j x.1=ro->Ext g.1 I\/x.2 I
theorem vU{e:Array Nat}{j:Nat}{I:x4}:∀{l:List (Nat×(x4->Prop))},p1 e j I l->∀x∈l,mc e j x.1=ro->x.2 I
 |[],_,_,h,_=>by cases h
 |y::l,h,x,a,hu=>by
  unfold p1 at h;cases f:mc e j y.1 with
  |true=>
   rw[f]at h;cases a with
   |head=>exact h.1
   |tail _ a=>exact vU h.2 x a hu
  |false=>
   rw[f]at h;cases a with
   |head=>rw[f]at hu;cases hu
   |tail _ a=>exact vU (show p1 e j I l from h) x a hu
theorem zC{e:Array Nat}{j:Nat}:∀{l:List (Nat×(x4->Prop))},q9 e j l=rs->∀x∈l,mc e j x.1=rs
 |[],_,_,h=>by cases h
 |y::l,h,x,a=>by
  simp only[q9,U4]at h;cases a with
  |head=>exact h.1
  |tail _ a=>exact zC h.2 x a
theorem vV{p:Array Nat}{j:Nat}{I:x4}{C:Prop}:∀{w:List (x4×List (Nat×(x4->Prop)))},oJ p j I C w->C/\nP p w j I
 |[],h=>⟨h,λg y=>by cases y⟩
 |g::r,h=>by
  unfold oJ at h;cases hu:q9 p j g.2 with
  |true=>
   rw[hu]at h;obtain⟨h1,q⟩:=vV h.2;refine⟨h1,λs a x f e=>?_⟩;cases a with
   |head=>exact h.1.imp id λh=>vU h x f e
   |tail _ a=>exact q s a x f e
  |false=>
   rw[hu]at h;obtain⟨h1,q⟩:=vV (show oJ p j I C r from h);refine⟨h1,λs a x f e=>?_⟩;cases a with
   |head=>rw[zC hu x f]at e;cases e
   |tail _ a=>exact q s a x f e
def vW(ops:Array S2)(a:Array Nat)(e:List (x4×List (Nat×(x4->Prop))))(j:Nat)(w I:x4):Prop:=(nO ops j=ro->Ext w I)/\(nO ops j=rs->nP a e j I)
def jW(r:Option Nat)(P:V5)(ops:Array S2)(f:Array Nat)(Q:Exit->Act->x4->Prop):Nat->Array Bool->List (x4×List (Nat×(x4->Prop)))->Act->x4->Prop
 |0,e,_,a,w=>Region.ready .any ops e=[]/\Q .normal a w
 |fuel+1,e,h,a,w=>(Region.ready .any ops e=[]->Q .normal a w)/\
  ∀i∈Region.ready .any ops e,wpOpIn (eL r) 0 P ops Q i (λa' I=>vW ops f h i w I/\jW r P ops f Q fuel (e.setIfInBounds i ro) h a' I) a w
theorem jW.any{f:Array Nat}:∀(fuel:Nat)(e:Array Bool)(j:List (x4×List (Nat×(x4->Prop))))(a:Act)(w:x4),jW r P ops f Q fuel e j a w->wpAnyIn (eL r) 0 P .any ops Q fuel e a w
 |0,_,_,_,_,h=>h
 |fuel+1,_,_,_,_,h=>⟨h.1,λi hi=>wpOpIn_mono (λa' I aW=>jW.any fuel _ _ a' I aW.2) (h.2 i hi)⟩
theorem Hr{a:Array Nat}{e:Array Bool}(f:mZ ops a=ro)(p:Down ops e){i:Nat}{s:S2}(hi:ops[i]?=σ s)(q:i∈Region.ready .any ops e)(r:j∈Region.ready .any ops e)(w:j≠i):mc a j i=ro:=by
 have x:=(j9.1 hi).1;obtain⟨y,C,z,_⟩:=mem_ready.1 r;have A:=(j9.1 z).1;have B:=(mem_ready.1 q).1;simp only[mc,T1,Bool.not_eq_true'];refine⟨?_,?_,?_⟩
 .cases h:S6 i j with
  |true=>exact m6 (Nat.eq_of_beq_eq_true h).symm w
  |false=>rfl
 .cases h:(a.getD j 0).testBit i with
  |true=>have:=zB f p x r h;rw[vT B]at this;cases this
  |false=>rfl
 .cases h:(a.getD i 0).testBit j with
  |true=>have:=zB f p A q h;rw[vT y]at this;cases this
  |false=>rfl
theorem jW.take{q:Array Nat}(V:mZ ops q=ro)(W:Region.noSelect ops=ro)(X:∀c a w,¬Q (.panic c) a w){i:Nat}{p:S2}(hi:ops[i]?=σ p)(Y:kq p=ro){w0:x4}{B C:List (x4×List (Nat×(x4->Prop)))}(K:∀j I,nP q C j I->nP q B j I){st:x4->Prop}(Z:mY p=rs->∀j I,mc q j i=ro->nP q C j I->Ext w0 I\/st I):
  ∀(fuel:Nat)(f:Array Bool)(a:Act)(w:x4),Down ops f->
   (∀j z,ops[j]?=σ z->j≠i->f.getD j ro=rs->(∀e∈z.after,Region.binds .any e=ro->e.on≠i)->p.apart ops z=ro)->
   i∈Region.ready .any ops f->jt P ops p v a (nN p w0 st)->nN p w0 st w->
   jW r P ops q Q fuel (f.setIfInBounds i ro) C (a.put p.dst v) w->jW r P ops q Q (fuel+1) f B a w:=by
 have L:=Region.noSelect_spec W;have aa:nO ops i=ro:=by simp[nO,hi,Y]
 have jg:∀(fuel:Nat)(f:Array Bool)(a:Act)(w:x4),jW r P ops q Q fuel f C a w->jW r P ops q Q fuel f B a w:=by
  intro fuel;induction fuel with
  |zero=>intro f a w h;exact h
  |succ fuel F=>intro f a w h;exact⟨h.1,λj x=>wpOpIn_mono (λa' I aW=>⟨⟨aW.1.1,λG=>K _ _ (aW.1.2 G)⟩,F _ a' I aW.2⟩) (h.2 j x)⟩
 have M:∀w,vW ops q B i w w:=λw=>⟨λ_=>Ext.refl _,λh=>by rw[aa]at h;cases h⟩;intro fuel;induction fuel with
 |zero=>
  intro f a w _ _ y E hw H;refine⟨λh=>(by rw[h]at y;cases y),λj x=>?_⟩;by_cases s:j=i
  .subst s;exact E.go hi hw ⟨M w,jg _ _ _ _ H⟩
  .have:=ready_mono x s;rw[H.1]at this;cases this
 |succ fuel F=>
  intro f a w N O y E hw H;refine⟨λh=>(by rw[h]at y;cases y),λj x=>?_⟩;by_cases s:j=i
  .subst s;exact E.go hi hw ⟨M w,jg _ _ _ _ H⟩
  .have h1:=H.2 j (ready_mono x s);have hu:=Hr V N hi y x s;obtain⟨R,z,J,ab⟩:=mem_ready.1 x;have ac:∀e∈z.after,Region.binds .any e=ro->e.on≠i:=λe he ad ae=>by
    have h1:=ab e he ad;rw[ae,vT (mem_ready.1 y).1]at h1;cases h1
   have af:=Hp J (O j z J s R ac) (λcs b=>L i p cs b hi) (λcs b=>L j z cs b J) X E h1;have ag:∀k ok,ops[k]?=σ ok->k≠i->(f.setIfInBounds j ro).getD k ro=rs->
     (∀e∈ok.after,Region.binds .any e=ro->e.on≠i)->p.apart ops ok=ro:=λk ok hk ah S ai=>by
    refine O k ok hk ah ?_ ai;by_cases T:j=k
    .subst T;exact R
    .rw[getD_set_ne ro T]at S;exact S
   refine wpOpIn_mono (λa' I A=>⟨⟨A.2.1.1,λG=>K _ _ (A.2.1.2 G)⟩,F (f.setIfInBounds j ro) a' I (N.set x) ag (ready_mono y (Ne.symm s)) A.1 ?_ ?_⟩) af
   .cases hm:mY p with
    |true=>exact .inl hm
    |false=>
     cases U:nO ops j with
     |true=>exact hw.W (A.2.1.1 U)
     |false=>exact .inr ((Z hm j I hu (A.2.1.2 U)).imp id λh=>⟨I,h,Ext.refl _⟩)
   .rw[Array.setIfInBounds_comm _ _ s];exact A.2.2
theorem zD{p:Nat->Prop}:∀{l:List Nat},vR p l->∀i∈l,p i
 |[],_,_,h=>by cases h
 |[i],h,j,a=>by cases a with
  |head=>exact h
  |tail _ h=>cases h
 |i::k::l,h,j,a=>by
  obtain⟨h1,e⟩:=h;cases a with
  |head=>exact h1
  |tail _ a=>exact zD e j a
theorem vX:∀{l:List Nat}{q:Nat},nK ops l=σ q->q∈l/\∃o,ops[q]?=σ o/\kq o=ro
 |[],q,h=>by cases h
 |i::l,q,h=>by
  simp only[nK]at h;cases a:ops[i]? with
  |none=>rw[a]at h;obtain⟨h1,e⟩:=vX h;exact⟨.tail _ h1,e⟩
  |some o=>
   rw[a]at h;simp only at h;cases f:kq o with
   |true=>rw[f]at h;simp only[cond_true,X4]at h;subst h;exact⟨.head _,o,a,f⟩
   |false=>rw[f]at h;obtain⟨h1,e⟩:=vX h;exact⟨.tail _ h1,e⟩
theorem Hs{o:S2}{e:Env}{a:Act}{K:Env->(x4->Prop)->Prop}(h:vQ P ops o e w K)(f:Q1 N e a)(F:kU N o.dst=ro):
  ∃v st,jt P ops o v a (nN o w st)/\∃p,K p st/\Q1 N p (a.put o.dst v):=by
 unfold vQ at h;have z:∀{e:Env},Q1 N e a->mW P o e w K->Region.wanted o (yielded ops a.tmps)=ro->∃v st,jt P ops o v a (nN o w st)/\∃p,K p st/\Q1 N p (a.put o.dst v):=λf h hw=>by
  obtain⟨v,st,h1,G,H,L⟩:=zx h f F;exact⟨v,st,.inl ⟨hw,H,λI A=>A.elim (λhm=>Ho hm (h1 w (Ext.refl w))) λh=>h.elim (h1 I) λ⟨U,M,O⟩=>L U M I O⟩,G⟩
 have skip:∀{e:Env},Q1 N e a->K (ei e o.dst .u) (λ_=>True)->Region.wanted o (yielded ops a.tmps)=rs->∃v st,jt P ops o v a (nN o w st)/\∃p,K p st/\Q1 N p (a.put o.dst v):=λf h hw=>
  ⟨undef,_,.inr ⟨hw,rfl⟩,_,h,f.put F rfl⟩
 cases q:o.guard with
 |none=>rw[q]at h;exact z f h (by simp[Region.wanted,q])
 |some Q=>
  obtain⟨j,b⟩:=Q;rw[q]at h;simp only at h;cases r:(ops[j]?).bind (·.dst)with
  |none=>rw[r]at h;exact h.elim
  |some s=>
   rw[r]at h;simp only at h;cases J:look e s with
   |none=>rw[J]at h;exact h.elim
   |some x=>
    rw[J]at h;cases x with
    |b c=>
     simp only at h;have hw:=s9 f q r J rfl;cases A:xor c b with
     |true=>rw[A]at h hw;exact skip f h hw
     |false=>rw[A]at h hw;exact z f h hw
    |v y=>
     simp only at h;obtain⟨c,rfl,B,C⟩:=h;have hw:=s9 f q r J rfl;have E:=f.lit J rfl;cases c with
     |true=>
      have B:=B rfl;cases b with
      |true=>exact z E B hw
      |false=>exact skip E B hw
     |false=>
      have C:=C rfl;cases b with
      |true=>exact skip E C hw
      |false=>exact z E C hw
    |u=>exact skip f h (zy f q r J)
theorem vY:∀{l:List Nat},nK ops l=ν->∀j∈l,nO ops j=rs
 |[],_,_,h=>by cases h
 |i::l,h,j,a=>by
  simp only[nK]at h;cases e:ops[i]? with
  |none=>
   rw[e]at h;cases a with
   |head=>simp[nO,e]
   |tail _ a=>exact vY h j a
  |some o=>
   rw[e]at h;simp only at h;cases f:kq o with
   |true=>rw[f]at h;cases h
   |false=>
    rw[f]at h;cases a with
    |head=>simp[nO,e,f]
    |tail _ a=>exact vY h j a
theorem Ht{p:Array Nat}{same:Bool}{q:Nat}{st:x4->Prop}{e:List (x4×List (Nat×(x4->Prop)))}(J:same=ro->∃a r,e=(w,a)::r):
  (∀j I,nP p (s8 same q w st e) j I->nP p e j I)/\(∀j I,mc p j q=ro->nP p (s8 same q w st e) j I->Ext w I\/st I)/\∃a r,s8 same q w st e=(w,a)::r:=by
 cases same with
 |true=>
  obtain⟨a,r,rfl⟩:=J rfl;refine⟨λj I h g f x s hu=>?_,λj I hu h=>h (w,(q,st)::a) (.head _) (q,st) (.head _) hu,_,_,rfl⟩;cases f with
  |head=>exact h (w,(q,st)::a) (.head _) x (.tail _ s) hu
  |tail _ f=>exact h g (.tail _ f) x s hu
 |false=>
  refine⟨λj I h g f x s hu=>h g (.tail _ f) x s hu,λj I hu h=>h (w,[(q,st)]) (.head _) (q,st) (.head _) hu,_,_,rfl⟩
theorem Hu{K:Env->x4->Prop}{z:Array Nat}(W:mZ ops z=ro)(X:Region.noSelect ops=ro)(Y:∀c a w,¬Q (.panic c) a w)(M:∀o∈ops.toList,∀t,o.dst=σ t->t∈D)(Z:oK N ops.toList=ro):
  ∀(fuel:Nat)(p:Array Bool)(same:Bool)(s:List (x4×List (Nat×(x4->Prop))))(e:Env)(a:Act)(w:x4),Down ops p->(same=ro->∃ag r,s=(w,ag)::r)->
   nL P free ops z fuel p same s e w K->Q1 N e a->
   (∀a' I,nM N free K D a w a' I->Q .normal a' I)->jW r P ops z Q fuel p s a w:=by
 have F:∀{j:Nat}{o:S2},ops[j]?=σ o->o∈ops.toList:=λh=>by
  rw[<-Q3]at h;exact x6 h
 have ok:∀{j:Nat}{o:S2},ops[j]?=σ o->kU N o.dst=ro:=λh=>by
  simp only[oK,List.all_eq_true]at Z;exact Z _ (F h)
 intro fuel;induction fuel with
 |zero=>
  intro p same s e a w A O h C B;unfold nL at h;cases x:Region.ready .any ops p with
  |nil=>rw[x]at h;exact⟨x,B a w ⟨e,h,C,gT.refl _ _,λ_=>cI.refl _ _⟩⟩
  |cons i l=>rw[x]at h;exact h.elim
 |succ fuel R=>
  intro p same s e a w A O h C B;unfold nL at h;cases x:Region.ready .any ops p with
  |nil=>
   rw[x]at h;refine⟨λ_=>B a w ⟨e,h,C,gT.refl _ _,λ_=>cI.refl _ _⟩,λi hi=>?_⟩;rw[x]at hi;cases hi
  |cons i l=>
   rw[x]at h;simp only at h;cases G:nK ops (i::l)with
   |some q=>
    rw[G]at h;simp only at h;obtain⟨ah,o,f,aa⟩:=vX G;cases H:Region.free .any ops p q with
    |false=>rw[H]at h;exact h.elim
    |true=>
     rw[H,f]at h;simp only[cond_true]at h;obtain⟨v,st,ab,J,y,ad⟩:=Hs h C (ok f);have L:q∈Region.ready .any ops p:=by rw[x];exact ah
     cases hm:mY o with
     |true=>
      rw[hm]at y;refine jW.take W X Y f aa (λ_ _ h=>h) (λh=>by rw[hm]at h;cases h) fuel p a w A (Region.free_spec f H) L ab (.inr (.inl (Ext.refl _))) ?_;exact R _ same s J _ w (A.set L) O y ad λa' I ac=>B a' I (ac.step (gT.put a v λt E=>M o (F f) t E) λ_=>cI.refl _ _)
     |false=>
      rw[hm]at y;obtain⟨h1,ai,aj⟩:=Ht O;refine jW.take W X Y f aa h1 (λ_=>ai) fuel p a w A (Region.free_spec f H) L ab (.inr (.inl (Ext.refl _))) ?_;exact R _ ro _ J _ w (A.set L) (λ_=>aj) y ad λa' I ac=>B a' I (ac.step (gT.put a v λt E=>M o (F f) t E) λ_=>cI.refl _ _)
   |none=>
    rw[G]at h;simp only at h;refine⟨(λae=>by rw[x]at ae;cases ae),λj af=>?_⟩;have S:=af;rw[x]at S;have ak:=vY G j S;have ac:=zD h j S;cases f:ops[j]? with
    |none=>rw[f]at ac;exact ac.elim
    |some o=>
     rw[f]at ac;simp only at ac;unfold wpOpIn;simp only[f];have next:∀T U,fy N free (λJ I=>oJ z j I (nL P free ops z fuel (p.setIfInBounds j ro) rs s J I K) s) o a w T U->
       vW ops z s j w U/\jW r P ops z Q fuel (p.setIfInBounds j ro) s T U:=by
      rintro T U ⟨al,v,y,am,rfl,an⟩;obtain⟨y,ao⟩:=vV y;exact⟨⟨λh=>(by rw[ak]at h;cases h),λ_=>ao⟩,
       R _ rs s al _ U (A.set af) (λh=>by cases h) y am λa' I ac=>B a' I (ac.step (gT.put a v λt E=>M o (F f) t E) an)⟩
     rcases zz ac C (ok f)with⟨hw,V⟩|⟨hw,V⟩
     .rw[m3 hw];exact S2.wpIn_mono next V
     .rw[hw];exact⟨λ_ _=>trivial,next _ _ V⟩
theorem Hv(hm:P.follows .mixedOrders=ro){K:Env->x4->Prop}{id:Nat}{e:Env}{a:Act}(p:mZ ops (Region.before ops)=ro)(q:∀c a w,¬Q (.panic c) a w)(s:∀o∈ops.toList,∀t,o.dst=σ t->t∈D)(y:oK N ops.toList=ro)(h:∀I,Ext w I->Ext I w->cN w I->vS P free ops e I K)(z:Q1 N e a)(A:∀a' I,nM N free K D a w a' I->Q .normal a' I):
  (Code.region id ops ro).wpIn (eL r) 0 P Q a w:=by
 refine wpIn_region_any hm ?_;have h:=h {w with drawn:=w.drawn+1} (sY w _) ⟨p8 _,λ_ _ h _=>h⟩ (q4 w _ (Nat.le_succ _));unfold vS at h;cases f:Region.noSelect ops with
 |false=>rw[f]at h;exact h.elim
 |true=>
  rw[f]at h;refine jW.any _ _ _ _ _ (Hu p f q s y ops.size _ rs [] e a _ ?_ (λh=>by cases h) h z λa' I ac=>A a' I (ac.step (gT.refl _ _) λ_=>(q4 w _ (Nat.le_succ _)).b));intro x o _ j;rcases Nat.lt_or_ge x ops.size with aW|aW
  .simp[aW]at j
  .simp[aW]at j
end
def kr(t:Nat):List Nat->Bool
 |[]=>rs
 |s::r=>bif S6 s t then ro else kr t r
theorem vZ{t:Nat}:∀{l:List Nat},kr t l=ro↔t∈l
 |[]=>by simp[kr]
 |s::r=>by
  simp only[kr];cases h:S6 s t with
  |true=>simp[Nat.eq_of_beq_eq_true h]
  |false=>
   have:=Nat.ne_of_beq_eq_false h;simp[vZ,Ne.symm this]
def oL:List S2->List Nat
 |[]=>[]
 |o::l=>match o.dst with
  |some d=>d::oL l
  |none=>oL l
def tmpsOf:List R4->List Nat
 |[]=>[]
 | .tmp t::l=>t::tmpsOf l
 |_::l=>tmpsOf l
def Hw(ops:Array S2)(o:S2):List Nat:=
 match o.guard with
 |some (j,_)=>match(ops[j]?).bind (·.dst)with
  |some s=>[s]
  |none=>[]
 |none=>[]
def ta(D:List Nat):List Nat->List Nat
 |[]=>[]
 |t::r=>bif kr t D then ta D r else t::ta D r
def v7(D:List Nat):List Nat->List Nat
 |[]=>[]
 |t::r=>bif kr t D then t::v7 D r else v7 D r
def zE(ops:Array S2):List S2->List Nat->List Nat
 |[],_=>[]
 |o::l,D=>ta D (tmpsOf (opsOf o.op)++Hw ops o)++zE ops l (match o.dst with
  |some d=>d::D
  |none=>D)
def dF:Code->List Nat
 | .region _ ops _=>oL ops.toList
 | .seq a b=>dF a++dF b
 | .cond _ a b=>dF a++dF b
 | .block _ c=>dF c
 | .loop c=>dF c
 | .scope c=>dF c
 |_=>[]
def kV(id:Nat):Code->Nat
 | .seq a b=>kV id a+kV id b
 | .cond _ a b=>kV id a+kV id b
 | .block _ c=>kV id c
 | .loop c=>kV id c
 | .scope c=>kV id c
 | .exit i=>bif S6 i id then 1 else 0
 | .rangeFunc _ _ _ b=>kV id b
 |_=>0
def Hx(ops:Array S2):Bool:=
 let a:=Region.before ops;let e:=λ(i:Nat)=>match ops[i]? with|some o=>!(kq o)|none=>rs
 (W3 ops.size).any λj=>e j&&((W3 j).any λi=>e i&&(!((a.getD j 0).testBit i)&& !((a.getD i 0).testBit j)))
def md:Code->Nat
 | .region _ ops e=>bif (e&&Hx ops)||ops.any (·.guard.isSome)then 2 else 1
 | .seq a b=>bif S6 (md a) 0 then 0 else md b
 | .cond _ a b=>md a+md b
 | .block id c=>md c+kV id c
 | .loop _=>0
 | .scope c=>md c
 | .exit _=>0
 | .goto _=>0
 | .ret=>0
 | .refuse _=>0
 |_=>1
def m4:Code->List Nat
 | .region _ ops _=>oL ops.toList
 | .seq a b=>m4 a++m4 b
 | .cond _ a b=>bif S6 (md a) 0 then m4 b else bif S6 (md b) 0 then m4 a else v7 (m4 a) (m4 b)
 | .block id c=>bif S6 (kV id c) 0 then m4 c else[]
 | .scope c=>m4 c
 |_=>[]
def reads:Code->List Nat
 | .region _ ops _=>zE ops ops.toList []
 | .seq a b=>reads a++ta (m4 a) (reads b)
 | .cond c a b=>tmpsOf [c]++(reads a++reads b)
 | .block _ c=>reads c
 | .loop c=>reads c
 | .scope c=>reads c
 | .rangeFunc f _ a b=>tmpsOf [f]++(reads a++reads b)
 |_=>[]
def lF:Code->Bool
 | .seq a b=>lF a||lF b
 | .cond _ a b=>lF a||lF b
 | .block _ c=>lF c
 | .loop c=>lF c
 | .scope c=>lF c
 | .rangeFunc ..=>ro
 |_=>rs
def wf(N:Nat):Code->Bool
 | .region _ ops e=>oK N ops.toList&&(!e||mZ ops (Region.before ops))
 | .seq a b=>wf N a&&wf N b
 | .cond _ a b=>wf N a&&wf N b
 | .block _ c=>wf N c
 | .loop c=>wf N c
 | .scope c=>wf N c
 | .rangeFunc _ f a b=>(f.toList.all λt=>Nat.blt t N)&&(wf N a&&wf N b)
 |_=>ro
def oM:Nat->Type->Type
 |0,β=>β
 |n+1,β=>x1->oM n β
def app{β:Type}:(n:Nat)->oM n β->List x1->β
 |0,f,_=>f
 |n+1,f,[]=>app n (f undef) []
 |n+1,f,v::r=>app n (f v) r
def lam{β:Type}:(n:Nat)->(List x1->β)->oM n β
 |0,f=>f []
 |n+1,f=>λv=>lam n λr=>f (v::r)
def tb:(n:Nat)->oM n Prop->Prop
 |0,p=>p
 |n+1,p=>∀v,tb n (p v)
theorem tc{β:Type}:∀(n:Nat)(f:List x1->β)(vs:List x1),vs.length=n->app n (lam n f) vs=f vs
 |0,f,[],_=>rfl
 |n+1,f,v::r,h=>by
  simp only[app,lam];exact tc n _ r (by simpa using h)
theorem td:∀(n:Nat)(p:oM n Prop)(vs:List x1),tb n p->app n p vs
 |0,_,_,h=>h
 |n+1,_,[],h=>td n _ [] (h undef)
 |n+1,_,v::r,h=>td n _ r (h v)
def Hy(n:Nat)(vs:List x1)(w:x4)(B:List x1->x4->(List x1->x4->Prop)->Prop):Prop:=
 ∃(a:oM n (x4->Prop))(e:oM n (x4->Nat)),app n a vs w/\
  tb n (lam n λus=>∀I,app n a us I->B us I λf h=>app n a f h/\app n e f h<app n e us I)
def Hz(w:x4)(B:x4->(x4->Prop)->Prop):Prop:=
 ∃(a:x4->Prop)(e:x4->Nat),a w/\∀I,a I->B I λf=>a f/\e f<e I
def bZ(a:x1)(w:x4)(B:x1->x4->(x1->x4->Prop)->Prop):Prop:=
 ∃(e:x1->x4->Prop)(f:x1->x4->Nat),e a w/\∀a I,e a I->B a I λa' h=>e a' h/\f a' h<f a I
def cb(a b:x1)(w:x4)(B:x1->x1->x4->(x1->x1->x4->Prop)->Prop):Prop:=
 ∃(e:x1->x1->x4->Prop)(f:x1->x1->x4->Nat),e a b w/\∀a b I,e a b I->B a b I λa' h j=>e a' h j/\f a' h j<f a b I
def lG(a b c:x1)(w:x4)(B:x1->x1->x1->x4->(x1->x1->x1->x4->Prop)->Prop):Prop:=
 ∃(e:x1->x1->x1->x4->Prop)(f:x1->x1->x1->x4->Nat),e a b c w/\
  ∀a b c I,e a b c I->B a b c I λa' h j p=>e a' h j p/\f a' h j p<f a b c I
def ra(a b c d:x1)(w:x4)(B:x1->x1->x1->x1->x4->(x1->x1->x1->x1->x4->Prop)->Prop):Prop:=
 ∃(e:x1->x1->x1->x1->x4->Prop)(f:x1->x1->x1->x1->x4->Nat),e a b c d w/\
  ∀a b c d I,e a b c d I->B a b c d I λa' h j p q=>e a' h j p q/\f a' h j p q<f a b c d I
def rb(a b c d e:x1)(w:x4)(B:x1->x1->x1->x1->x1->x4->(x1->x1->x1->x1->x1->x4->Prop)->Prop):Prop:=
 ∃(f:x1->x1->x1->x1->x1->x4->Prop)(h:x1->x1->x1->x1->x1->x4->Nat),f a b c d e w/\∀a b c d e I,f a b c d e I->B a b c d e I λa' j p q r s=>f a' j p q r s/\h a' j p q r s<h a b c d e I
def HA(a b c d e f:x1)(w:x4)(B:x1->x1->x1->x1->x1->x1->x4->(x1->x1->x1->x1->x1->x1->x4->Prop)->Prop):Prop:=
 ∃(h:x1->x1->x1->x1->x1->x1->x4->Prop)(j:x1->x1->x1->x1->x1->x1->x4->Nat),h a b c d e f w/\∀a b c d e f I,h a b c d e f I->B a b c d e f I λa' p q r s x y=>h a' p q r s x y/\j a' p q r s x y<j a b c d e f I
def cv{α:Type}(ay:α)(B:α->Prop):Prop:=B ay
def wa(n:Nat)(w:x4)(K:x4->Prop):Prop:=∀I,Ext w I->Ext I w/\fM n w I->K I
def Over(n:Nat)(w:x4)(K:x4->Prop):Prop:=∀I,Ext w I->Ext I w/\fM n w I->e9 w I->K I
def eH(w:x4)(K:x4->Prop):Prop:=∀I,Ext w I->Ext I w->cN w I->K I
def lH(e:Env):List Nat->Option (List x1)
 |[]=>σ []
 |t::r=>match look e t with
  |some x=>match lH e r with
   |some vs=>σ (x.val::vs)
   |none=>ν
  |none=>ν
def ks:List Nat->List x1->Env->Env
 |t::r,v::vs,e=>(t,.v v)::ks r vs e
 |_,_,e=>e
def nQ(D:List Nat):Env->Env
 |[]=>[]
 |(t,x)::r=>bif kr t D then nQ D r else(t,x)::nQ D r
def re(N:Nat)(D R:List Nat):List Nat:=(W3 N).filter λt=>kr t D&&kr t R
def rf(N:Nat)(D R:List Nat)(e:Env):List Nat:=(W3 N).filter λt=>kr t D&&((look e t).isSome&&kr t R)
def kt:Code->Bool
 | .seq a b=>kt a||kt b
 | .cond _ a b=>kt a||kt b
 | .block _ c=>kt c
 | .loop c=>kt c
 | .scope c=>kt c
 | .rangeFunc _ _ a b=>kt a||kt b
 | .ret=>ro
 |_=>rs
def HB(i:Nat)(l:List Nat):List Nat:=bif kr i l then l else i::l
def te:List Nat->List Nat->List Nat
 |[],l=>l
 |i::r,l=>HB i (te r l)
def wb(i:Nat):List Nat->List Nat
 |[]=>[]
 |j::r=>bif S6 i j then wb i r else j::wb i r
def kW:Code->List Nat
 | .seq a b=>te (kW a) (kW b)
 | .cond _ a b=>te (kW a) (kW b)
 | .block id c=>wb id (kW c)
 | .loop c=>kW c
 | .scope c=>kW c
 | .rangeFunc _ _ a b=>te (kW a) (kW b)
 | .exit i=>[i]
 |_=>[]
def oN:List (Nat×(x4->Prop))->Nat->x4->Prop
 |[],_,_=>False
 |(j,k)::r,i,w=>(i=j/\k w)\/oN r i w
def wc(K:Nat->x4->Prop):List Nat->List (Nat×(x4->Prop))
 |[]=>[]
 |i::r=>(i,λw=>K i w)::wc K r
theorem zF{K:Nat->x4->Prop}:∀{l:List Nat}{i:Nat}{w:x4},oN (wc K l) i w->K i w
 |[],_,_,h=>h.elim
 |j::r,i,w,h=>by
  rcases h with⟨rfl,h⟩|h
  .exact h
  .exact zF h
section
variable(P:V5)
def p2{a:Type}(G:Bool)(g:Q9)(cap:List x1)(p:a)(q:a->Prop)(r:a->List x1->a->x4->Prop)(h:x4->Prop):Prop:=
 Enters P g/\∀(l:Nat)(ay e:a->x4->Prop)(w:x4),
  (∀k U aa,Ext U aa->cI w.heap.size U aa->ay k U->ay k aa)->(∀k U aa,Ext U aa->cI w.heap.size U aa->e k U->e k aa)->
  (∀k j vs I,h I->r k vs j I->ay k I->jf P l vs I λv f=>(v= .bool ro/\h f/\ay j f/\(G=ro->cN I f))\/(v= .bool rs/\e k f))->
  h w->ay p w->gS P g (.func (.yield l) #[] #[]::cap) w λ_ I=>(∃k,q k/\ay k I)\/∃k,e k I
def we(G:Bool)(g:Q9)(cap:List x1)(n:Nat)(h:Nat->List x1->x4->Prop)(f:x4->Prop):Prop:=
 Enters P g/\∀(l:Nat)(ay a:Nat->x4->Prop)(w:x4),
  (∀k U aa,Ext U aa->cI w.heap.size U aa->ay k U->ay k aa)->(∀k U aa,Ext U aa->cI w.heap.size U aa->a k U->a k aa)->
  (∀k vs I,k<n->f I->h k vs I->ay k I->jf P l vs I λv e=>(v= .bool ro/\f e/\ay (k+1) e/\(G=ro->cN I e))\/(v= .bool rs/\a k e))->
  f w->ay 0 w->gS P g (.func (.yield l) #[] #[]::cap) w λ_ I=>ay n I\/∃k,k<n/\a k I
def rg{e:Type}(o G:Bool)(g:Q9)(cap:List x1)(p:e)(q:e->Prop)(s:e->List x1->e->x4->Prop)(h:(Nat->Prop)->x4->Prop):Prop:=
 Enters P g/\∀(l:Nat)(ay f:(Nat->Prop)->e->x4->Prop)(w:x4),
  (∀D k U aa,af (λr=>o=ro/\w.heap.size<=r/\¬D r) U aa->fM w.heap.size U aa->ay D k U->ay D k aa)->
  (∀D k U aa,af (λr=>o=ro/\w.heap.size<=r/\¬D r) U aa->fM w.heap.size U aa->f D k U->f D k aa)->
  (∀D k j vs I,(∀r,D r->w.heap.size<=r/\r<I.heap.size)->w.heap.size<=I.heap.size->h D I->s k vs j I->ay D k I->jf P l vs I λv a=>
   (v= .bool ro/\(∃D',(∀r,D' r->D r\/I.heap.size<=r/\r<a.heap.size)/\(∀r,D r->D' r)/\h D' a/\ay D' j a)/\(G=ro\/o=ro->cN I a)/\I.heap.size<=a.heap.size/\(o=ro->af (λr=>r<w.heap.size\/D r) I a))\/(o=rs/\v= .bool rs/\f D k a))->
  (h (λ_=>False) w)->ay (λ_=>False) p w->gS P g (.func (.yield l) #[] #[]::cap) w λ_ I=>(∃D k,q k/\ay D k I)\/∃D k,f D k I
abbrev oO(g:Q9)(cap:List x1)(n:Nat)(a:Nat->List x1->x4->Prop)(e:x4->Prop):Prop:=we P rs g cap n a e
def HC(z:x1)(q:Nat)(w:x4)(B:List x1->x4->(Exit->x4->Prop)->Prop)(A C:x4->Prop)(E:List (Nat×(x4->Prop))):Prop:=
 ∃(h:Type)(o G:Bool)(g:Q9)(cap:Array x1)(x:h)(y:h->Prop)(s:h->List x1->h->x4->Prop)(e:(Nat->Prop)->x4->Prop)(f:(Nat->Prop)->h->x4->Prop)(j:(Nat->Prop)->h->Exit->x4->Prop),
  z= .func (.func g) #[] cap/\rg P o G g cap.toList x y s e/\(∀k vs p w,s k vs p w->vs.length=q)/\
  (∀m w I,Ext w I->e m w->e m I)/\(∀m k U aa,af (λr=>o=ro/\w.heap.size<=r/\¬m r) U aa->fM w.heap.size U aa->f m k U->f m k aa)/\(∀m k ex U aa,af (λr=>o=ro/\w.heap.size<=r/\¬m r) U aa->fM w.heap.size U aa->j m k ex U->j m k ex aa)/\
  e (λ_=>False) w/\f (λ_=>False) x w/\
  tb q (lam q λvs=>∀m k p I,(∀r,m r->w.heap.size<=r/\r<I.heap.size)->w.heap.size<=I.heap.size->e m I->s k vs p I->f m k I->B vs I λex a=>match ex with
   | .normal=>bif o then(∃bP,(∀r,bP r->m r\/I.heap.size<=r/\r<a.heap.size)/\(∀r,m r->bP r)/\e bP a/\f bP p a)/\e9 I a/\af (λr=>r<w.heap.size\/m r) I a else e m a/\f m p a/\(G=ro->e9 I a)
   |ex=>bif o then False else j m k ex a)/\
  (∀m k I,y k->f m k I->A I)/\(∀m k I,j m k .ret I->C I)/\(∀m k i I,j m k (.exit i) I->oN E i I)
def kX(z:x1)(w:x4)(B:x1->x4->(Exit->x4->Prop)->Prop)(A C:x4->Prop)(E:List (Nat×(x4->Prop))):Prop:=
 ∃(j:Type)(o G:Bool)(g:Q9)(cap:Array x1)(x:j)(y:j->Prop)(s:j->List x1->j->x4->Prop)(f:(Nat->Prop)->x4->Prop)(h:(Nat->Prop)->j->x4->Prop)(p:(Nat->Prop)->j->Exit->x4->Prop),
  z= .func (.func g) #[] cap/\rg P o G g cap.toList x y s f/\(∀k vs q w,s k vs q w->vs.length=1)/\
  (∀m w I,Ext w I->f m w->f m I)/\(∀m k U aa,af (λr=>o=ro/\w.heap.size<=r/\¬m r) U aa->fM w.heap.size U aa->h m k U->h m k aa)/\(∀m k ex U aa,af (λr=>o=ro/\w.heap.size<=r/\¬m r) U aa->fM w.heap.size U aa->p m k ex U->p m k ex aa)/\
  f (λ_=>False) w/\h (λ_=>False) x w/\
  (∀a,∀m k q I,(∀r,m r->w.heap.size<=r/\r<I.heap.size)->w.heap.size<=I.heap.size->f m I->s k [a] q I->h m k I->B a I λex e=>match ex with
   | .normal=>bif o then(∃bP,(∀r,bP r->m r\/I.heap.size<=r/\r<e.heap.size)/\(∀r,m r->bP r)/\f bP e/\h bP q e)/\e9 I e/\af (λr=>r<w.heap.size\/m r) I e else f m e/\h m q e/\(G=ro->e9 I e)
   |ex=>bif o then False else p m k ex e)/\
  (∀m k I,y k->h m k I->A I)/\(∀m k I,p m k .ret I->C I)/\(∀m k i I,p m k (.exit i) I->oN E i I)
def nR(z:x1)(w:x4)(B:x1->x1->x4->(Exit->x4->Prop)->Prop)(A C:x4->Prop)(E:List (Nat×(x4->Prop))):Prop:=
 ∃(j:Type)(o G:Bool)(g:Q9)(cap:Array x1)(x:j)(y:j->Prop)(s:j->List x1->j->x4->Prop)(f:(Nat->Prop)->x4->Prop)(h:(Nat->Prop)->j->x4->Prop)(p:(Nat->Prop)->j->Exit->x4->Prop),
  z= .func (.func g) #[] cap/\rg P o G g cap.toList x y s f/\(∀k vs q w,s k vs q w->vs.length=2)/\
  (∀m w I,Ext w I->f m w->f m I)/\(∀m k U aa,af (λr=>o=ro/\w.heap.size<=r/\¬m r) U aa->fM w.heap.size U aa->h m k U->h m k aa)/\(∀m k ex U aa,af (λr=>o=ro/\w.heap.size<=r/\¬m r) U aa->fM w.heap.size U aa->p m k ex U->p m k ex aa)/\
  f (λ_=>False) w/\h (λ_=>False) x w/\
  (∀a b,∀m k q I,(∀r,m r->w.heap.size<=r/\r<I.heap.size)->w.heap.size<=I.heap.size->f m I->s k [a,b] q I->h m k I->B a b I λex e=>match ex with
   | .normal=>bif o then(∃bP,(∀r,bP r->m r\/I.heap.size<=r/\r<e.heap.size)/\(∀r,m r->bP r)/\f bP e/\h bP q e)/\e9 I e/\af (λr=>r<w.heap.size\/m r) I e else f m e/\h m q e/\(G=ro->e9 I e)
   |ex=>bif o then False else p m k ex e)/\
  (∀m k I,y k->h m k I->A I)/\(∀m k I,p m k .ret I->C I)/\(∀m k i I,p m k (.exit i) I->oN E i I)
theorem we.s{P:V5}{G:Bool}{g:Q9}{cap:List x1}{f:Nat->List x1->x4->Prop}{a:x4->Prop}(h:we P G g cap n f a):
  p2 P G g cap 0 (λk=>k=n) (λk vs j w=>k<n/\j=k+1/\f k vs w) a:=by
 refine⟨h.1,λl ay p w q r x ha y=>?_⟩;have:=h.2 l ay (λk w=>p k w) w q r (λk vs I hk hz A B=>x k (k+1) vs I hz ⟨hk,rfl,A⟩ B) ha y;cases this with
 |code h1 C=>exact .code h1 (C.Y λ_ _ ⟨v,E,e⟩=>⟨v,E,e.elim (λh=>.inl ⟨n,rfl,h⟩) (λ⟨k,_,h⟩=>.inr ⟨k,h⟩)⟩)
 |W v I h1 e=>exact .W v I h1 (e.elim (λh=>.inl ⟨n,rfl,h⟩) (λ⟨k,_,h⟩=>.inr ⟨k,h⟩))
theorem p2.x{P:V5}{s:Type}{G:Bool}{g:Q9}{cap:List x1}{E:s}{F:s->Prop}{H:s->List x1->s->x4->Prop}{y:x4->Prop}(h:p2 P G g cap E F H y):rg P rs G g cap E F H λ_=>y:=by
 refine⟨h.1,λl ay K w L M N hy O=>?_⟩;have:=h.2 l (λk I=>w.heap.size<=I.heap.size/\∃D,(∀r,D r->w.heap.size<=r/\r<I.heap.size)/\ay D k I) (λk I=>∃D,K D k I) w
  (λk U aa f A ⟨J,D,a,j⟩=>⟨Y9 J f.size,D,λr z=>⟨(a r z).1,S3 (a r z).2 f.size⟩,L D k U aa (f.V _) A.o j⟩) (λk U aa f A ⟨D,j⟩=>⟨D,M D k U aa (f.V _) A.o j⟩)
  (λk Q vs I hR S ⟨J,D,a,j⟩=>jf.Y (N D k Q vs I a J hR S j) λv W ac=>ac.imp (λ⟨h1,⟨D',d1,_,p,B⟩,q,e,_⟩=>⟨h1,p,⟨Y9 J e,D',λr z=>(d1 r z).elim (λh=>⟨(a r h).1,S3 (a r h).2 e⟩) λh=>⟨Y9 J h.1,h.2⟩,B⟩,λT=>q (.inl T)⟩) λ⟨_,h1,p⟩=>⟨h1,D,p⟩) hy ⟨p8 _,_,λ_ h=>h.elim,O⟩
 cases this with
 |code h1 p=>exact .code h1 (p.Y λ_ _ ⟨v,B,q⟩=>⟨v,B,q.imp (λ⟨k,e,_,D,_,C⟩=>⟨D,k,e,C⟩) (λ⟨k,D,h⟩=>⟨D,k,h⟩)⟩)
 |W v I h1 q=>exact .W v I h1 (q.imp (λ⟨k,e,_,D,_,C⟩=>⟨D,k,e,C⟩) (λ⟨k,D,h⟩=>⟨D,k,h⟩))
theorem kX.old{P:V5}{C:x1}{B:x1->x4->(Exit->x4->Prop)->Prop}{E F:x4->Prop}{H:List (Nat×(x4->Prop))}(h:∃(f:Type)(G:Bool)(g:Q9)(cap:Array x1)(s:f)(y:f->Prop)(r:f->List x1->f->x4->Prop)(e:x4->Prop)(j:f->x4->Prop)(p:f->Exit->x4->Prop),
  C= .func (.func g) #[] cap/\p2 P G g cap.toList s y r e/\(∀k vs q w,r k vs q w->vs.length=1)/\
  (∀w I,Ext w I->e w->e I)/\(∀k w I,Ext w I->j k w->j k I)/\(∀k ex w I,Ext w I->p k ex w->p k ex I)/\
  e w/\j s w/\
  (∀a,∀k q I,e I->r k [a] q I->j k I->B a I λex z=>match ex with
   | .normal=>e z/\j q z/\(G=ro->e9 I z)
   |ex=>p k ex z)/\
  (∀k I,y k->j k I->E I)/\(∀k I,p k .ret I->F I)/\(∀k i I,p k (.exit i) I->oN H i I)):kX P C w B E F H:=by
 obtain⟨f,G,g,cap,s,y,r,e,j,p,h1,J,K,L,M,N,O,Q,R,S,T,V⟩:=h;exact⟨f,rs,G,g,cap,s,y,r,λ_=>e,λ_=>j,λ_=>p,h1,J.x,K,λ_=>L,λ_ k U aa A _=>M k U aa (A.W λ_ _ h=>nomatch h.1),λ_ k ex U aa A _=>N k ex U aa (A.W λ_ _ h=>nomatch h.1),O,Q,
  λa _ k q I _ _ he W X=>R a k q I he W X,λ_=>S,λ_=>T,λ_=>V⟩
theorem nR.old{P:V5}{C:x1}{B:x1->x1->x4->(Exit->x4->Prop)->Prop}{E F:x4->Prop}{H:List (Nat×(x4->Prop))}(h:∃(f:Type)(G:Bool)(g:Q9)(cap:Array x1)(s:f)(y:f->Prop)(r:f->List x1->f->x4->Prop)(e:x4->Prop)(j:f->x4->Prop)(p:f->Exit->x4->Prop),
  C= .func (.func g) #[] cap/\p2 P G g cap.toList s y r e/\(∀k vs q w,r k vs q w->vs.length=2)/\
  (∀w I,Ext w I->e w->e I)/\(∀k w I,Ext w I->j k w->j k I)/\(∀k ex w I,Ext w I->p k ex w->p k ex I)/\
  e w/\j s w/\
  (∀a b,∀k q I,e I->r k [a,b] q I->j k I->B a b I λex z=>match ex with
   | .normal=>e z/\j q z/\(G=ro->e9 I z)
   |ex=>p k ex z)/\
  (∀k I,y k->j k I->E I)/\(∀k I,p k .ret I->F I)/\(∀k i I,p k (.exit i) I->oN H i I)):nR P C w B E F H:=by
 obtain⟨f,G,g,cap,s,y,r,e,j,p,h1,J,K,L,M,N,O,Q,R,S,T,V⟩:=h;exact⟨f,rs,G,g,cap,s,y,r,λ_=>e,λ_=>j,λ_=>p,h1,J.x,K,λ_=>L,λ_ k U aa A _=>M k U aa (A.W λ_ _ h=>nomatch h.1),λ_ k ex U aa A _=>N k ex U aa (A.W λ_ _ h=>nomatch h.1),O,Q,
  λa b _ k q I _ _ he W X=>R a b k q I he W X,λ_=>S,λ_=>T,λ_=>V⟩
def eM(N:Nat)(free:fN):Code->List Nat->Env->x4->(Exit->Env->x4->Prop)->Prop
 | .skip,_,e,w,K=>K .normal e w
 | .label _,_,e,w,K=>K .normal e w
 | .ret,_,e,w,K=>K .ret e w
 | .exit i,_,e,w,K=>K (.exit i) e w
 | .region _ ops p,_,e,w,K=>
  bif p then eH w λI=>vS P free ops e I (K .normal)
  else p0 P free ops ops.toList e w (K .normal)
 | .seq x y,rd,e,w,K=>
  bif Nat.ble 2 (md x)then
   cv (lam (re N (dF x) (reads y++rd)).length λvs=>λI=>eM N free y rd (ks (re N (dF x) (reads y++rd)) vs (nQ (dF x) e)) I K)
    λay=>eM N free x (reads y++rd) e w λex a I=>match ex with
     | .normal=>match lH a (re N (dF x) (reads y++rd))with
      |some vs=>app (re N (dF x) (reads y++rd)).length ay vs I
      |none=>False
     |ex=>K ex a I
  else eM N free x (reads y++rd) e w λex a I=>match ex with
   | .normal=>eM N free y rd a I K
   |ex=>K ex a I
 | .cond c x y,rd,e,w,K=>
  match eS e c with
  |some (.b ro)=>eM N free x rd e w K
  |some (.b rs)=>eM N free y rd e w K
  |some (.v v)=>Split v (eM N free x rd e w K) (eM N free y rd e w K)
  |some .u=>False
  |none=>False
 | .block id c,rd,e,w,K=>eM N free c rd e w λex a I=>match ex with
  | .exit i=>bif S6 i id then K .normal a I else K (.exit i) a I
  |ex=>K ex a I
 | .loop c,rd,e,w,K=>
  match lH e (rf N (dF c) (reads c++rd) e)with
  |some vs=>
   Hy (rf N (dF c) (reads c++rd) e).length vs w λus I k=>
    eM N free c (reads c++rd) (ks (rf N (dF c) (reads c++rd) e) us (nQ (dF c) e)) I λex a h=>match ex with
     | .normal=>match lH a (rf N (dF c) (reads c++rd) e)with
      |some q=>k q h
      |none=>False
     |ex=>K ex a h
  |none=>False
 | .scope c,rd,e,w,K=>eM N free c rd e w K
 | .rangeFunc f j r body,_,e,w,K=>
  bif free.1 then False else
  match eS e f with
  |some s=>
   HC P s.val j.size w
    (λvs I k=>eM N free r (reads body) (ks j.toList.reverse vs.reverse e) I λex a h=>match ex with
     | .normal=>Over w.heap.size h λz=>eM N free body [] a z λex _ A=>k ex A
     |_=>False)
    (λI=>K .normal e I) (bif kt body then λI=>K .ret e I else λ_=>False) (wc (λi I=>K (.exit i) e I) (kW body))
  |none=>False
 | .goto _,_,_,_,_=>False
 | .refuse _,_,_,_,_=>False
end
theorem tf{w0:x4}(h:cI n w0 w){l:Nat}(j:w0.heap.size<=l)(o:Obj):cI n w0 (w.putObj l o):=
 ⟨h.os,h.tape,h.output,by simpa using h.size,λr x a J=>by
  have e:=(j9.1 a).1;rw[P6 Ω];exact h.aZ r x a J,λr x f a J=>by
  have e:=(j9.1 a).1;rw[P6 Ω];exact h.old r x f a J⟩
theorem HD{w0:x4}(h:e9 w0 w){l:Nat}{a:Obj}(f:w.heap[l]?=σ a)(j:sX a=rs)(o:Obj):e9 w0 (w.putObj l o):=λr x p J=>by
 have h1:=h r x p J;by_cases e:r=l
 .subst e;rw[f]at h1;cases h1;rw[j]at J;cases J
 .rw[P6 e];exact h1
theorem rh{l:Nat}{e:Obj}(h:w.heap[l]?=σ e)(j:fL e=rs)(o:Obj):Ext w (w.putObj l o):=
 ⟨Ξ,λr x a J=>by
  by_cases f:r=l
  .subst f;rw[h]at a;cases a;rw[j]at J;cases J
  .rw[P6 f];exact a⟩
theorem zG{l:Nat}{o:Obj}(f:fL o=rs):Ext (w.putObj l o) w:=
 ⟨Ξ,λr x a J=>by
  by_cases e:r=l
  .subst e;rcases Nat.lt_or_ge r w.heap.size with h|h
   .rw[x4.putObj_heap_same h]at a;cases a;rw[f]at J;cases J
   .rw[Array.getElem?_eq_none (by simpa using h)]at a;cases a
  .rw[P6 e]at a;exact a⟩
theorem p3(w:x4)(o:Obj):Ext w (w.alloc o):=q5 w o
theorem p4(w:x4)(o:Obj):cN w (w.alloc o):=q6 w o
def lI(D:Nat):Deferred:={target:=.collected D,args:=#[]}
def m8(w:x4)(e:List Deferred):Prop:=∃a:List Nat,e=a.map lI/\a.Nodup/\∀D∈a,w.heap[D]?=σ (.deferred (σ []))
theorem m8.cu{a:List Deferred}(h:m8 w a)(e:cI n w I):m8 I a:=by
 obtain⟨f,h1,j,p⟩:=h;exact⟨f,h1,j,λD q=>e.aZ D _ (p D q) rfl⟩
section
variable{P:V5}{N:Nat}
def HE(w:x4)(e f:List Deferred):Prop:=∃a:List Nat,f=a.map lI++e/\∀D∈a,w.heap.size<=D
def gU(n:Nat)(w:x4)(e:List Deferred)(I:x4)(a:List Deferred):Prop:=cI n w I/\m8 I a/\HE w e a
theorem gU.refl{a:List Deferred}(h:m8 w a):gU n w a w a:=⟨cI.refl _ _,h,[],rfl,λ_ h=>by cases h⟩
theorem gU.F{U:x4}{a e f:List Deferred}(h:gU n w a U e)(k:gU n U e I f):gU n w a I f:=by
 obtain⟨j,A,p,a3,a4⟩:=h;obtain⟨q,r,s,x,y⟩:=k;refine⟨j.F q,r,s++p,by simp[x,a3],λD z=>?_⟩;rcases j4.1 z with h|h
 .exact Y9 j.size (y D h)
 .exact a4 D h
theorem gU.same{a:List Deferred}(h:m8 w a)(e:cI n w I):gU n w a I a:=⟨e,h.cu e,[],rfl,λ_ h=>by cases h⟩
def me:Exit->Bool
 | .panic _=>rs
 | .outgrown=>rs
 | .goto _=>rs
 |_=>ro
def nS(N:Nat)(free:fN)(f:Bool)(K:Exit->Env->x4->Prop)(D:List Nat)(a:Act)(w:x4)(ex:Exit)(a':Act)(I:x4):Prop:=
 me ex=ro/\∃e,K ex e I/\Q1 N e a'/\(∀t,t∉D->a'.tmps.getD t undef=a.tmps.getD t undef)/\(f=ro->a'.defers=a.defers)/\
  (free.1=rs->gU free.2 w a.defers I a'.defers)
theorem nS.step{free:fN}{f j:Bool}{K:Exit->Env->x4->Prop}{D':List Nat}{a e a':Act}{U:x4}{ex:Exit}(h:nS N free j K D' e U ex a' I)(q:∀t,t∈D'->t∈D)(hk:∀t,t∉D->e.tmps.getD t undef=a.tmps.getD t undef)(r:f=ro->j=ro)(s:f=ro->e.defers=a.defers)(x:free.1=rs->gU free.2 w a.defers U e.defers):nS N free f K D a w ex a' I:=by
 obtain⟨y,z,h1,A,B,C,E⟩:=h;exact⟨y,z,h1,A,λt p=>(B t λh=>p (q t h)).F (hk t p),λh=>(C (r h)).F (s h),λh=>(x h).F (E h)⟩
theorem tg{D:List Nat}{t:Nat}{x:eK}:∀{e:Env},look (nQ D e) t=σ x->look e t=σ x/\t∉D
 |[],h=>by cases h
 |(s,y)::r,h=>by
  simp only[nQ]at h;cases hm:kr s D with
  |true=>
   rw[hm]at h;simp only[cond_true]at h;obtain⟨h1,f⟩:=tg h;refine⟨?_,f⟩;simp only[look];cases a:S6 s t with
   |true=>exact m6 (vZ.1 hm) (by rw[Nat.eq_of_beq_eq_true a];exact f)
   |false=>exact h1
  |false=>
   rw[hm]at h;simp only[cond_false,look]at h ⊢;cases a:S6 s t with
   |true=>
    rw[a]at h;refine⟨h,λj=>?_⟩;rw[<-Nat.eq_of_beq_eq_true a]at j;rw[vZ.2 j]at hm;cases hm
   |false=>
    rw[a]at h;exact tg h
theorem wg{a:Act}{e:Env}:∀{S:List Nat}{vs:List x1},Q1 N e a->(∀p∈S.zip vs,a.tmps.getD p.1 undef=p.2)->Q1 N (ks S vs e) a
 |[],_,h,_=>by simpa[ks]using h
 |t::r,[],h,_=>by simpa[ks]using h
 |t::r,v::vs,h,j=>by
  have q:=wg (S:=r) (vs:=vs) h λp ac=>j p (by simp[ac]);refine⟨q.1,λs x J=>?_⟩;simp only[ks,look]at J;cases f:S6 t s with
  |true=>
   rw[f]at J;simp only[cond_true,X4]at J;subst J;rw[<-Nat.eq_of_beq_eq_true f];exact j (t,v) Ξ
  |false=>rw[f]at J;exact q.2 s x J
theorem th{e:Env}{a:Act}(q:Q1 N e a):∀{S:List Nat}{vs:List x1},lH e S=σ vs->vs.length=S.length/\∀p∈S.zip vs,a.tmps.getD p.1 undef=p.2
 |[],vs,h=>by simp[lH]at h;subst h;simp
 |t::r,vs,h=>by
  simp only[lH]at h;cases f:look e t with
  |none=>rw[f]at h;cases h
  |some x=>
   rw[f]at h;simp only at h;cases j:lH e r with
   |none=>rw[j]at h;cases h
   |some us=>
    rw[j]at h;simp only[X4]at h;subst h;obtain⟨h1,s⟩:=th q j;refine⟨by simp[h1],λp ac=>?_⟩;simp only[List.zip_cons_cons,V4]at ac;rcases ac with rfl|ac
    .exact q.2 t x f
    .exact s p ac
theorem HF{a a':Act}{e f:Env}(j:Q1 N e a)(p:Q1 N f a')(hk:∀t,t∉D->a'.tmps.getD t undef=a.tmps.getD t undef):Q1 N (nQ D e) a':=
 ⟨p.1,λt x h=>by
  obtain⟨h1,q⟩:=tg h;rw[hk t q];exact j.2 t x h1⟩
theorem HG{o:S2}{t:Nat}(a:o.dst=σ t)(l:List S2)(hm:o∈l):t∈oL l:=by
 induction l with
 |nil=>cases hm
 |cons o' l e=>
  simp only[oL];rcases V4.1 hm with h|h
  .rw[<-h,a];simp
  .have:=e h;cases o'.dst with
   |none=>exact this
   |some d=>exact .tail _ this
theorem zH{free:fN}{j:Bool}{K:Exit->Env->x4->Prop}{a a':Act}(p:free.1=rs->m8 w a.defers)(h:nM N free (K .normal) D a w a' I):
  nS N free j K D a w .normal a' I:=by
 obtain⟨q,h1,r,e,s⟩:=h;exact⟨rfl,q,h1,r,e.2,λ_=>e.1,λf=>by rw[e.1];exact gU.same (p f) (s f)⟩
theorem zI:∀(a:List Nat)(vs:List x1)(p:Nat)(v:x1)(e:Env),a.length=vs.length->ks (a++[p]) (vs++[v]) e=ks a vs ((p,.v v)::e)
 |[],[],_,_,_,_=>rfl
 |[],_::_,_,_,_,h=>by simp at h
 |_::_,[],_,_,_,h=>by simp at h
 |q::a,u::vs,p,v,e,h=>by
  simp only[List.cons_append,ks];rw[zI a vs p v e (by simpa using h)]
theorem zJ:∀(a:List Nat)(vs:List x1)(tm:Array x1)(e:Env),a.length=vs.length->(a.all λt=>Nat.blt t N)=ro->Q1 N e {tmps:=tm,defers:=[]}->
  Q1 N (ks a.reverse vs.reverse e) {tmps:=(a.zip vs).foldl (λtm (p:Nat×x1)=>tm.setIfInBounds p.1 p.2) tm,defers:=[]}
 |[],[],_,_,_,_,h=>h
 |[],_::_,_,_,h,_,_=>by simp at h
 |_::_,[],_,_,h,_,_=>by simp at h
 |p::a,v::vs,tm,e,q,f,h=>by
  have j:a.length=vs.length:=by simpa using q
  simp only[List.all_cons,T1]at f;simp only[List.zip_cons_cons,V8,List.reverse_cons];rw[zI _ _ _ _ _ (by simpa using j)];exact zJ a vs _ _ j f.2 (h.put (d:=σ p) (x:=.v v) (v:=v) f.1 rfl)
def ku(free:fN)(c:Code):Bool:=free.1|| !lF c
theorem zK:∀f a b:Bool,(f|| !(a||b))=ro->(f|| !a)=ro:=Φ
theorem zL:∀f a b:Bool,(f|| !(a||b))=ro->(f|| !b)=ro:=Φ
def exitCode:Exit->Option Code
 | .ret=>σ .ret
 | .exit id=>σ (.exit id)
 |_=>ν
end
section
variable{P:V5}{N:Nat}
def Sound(P:V5)(N:Nat)(c:Code):Prop:=
 ∀(free:fN)(r:Option Nat)(rd:List Nat)(e:Env)(a:Act)(w:x4)(K:Exit->Env->x4->Prop)(Q:Exit->Act->x4->Prop),
  wf N c=ro->(∀l,r=σ l->free.1=rs/\∃f,w.heap[l]?=σ (.loop f))->(free.1=rs->m8 w a.defers)->
  eM P N free c rd e w K->Q1 N e a->(∀ex a' I,nS N free (ku free c) K (dF c) a w ex a' I->Q ex a' I)->(∀h a w,¬Q (.panic h) a w)->
  c.wpIn (eL r) 0 P Q a w
theorem HH{x y:Code}(aa:Sound P N x)(ab:Sound P N y):Sound P N (.seq x y):=by
 intro free r rd e a w K Q E M ad h O R S;simp only[wf,T1]at E;have T:∀t,t∈dF x->t∈dF (.seq x y):=λt q=>by simp[dF,q]
 have ae:∀t,t∈dF y->t∈dF (.seq x y):=λt q=>by simp[dF,q]
 have V:ku free (.seq x y)=ro->ku free x=ro:=λh=>zK _ _ _ h;have af:ku free (.seq x y)=ro->ku free y=ro:=λh=>zL _ _ _ h;refine wpIn_seq ?_;have W:∀(f:Env)(j:Act)(U:x4),eM P N free y rd f U K->Q1 N f j->(∀t,t∉dF x->j.tmps.getD t undef=a.tmps.getD t undef)->
   (ku free (.seq x y)=ro->j.defers=a.defers)->(free.1=rs->gU free.2 w a.defers U j.defers)->y.wpIn (eL r) 0 P Q j U:=by
  intro f j U h1 s hk A p;refine ab free r rd f j U K Q E.2 ?_ (λh=>(p h).2.1) h1 s ?_ S
  .intro l ag;obtain⟨X,ah,C⟩:=M l ag;exact⟨X,ah,(p X).1.aZ _ _ C rfl⟩
  .intro ex a' I ac;exact R ex a' I (ac.step ae (λt q=>hk t λh=>q (T t h)) af A p)
 have Y:∀(z:Exit->Env->x4->Prop),eM P N free x (reads y++rd) e w z->
   (∀f j U,nS N free (ku free x) z (dF x) a w .normal j U->Q1 N f j->z .normal f U->(∀t,t∉dF x->j.tmps.getD t undef=a.tmps.getD t undef)->
    (ku free (.seq x y)=ro->j.defers=a.defers)->(free.1=rs->gU free.2 w a.defers U j.defers)->y.wpIn (eL r) 0 P Q j U)->
   (∀ex f U,ex≠ .normal->z ex f U->K ex f U)->x.wpIn (eL r) 0 P (Exit.then (y.wpIn (eL r) 0 P Q) Q) a w:=by
  intro z B p ai;refine aa free r _ e a w z _ E.1 M ad B O ?_ ?_
  .intro ex j U ac;cases ex with
   |normal=>
    have aj:=ac;obtain⟨C,f,h1,F,G,H,J⟩:=ac;exact p f j U aj F h1 G (λh=>H (V h)) J
   |_=>
    obtain⟨C,f,h1,F,G,H,J⟩:=ac;refine R _ j U ⟨C,f,ai _ f U Ξ h1,F,λt q=>G t λh=>q (T t h),λh=>H (V h),J⟩
  .intro ak a w al;exact S ak a w al
 simp only[eM]at h;cases Z:Nat.ble 2 (md x)with
 |false=>
  rw[Z]at h;refine Y _ h (λf j U _ s h1 hk A p=>W f j U h1 s hk A p) ?_;intro ex f U L h1;cases ex<;>first|exact m6 rfl L|exact h1
 |true=>
  rw[Z]at h;refine Y _ h (λf j U _ s h1 hk A p=>?_) ?_
  .simp only at h1;cases B:lH f (re N (dF x) (reads y++rd))with
   |none=>rw[B]at h1;exact h1.elim
   |some vs=>
    rw[B]at h1;obtain⟨am,an⟩:=th s B;simp only at h1;rw[tc _ _ _ am]at h1;exact W _ j U h1 (wg (HF O s hk) an) hk A p
  .intro ex f U L h1;cases ex<;>first|exact m6 rfl L|exact h1
theorem HI{c:Code}(ab:Sound P N c):Sound P N (.loop c):=by
 intro free r rd e a w K Q R ad ae h F af ag;simp only[wf]at R;simp only[eM]at h;generalize ax:rf N (dF c) (reads c++rd) e=S at h;cases G:lH e S with
 |none=>rw[G]at h;exact h.elim
 |some vs=>
  rw[G]at h;simp only at h;obtain⟨ah,ai,q,aj⟩:=h;obtain⟨ak,al⟩:=th F G;let Inv:Act->x4->Prop:=λf U=>∃us,us.length=S.length/\app S.length ah us U/\(∀p∈S.zip us,f.tmps.getD p.1 undef=p.2)/\f.tmps.size=N/\
   (∀t,t∉dF c->f.tmps.getD t undef=a.tmps.getD t undef)/\(ku free c=ro->f.defers=a.defers)/\(free.1=rs->gU free.2 w a.defers U f.defers)
  let s:Act->List x1:=λf=>S.map λt=>f.tmps.getD t undef;have T:∀(f:Act)(us:List x1),us.length=S.length->(∀p∈S.zip us,f.tmps.getD p.1 undef=p.2)->s f=us:=by
   intro f us y z;apply List.ext_getElem
   .simp[s,y]
   .intro i h1 j;have hi:i<S.length:=by simpa[s]using h1
    have am:(S[i],us[i])∈S.zip us:=by
     have:=Q4 (l:=S.zip us) (n:=i) (by simp[List.length_zip,y,hi]);simpa using this
    simpa[s]using z _ am
  refine wpIn_loop Inv (λf U=>app S.length ai (s f) U) ⟨vs,ak,q,al,F.1,λ_ _=>rfl,λ_=>rfl,λA=>gU.refl (ae A)⟩ ?_;rintro f U ⟨us,y,an,z,ao,hk,A,B⟩;have C:=td S.length _ us aj;rw[tc _ _ _ y]at C;have C:=C U an;have ap:Q1 N (ks S us (nQ (dF c) e)) f:=by
   refine wg ⟨ao,λt x E=>?_⟩ z;obtain⟨h1,j⟩:=tg E;rw[hk t j];exact F.2 t x h1
  refine ab free r _ _ f U _ _ R ?_ (λh=>(B h).2.1) C ap ?_ ?_
  .intro l aq;obtain⟨V,au,q⟩:=ad l aq;exact⟨V,au,(B V).1.aZ _ _ q rfl⟩
  .intro ex H aa ac;have W:∀t,t∉dF c->H.tmps.getD t undef=a.tmps.getD t undef:=by
    obtain⟨_,_,_,_,I,_,_⟩:=ac;exact λt E=>(I t E).F (hk t E)
   cases ex with
   |normal=>
    obtain⟨q,J,h1,j,I,L,M⟩:=ac;simp only at h1;cases O:lH J S with
    |none=>rw[O]at h1;exact h1.elim
    |some X=>
     rw[O]at h1;obtain⟨Y,Z⟩:=th j O;refine⟨⟨X,Y,h1.1,Z,j.1,W,λh=>(L h).F (A h),λh=>(B h).F (M h)⟩,?_⟩;rw[T f us y z,T H X Y Z];exact h1.2
   |_=>
    obtain⟨q,J,h1,j,I,L,M⟩:=ac;exact af _ H aa ⟨q,J,h1,j,W,λh=>(L h).F (A h),λh=>(B h).F (M h)⟩
  .intro av a w aw;exact ag av a w aw
theorem HJ{o:Obj}(h:fL o=rs):book o=ro\/sX o=ro:=by cases o<;>first|exact .inl rfl|exact .inr rfl|cases h
theorem HK{l:Nat}{f s h:x4}{w y:Obj}(z:f.heap[l]?=σ w)(a:cI n f s)(e:cI n (s.putObj l y) h)(A:l<h.heap.size)(hi:e9 f h):cN f (h.putObj l w):=
 ⟨e.os.F a.os,kT.F e.tape a.tape,e.output.F a.output,by have h1:=a.size;have B:=e.size;simp at B ⊢;omega,λr x j J=>by
  by_cases q:r=l
  .subst q;rw[z]at j;cases j;exact x4.putObj_heap_same A
  .rw[P6 q];rcases HJ J with p|p
   .exact e.aZ r x (by rw[P6 q];exact a.aZ r x j p) p
   .exact hi r x j p⟩
theorem HL{f:R4}{T:Array Tmp}{Y body:Code}(be:Sound P N Y)(aj:Sound P N body):Sound P N (.rangeFunc f T Y body):=by
 intro free r rd e a w K Q aM S ax h ad bf b1;simp only[wf,T1]at aM;obtain⟨bg,bh,bi⟩:=aM;simp only[eM]at h;obtain⟨fr,b⟩:=free;cases fr with
 |true=>exact h.elim
 |false=>
  simp only[cond_false]at h;cases az:eS e f with
  |none=>rw[az]at h;exact h.elim
  |some b2=>
   rw[az]at h;obtain⟨aN,o,G,g,cap,b3,b4,b5,ak,aO,aA,bj,⟨aP,bk⟩,bl,haQ,al,aB,hbm,bn,bo,bp,bq,br⟩:=h;have bs:∀m k ex I,me ex=ro->ex≠ .normal->aA m k ex I->K ex e I:=by
    intro m k ex I ae aC am;cases ex with
    |normal=>exact m6 rfl aC
    |ret=>
     have:=bq m k I am;cases S:kt body with
     |true=>rw[S]at this;exact this
     |false=>rw[S]at this;exact this.elim
    |exit i=>exact zF (br m k i I am)
    |_=>cases ae
   have bt:a.eval f= .func (.func g) #[] cap:=by rw[ad.eS az];exact bj
   refine wpIn_rangeFunc ?_;intro fn _;obtain⟨D,mark,l,y,z,bu,C,aR,an,M,aS,ao⟩:∃(D:Nat)(mark:List Deferred)(l:Nat)(y:x4)(z:LoopState->Option Code->Loop),
     (Instr.enterLoop fn a.tmps T Y body (eL r).round).run P w= .ok (l,mark) y/\
     z=(λst bw=>{state:=st,pending:=bw,fn,tmps:=a.tmps,params:=T,assign:=Y,body,defers:=D})/\
     y.heap[l]?=σ (.loop (z .ready ν))/\(mark=[]\/(mark=[lI D]/\y.heap[D]?=σ (.deferred (σ []))/\w.heap.size<=D/\D≠l))/\Ext w y/\cN w y/\w.heap.size<=l:=by
    cases r with
    |none=>
     refine⟨w.heap.size,[lI w.heap.size],w.heap.size+1,_,_,run_enterLoop_outer _ _ _ _ _,rfl,?_,.inr ⟨rfl,?_,p8 _,Ω⟩,?_,?_,Ω⟩
     .have:=x4.alloc_heap_new (w.alloc (.deferred (σ []))) (.loop {state:=.ready,pending:=ν,fn,tmps:=a.tmps,params:=T,assign:=Y,body,defers:=w.heap.size});rwa [x4.size_alloc]at this
     .exact (Below.heap_alloc _ _ _ Ξ).F (x4.alloc_heap_new w _)
     .exact (p3 w _).F (p3 _ _)
     .exact (p4 w _).F (p4 _ _)
    |some bx=>
     obtain⟨_,bz,O⟩:=S bx rfl;exact⟨bz.defers,[],w.heap.size,_,_,run_enterLoop_inner O _ _ _ _ _,rfl,x4.alloc_heap_new w _,.inl rfl,p3 _ _,p4 _ _,p8 _⟩
   let R:x4->Prop:=λj=>mark=[]\/(mark=[lI D]/\j.heap[D]?=σ (.deferred (σ []))/\w.heap.size<=D/\D≠l);have aD:∀{m:Nat}{A B:x4},cI m A B->R A->R B:=λE h=>h.imp id λ⟨h1,q,s⟩=>⟨h1,E.aZ _ _ q rfl,s⟩;have ap:∀{A:x4}(o:Obj),R A->R (A.putObj l o):=λo h=>h.imp id λ⟨h1,q,s,H⟩=>⟨h1,(P6 H).F q,s,H⟩;have bA:cI b w y:=aS.b;have aT:=(j9.1 aR).1;have aU:∀{A B:x4},fM y.heap.size A B->R A->R B:=λE h=>h.imp id λ⟨h1,q,s⟩=>⟨h1,E.old _ _ (by
    rcases an with hm|⟨_,ax,_⟩
    .rw[hm]at h1;cases h1
    .exact (j9.1 ax).1) q rfl,s⟩
   have ag:∀{A:x4}(o:Obj),fM w.heap.size A (A.putObj l o):=λ{A}o=>⟨rfl,.lC,rfl,Ξ,λr x S am _=>by rw[P6 Ω];exact am⟩;let ay:(Nat->Prop)->aN->x4->Prop:=λm k j=>aO m k j/\j.heap[l]?=σ (.loop (z .ready ν))/\cI b w j/\R j;let aV:(Nat->Prop)->aN->x4->Prop:=λm k j=>∃ex c,me ex=ro/\exitCode ex=σ c/\aA m k ex j/\j.heap[l]?=σ (.loop (z .done (σ c)))/\cI b w j/\R j;have own:∀{m:Nat->Prop}{A B:x4},af (λr=>o=ro/\y.heap.size<=r/\¬m r) A B->af (λr=>o=ro/\w.heap.size<=r/\¬m r) A B:=λh=>h.Y λr _ h=>⟨h.1,Y9 M.size h.2.1,h.2.2⟩;have aE:=bk l ay aV y (λm k A B he E ⟨h1,q,s,H⟩=>⟨al m k A B (own he) (E.Y M.size) h1,E.old _ _ aT q rfl,s.zs E M.size,aU E H⟩)
    (λm k A B he E ⟨ex,c,O,h1,q,s,H,ah⟩=>⟨ex,c,O,h1,aB m k ex A B (own he) (E.Y M.size) q,E.old _ _ aT s rfl,H.zs E M.size,aU E ah⟩) ?round (haQ _ _ _ M hbm) ⟨al _ _ _ _ (M.V _) aS.o bn,aR,bA,an⟩
   case round=>
    intro m k aq vs j aW bB hak aX ⟨hi,au,bC,bD⟩;have aF:=bl k vs aq j aX;have aY:=run_yield (P:=P) (args:=vs.toArray) au (by rw[C];simp[aF]);rw[C]at aY;refine⟨fn,_,Y,body,aY,roundIn_of_wpIn trivial ?_⟩;have bE:(T.zip vs.toArray).foldl (λtmps x=>match x with|(t,a)=>tmps.setIfInBounds t a) a.tmps=(T.toList.zip vs).foldl (λtm (p:Nat×x1)=>tm.setIfInBounds p.1 p.2) a.tmps:=by
     rw[<-Array.foldl_toList,Array.toList_zip]
    have a1:=zJ T.toList vs a.tmps e (by simp[aF]) bg (show Q1 N e {tmps:=a.tmps,defers:=[]}from⟨ad.1,ad.2⟩);rw[<-bE]at a1;have bF:=au;refine be (rs,b) (σ l) _ _ _ j _ _ bh (λe0 aG=>⟨rfl,by cases aG;exact⟨_,au⟩⟩) (λ_=>⟨[],rfl,List.nodup_nil,λD an=>by cases an⟩) (by have aj:=td _ _ vs bo;rw[tc _ _ _ aF]at aj;exact aj m k aq j (λr S=>⟨Y9 M.size (aW r S).1,(aW r S).2⟩) (Y9 M.size bB) hak aX hi) a1 ?_ (λ_ _ _ h=>h);intro ex a2 F ac;obtain⟨O,b6,h1,q,s,H,ah⟩:=ac;obtain⟨U,bG,_⟩:=ah rfl;cases ex with
    |normal=>
     have Z:=U.aZ _ _ au rfl;have bH:=(j9.1 Z).1;refine⟨_,run_beginRound Z (by rw[C]),?_⟩;have bI:Ext F (F.putObj l (.loop {z .ready ν with state:=.busy})):=rh Z rfl _;have a6:(F.putObj l (.loop {z .ready ν with state:=.busy})).heap[l]?=σ (.loop {z .ready ν with state:=.busy}):=x4.putObj_heap_same bH;have bJ:m8 (F.putObj l (.loop {z .ready ν with state:=.busy})) a2.defers:=by
      obtain⟨av,aa,ab,ai⟩:=bG;refine⟨av,aa,ab,λD' W=>?_⟩;have:=ai D' W;have aC:D'≠l:=λhe=>by rw[he,Z]at this;cases this
      rw[P6 aC];exact this
     have a7:cI b w (F.putObj l (.loop {z .ready ν with state:=.busy})):=tf (bC.F U) ao _;have a8:=ap (.loop {z .ready ν with state:=.busy}) (aD U bD);have bK:=h1 _ bI ⟨zG rfl,ag _⟩ (HD (e9.refl _) Z rfl _);refine aj (rs,b) (σ l) _ _ a2 _ _ _ bi (λe0 aG=>⟨rfl,by cases aG;exact⟨_,a6⟩⟩) (λ_=>bJ) bK q ?_ (λ_ _ _ h=>h);intro bL b7 J ac;obtain⟨aH,b8,g1,b9,ca,cb,bM⟩:=ac;obtain⟨L,_,_⟩:=bM rfl;have aI:J.heap[l]?=σ (.loop {z .ready ν with state:=.busy}):=L.aZ _ _ a6 rfl;have aJ:=(j9.1 aI).1;have ba:=λbN=>run_endRound (P:=P) bN aI;have aw:∀(o:Obj),Ext J (J.putObj l o):=λo=>rh aI rfl o;have bb:∀(ex:Exit)(c:Code),me ex=ro->exitCode ex=σ c->(bif o then False else aA m k ex J)->
       ∃v I,(Instr.endRound l (σ c)).run P J= .ok v I/\∃aK,Ending.returned v= .returned aK/\((aK= .bool ro/\(∃bP,(∀r,bP r->m r\/j.heap.size<=r/\r<I.heap.size)/\(∀r,m r->bP r)/\ak bP I/\ay bP aq I)/\(G=ro\/o=ro->cN j I)/\j.heap.size<=I.heap.size/\(o=ro->af (λr=>r<y.heap.size\/m r) j I))\/(o=rs/\aK= .bool rs/\aV m k I)):=by
      intro ex c ae bO bc;cases o with
      |true=>exact bc.elim
      |false=>
       refine⟨_,_,ba (σ c),_,rfl,.inr ⟨rfl,rfl,ex,c,ae,bO,aB m k ex _ _ ((aw _).V _) (ag _) bc,?_,tf (a7.F L) ao _,ap _ (aD L a8)⟩⟩;rw[x4.putObj_heap_same aJ,C];rfl
     cases bL with
     |normal=>
      have bQ:j.heap.size<=J.heap.size:=by
       have h1:=U.size;have q:=L.size;simp at q;omega
      obtain⟨⟨bP,d1,d2,aa,ab⟩,bR,bS⟩:(∃bP,(∀r,bP r->m r\/j.heap.size<=r/\r<J.heap.size)/\(∀r,m r->bP r)/\ak bP J/\aO bP aq J)/\(G=ro\/o=ro->e9 j J)/\(o=ro->af (λr=>r<y.heap.size\/m r) j J):=by
       cases o with
       |true=>exact⟨g1.1,λ_=>g1.2.1,λ_=>g1.2.2.Y λr _ h=>h.imp (λh=>S3 h M.size) id⟩
       |false=>exact⟨⟨m,λr h=>.inl h,λ_ h=>h,g1.1,g1.2.1⟩,λh=>g1.2.2 (h.elim id λh=>nomatch h),λh=>nomatch h⟩
      refine⟨_,_,ba ν,_,rfl,.inl ⟨rfl,⟨bP,by simpa using d1,d2,haQ _ _ _ (aw _) aa,al _ _ _ _ ((aw _).V _) (ag _) ab,?_,tf (a7.F L) ao _,ap _ (aD L a8)⟩,λbT=>?_,?_,λbU=>(bS bU).F ((aw _).V _)⟩⟩
      .rw[x4.putObj_heap_same aJ,C];rfl
      .have:=HK bF U L aJ (bR bT);subst C;exact this
      .simpa using bQ
     |ret=>exact bb .ret _ rfl rfl g1
     |exit id=>exact bb (.exit id) _ rfl rfl g1
     |goto t=>cases aH
     |panic bV=>cases aH
     |outgrown=>cases aH
    |_=>exact h1.elim
   have aE:=gS.calls P aE aP;refine⟨l,mark,y,{target:=.fn (.func g) cap,args:=#[.func (.yield l) #[] #[]]},y,g,#[.func (.yield l) #[] #[]]++cap,y,bu,?_,λ_ _=>trivial,?_,vL _ _,?_⟩
   .simp only[resolve,bt];simp[go_sem]
   .simp only[invoke];exact aP _ _
   .have bW:(#[.func (.yield l) #[] #[]]++cap:Array x1)=(x1.func (.yield l) #[] #[]::cap.toList).toArray:=by apply Array.toList_inj.1;simp
    rw[bW];refine CallsIn.mono (zt aE) ?_;rintro cc F ⟨v,rfl,bX⟩;have left:∀(X:Loop)(ex:Exit),me ex=ro->F.heap[l]?=σ (.loop X)->X.state≠ .busy->cI b w F->R F->K ex e (F.putObj l (.loop {X with state:=.exhausted}))->
      Q ex {a with defers:=mark++a.defers} (F.putObj l (.loop {X with state:=.exhausted})):=by
     intro X ex ae Z cd U bd bY;have L:cI b w (F.putObj l (.loop {X with state:=.exhausted})):=tf U ao _;refine bf ex _ _ ⟨ae,e,bY,⟨ad.1,ad.2⟩,λ_ _=>rfl,(λh=>by simp[ku,lF]at h),λ_=>⟨L,?_,?_⟩⟩
     case refine_2=>
      rcases bd with hm|⟨hm,_,bZ,_⟩
      .exact⟨[],by simp[hm],λ_ h=>by cases h⟩
      .exact⟨[D],by simp[hm],λD' W=>by simp at W;omega⟩
     obtain⟨av,aa,ab,ai⟩:=ax rfl;have aL:=ap (.loop {X with state:=.exhausted}) bd;rcases aL with hm|⟨hm,aL,bZ,_⟩
     .exact⟨av,by simp[hm,aa],ab,λD' W=>L.aZ _ _ (ai D' W) rfl⟩
     .refine⟨D::av,by simp[hm,aa],List.nodup_cons.2 ⟨λb0=>?_,ab⟩,λD' W=>?_⟩
      .have:=(j9.1 (ai D b0)).1;omega
      .rcases V4.1 W with h|h
       .rw[h];exact aL
       .exact L.aZ _ _ (ai D' h) rfl
    rcases bX with⟨m,k,hk,h1,q,s,H⟩|⟨m,k,ex,c,O,h1,q,s,H,ah⟩
    .refine⟨ν,_,by have:=run_endLoop (P:=P) q (by rw[C];simp);rw[C]at this;exact this,?_⟩;have:=left (z .ready ν) .normal rfl q (by rw[C];simp) s H (bp m _ _ hk (al m _ _ _ ((rh q rfl _).V _) (ag _) h1));rw[C]at this;exact this
    .refine⟨σ c,_,by have:=run_endLoop (P:=P) s (by rw[C];simp);rw[C]at this;exact this,?_⟩;have:=left (z .done (σ c)) ex O s (by rw[C];simp) H ah (bs m k ex _ O (by intro he;rw[he]at h1;cases h1) (aB m _ _ _ _ ((rh s rfl _).V _) (ag _) q));rw[C]at this;cases ex with
     |normal=>cases h1
     |ret=>cases h1;exact wpIn_ret this
     |exit id=>cases h1;exact wpIn_exit this
     |goto t=>cases O
     |panic bV=>cases O
     |outgrown=>cases O
theorem ti{b:Frame}{a:Act}{k:List Item}{cs:List Frame}{c:Code}:
  step P (lone (b.atR a (.code (.scope c)::k)) cs w)= .next (lone (b.atR a (.code c:: .inScope c::k)) cs w):=
 step_lone_go (by simp[stepG,stepG.exec,Frame.atR])
theorem HM{b:Frame}{a:Act}{k:List Item}{cs:List Frame}{c:Code}:
  step P (lone (b.atR a (.inScope c::k)) cs w)= .next (lone (b.atR a k) cs w):=
 step_lone_go (by simp[stepG,stepG.exec,Frame.atR])
theorem HN{F:Fence}{c:Code}{Q:Exit->Act->x4->Prop}{a:Act}(h:c.wpIn F n P (λex a' I=>me ex=ro/\Q ex a' I) a w):
  (Code.scope c).wpIn F n P Q a w:=by
 intro b k cs A p q;have f:(lone (b.atR a (.code (.scope c)::k)) cs w).fenced P F:=fenced_calm p q rfl;obtain⟨e,r,s,⟨x,y⟩,j⟩:=h b (.inScope c::k) cs A p q;have z:∀id,exitTo id (.inScope c::k)=exitTo id k:=λid=>by simp[exitTo]
 cases e with
 |normal=>exact⟨.normal,r,s,y,.head f ti (StepsIn.trans j (.one (fenced_calm p q rfl) HM))⟩
 |exit id=>
  exact⟨.exit id,r,s,y,λB hk=>.head f ti (j.1 B (by rw[z];exact hk)),
   λC hk=>let⟨E,h1,G⟩:=j.2 C (by rw[z];exact hk);⟨E,h1,.head f ti G⟩⟩
 |ret=>exact⟨_,r,s,y,.of_steps (.one f ti) j⟩
 |goto l=>cases x
 |panic H=>cases x
 |outgrown=>cases x
theorem sound(hm:P.follows .mixedOrders=ro)(c:Code):Sound P N c:=by
 induction c with
 |skip=>exact λfree r rd e a w K Q _ _ p h j q _=>wpIn_skip (q _ _ _ ⟨rfl,e,h,j,λ_ _=>rfl,λ_=>rfl,λC=>gU.refl (p C)⟩)
 |label l=>exact λfree r rd e a w K Q _ _ p h j q _=>wpIn_label (q _ _ _ ⟨rfl,e,h,j,λ_ _=>rfl,λ_=>rfl,λC=>gU.refl (p C)⟩)
 |ret=>exact λfree r rd e a w K Q _ _ p h j q _=>wpIn_ret (q _ _ _ ⟨rfl,e,h,j,λ_ _=>rfl,λ_=>rfl,λC=>gU.refl (p C)⟩)
 |exit i=>exact λfree r rd e a w K Q _ _ p h j q _=>wpIn_exit (q _ _ _ ⟨rfl,e,h,j,λ_ _=>rfl,λ_=>rfl,λC=>gU.refl (p C)⟩)
 |goto l=>exact λfree r rd e a w K Q _ _ p h j q _=>h.elim
 |refuse s=>exact λfree r rd e a w K Q _ _ p h j q _=>h.elim
 |region id ops aa=>
  intro free r rd e a w K Q A E p h j q F;simp only[wf,T1]at A;have W:∀o∈ops.toList,∀t,o.dst=σ t->t∈oL ops.toList:=λo ab t J=>HG J _ ab;simp only[eM]at h;cases aa with
  |false=>exact Hm W A.1 h j λa' I ac=>q _ _ _ (zH p ac)
  |true=>
   simp only[X1,Bool.false_or]at A;exact Hv hm A.2 F W A.1 (λI h1 G H=>h I h1 G H) j λa' I ac=>q _ _ _ (zH p ac)
 |seq x y R S=>exact HH R S
 |cond c x y R S=>
  intro free r rd e a w K Q A E p h j q F;simp only[wf,T1]at A;have X:∀ex a' I,nS N free (ku free x) K (dF x) a w ex a' I->Q ex a' I:=λex a' I ac=>q ex a' I (by
   obtain⟨O,L,h1,G,H,M,T⟩:=ac;exact⟨O,L,h1,G,λt J=>H t λh=>J (by simp[dF,h]),(λh=>M (zK _ _ _ h)),T⟩)
  have Y:∀ex a' I,nS N free (ku free y) K (dF y) a w ex a' I->Q ex a' I:=λex a' I ac=>q ex a' I (by
   obtain⟨O,L,h1,G,H,M,T⟩:=ac;exact⟨O,L,h1,G,λt J=>H t λh=>J (by simp[dF,h]),(λh=>M (zL _ _ _ h)),T⟩)
  simp only[eM]at h;cases B:eS e c with
  |none=>rw[B]at h;exact h.elim
  |some v=>
   rw[B]at h;cases v with
   |b t=>
    cases t with
    |true=>exact wpIn_cond (j.eS B) (R free r rd e a w K Q A.1 E p h j X F)
    |false=>exact wpIn_cond (j.eS B) (S free r rd e a w K Q A.2 E p h j Y F)
   |v z=>
    obtain⟨t,ad,J,C⟩:=h;refine wpIn_cond ((j.eS B).F ad) ?_;cases t with
    |true=>exact R free r rd e a w K Q A.1 E p (J rfl) j X F
    |false=>exact S free r rd e a w K Q A.2 E p (C rfl) j Y F
   |u=>exact h.elim
 |block id c B=>
  intro free r rd e a w K Q A E p h j q F;simp only[wf]at A;simp only[eM]at h;refine wpIn_block (B free r rd e a w _ _ A E p h j ?_ λZ a w U=>F Z a w U);intro ex a' I ac;obtain⟨O,L,h1,G,H,M⟩:=ac;cases ex with
  |exit i=>
   simp only[Exit.inBlock];simp only at h1;by_cases hi:i=id
   .rw[m3 hi];rw[hi,Nat.beq_refl]at h1;exact q _ _ _ ⟨rfl,L,h1,G,H,M⟩
   .rw[m5 hi];have:S6 i id=rs:=by
     cases V:S6 i id with
     |true=>exact m6 (Nat.eq_of_beq_eq_true V) hi
     |false=>rfl
    rw[this]at h1;exact q _ _ _ ⟨rfl,L,h1,G,H,M⟩
  |_=>exact q _ _ _ ⟨O,L,h1,G,H,M⟩
 |loop c B=>exact HI B
 |scope c B=>
  intro free r rd e a w K Q A E p h j q F;exact HN (B free r rd e a w K (λex a' I=>me ex=ro/\Q ex a' I) A E p h j (λex a' I ac=>⟨ac.1,q ex a' I ac⟩) λZ a w U=>by cases U.1)
 |rangeFunc f af ag body ae V=>exact HL ae V
def mf:Nat->List x1->Env
 |_,[]=>[]
 |i,v::r=>(i,.v v)::mf (i+1) r
def oP(P:V5)(e:Env)(w:x4):List ResultVar->(List x1->Prop)->Prop
 |[],K=>K []
 | .tmp t::r,K=>match look e t with
  |some x=>oP P e w r λvs=>K (x.val::vs)
  |none=>False
 | .cell a t::r,K=>match look e a with
  |some x=>ab P (do loadVar t (<-asAddr x.val)) w λv=>oP P e w r λvs=>K (v::vs)
  |none=>False
def tj:List x1->x1
 |[v]=>v
 |vs=>.tuple vs.toArray
def m9(P:V5)(a:List ResultVar)(marks:Bool)(n:Nat)(Q:x1->x4->Prop):Exit->Env->x4->Prop
 | .normal,e,w| .ret,e,w=>oP P e w a λvs=>bif marks then wa n w λI=>Q (tj vs) I else Q (tj vs) w
 |_,_,_=>False
def nT:List ResultVar->List Nat
 |[]=>[]
 | .tmp t::r=>t::nT r
 | .cell a _::r=>a::nT r
theorem zM:∀(vs:List x1)(i t:Nat)(x:eK),look (mf i vs) t=σ x->∃j v,t=i+j/\vs[j]?=σ v/\x= .v v
 |[],_,_,_,h=>by cases h
 |v::r,i,t,x,h=>by
  simp only[mf,look]at h;cases a:S6 i t with
  |true=>
   rw[a]at h;simp only[cond_true,X4]at h;exact⟨0,v,by rw[Nat.eq_of_beq_eq_true a];rfl,rfl,h.symm⟩
  |false=>
   rw[a]at h;obtain⟨j,u,h1,e,f⟩:=zM r (i+1) t x h;exact⟨j+1,u,Ω,by simpa using e,f⟩
theorem wh(vs:List x1)(h:vs.length<=n):Q1 n (mf 0 vs) {tmps:=vs.toArray++Array.replicate (n-vs.toArray.size) undef,defers:=[]}:=by
 refine⟨Θ,λt x e=>?_⟩;obtain⟨j,v,h1,a,rfl⟩:=zM vs 0 t x e;have h1:t=j:=Ω
 subst h1;have f:=(x5.1 a).1;rw[Array.getD_eq_getD_getElem?,Array.getElem?_append_left (by simpa using f)];simp[a,eK.val]
def tk(tm:Array x1):ResultVar->Sem x1
 | .tmp t=>pure (tm.getD t undef)
 | .cell b t=>do loadVar t (<-asAddr (tm.getD b undef))
theorem HO(fn:Func)(tm:Array x1):results fn tm=(do let vs <-fn.results.mapM (tk tm);pure (if h:vs.size=1 then vs[0]else .tuple vs)):=by
 unfold results;congr 2
theorem wi{e:Env}{a:Act}{w:x4}(j:Q1 N e a):∀(p:List ResultVar)(K:List x1->Prop),oP P e w p K->
  ∃vs,K vs/\vs.length=p.length/\∀I,Ext w I->(p.mapM (tk a.tmps)).run P I= .ok vs I
 |[],K,h=>⟨[],h,rfl,λI _=>by simp[U1]⟩
 | .tmp t::r,K,h=>by
  simp only[oP]at h;cases f:look e t with
  |none=>rw[f]at h;exact h.elim
  |some x=>
   rw[f]at h;obtain⟨vs,h1,q,s⟩:=wi j r _ h;refine⟨x.val::vs,h1,by simp[q],λI hw=>?_⟩;rw[List.mapM_cons];simp only[tk,V1,U1,V2,s I hw,j.2 t x f]
 | .cell b t::r,K,h=>by
  simp only[oP]at h;cases f:look e b with
  |none=>rw[f]at h;exact h.elim
  |some x=>
   rw[f]at h;obtain⟨v,y,h⟩:=h;obtain⟨vs,h1,q,s⟩:=wi j r _ h;refine⟨v::vs,h1,by simp[q],λI hw=>?_⟩;rw[List.mapM_cons];have:=y I hw;rw[<-j.2 b x f]at this;rw[tk,V1,this];simp only[V2,V1,s I hw,U1]
theorem wj{fn:Func}{e:Env}{a:Act}(j:Q1 N e a){K:List x1->Prop}(h:oP P e w fn.results.toList K):
  ∃vs,K vs/\∀I,Ext w I->(results fn a.tmps).run P I= .ok (tj vs) I:=by
 obtain⟨vs,h1,p,f⟩:=wi j _ _ h;refine⟨vs,h1,λI hw=>?_⟩;have f:=f I hw;rw[HO,V1,Array.mapM_eq_mapM_toList,map_eq_pure_bind,V1,f];simp only[V2,U1];cases vs with
 |nil=>rfl
 |cons v r=>
  cases r with
  |nil=>rfl
  |cons u r=>simp[tj]
theorem zN{fn:Func}{tmps:Array x1}{R:Ending->x4->Prop}:∀(a:List Nat)(w:x4),a.Nodup->(∀D∈a,w.heap[D]?=σ (.deferred (σ [])))->
  (∀I,Ext w I->Ext I w->I.os=w.os->kT w I->I.output=w.output->w.heap.size=I.heap.size->
   (∀r,r∉a->I.heap[r]?=w.heap[r]?)->∃v,(results fn tmps).run P I= .ok v I/\R (.returned v) I)->
  LeavesInM Fence.wide 0 P fn tmps R (a.map lI) .returning w
 |[],w,_,_,h=>by
  obtain⟨v,h1,e⟩:=h w (Ext.refl _) (Ext.refl _) rfl .lC rfl rfl λ_ _=>rfl;exact⟨v,h1,e⟩
 |D::a,w,f,j,h=>by
  rw[List.nodup_cons]at f;have p:=j D (.head _);refine⟨Ξ,.inl ⟨D,_,rfl,run_takeDeferred p,?_⟩⟩;refine zN a _ f.2 (λD' q=>?_) λI h1 e x y z A B=>?_
  .rw[P6 (λhe=>f.1 (by rw[<-he];exact q))];exact j D' (.tail _ q)
  .refine h I ((rh p rfl _).F h1) (e.F (zG rfl)) x y z (by simpa using A) λr s=>?_;rw[B r λhm=>s (.tail _ hm),P6 λhe=>s (by rw[he];exact .head _)]
theorem al.enter(hm:P.follows .mixedOrders=ro){f:Q9}{fn:Func}{c:Code}(y:P.funcs[f]?=σ fn)(z:fn.body=σ c)(A:(fn.name == "runtime.NumGoroutine")=rs)(O:wf fn.ntmps c=ro){args:List x1}(R:Nat.ble args.length fn.ntmps=ro){w:x4}{Q:x1->x4->Prop}(h:eM P fn.ntmps (rs,w.heap.size) c (nT fn.results.toList) (mf 0 args) w (m9 P fn.results.toList ro w.heap.size Q)):al P f args w Q:=by
 refine .code (Enters.of P y z A) (callsIn_wide (n:=0).1 (callsIn_of_wp_marks y z trivial ?_));have S:=wh (n:=fn.ntmps) args (Nat.le_of_ble_eq_true R);refine wpIn_mono (Q:=λex a' I=>me ex=ro/\bodyPostM Fence.wide 0 P fn (λe I=>∃v,e= .returned v/\cN w I/\Q v I) ex a' I) ?_ λ_ _ _ h=>h.2;refine sound hm c (rs,w.heap.size) ν _ _ _ w _ _ O (λl T=>by cases T) (λ_=>⟨[],rfl,List.nodup_nil,λD q=>by cases q⟩) h S ?_ (λ_ _ _ h=>by cases h.1)
 .intro ex a' I ac;obtain⟨U,V,j,W,_,_,J⟩:=ac;obtain⟨a,⟨s,B,X,q⟩,Y,Z,ab⟩:=J rfl;have C:∀D∈s,w.heap.size<=D:=by
   intro D ad;have h1:lI D∈Y.map lI:=by
    have:lI D∈s.map lI:=j0.2 ⟨D,ad,rfl⟩;rw[<-B,Z]at this;simpa using this
   obtain⟨E,x,ae⟩:=j0.1 h1;have:E=D:=by simpa[lI]using ae
   exact this▸ab E x
  have F:m9 P fn.results.toList ro w.heap.size Q .ret V I->LeavesInM Fence.wide 0 P fn a'.tmps (λe G=>∃v,e= .returned v/\cN w G/\Q v G) a'.defers .returning I:=by
   intro j;rw[B];obtain⟨vs,h1,x⟩:=wj W j;refine zN s I X q λaa g1 af H K L M N=>⟨_,x aa g1,_,rfl,?_,h1 aa g1 ⟨af,H,K,L,Nat.le_of_eq M,λr o A p _=>by rw[N r λhm=>by have:=C r hm;omega];exact p⟩⟩;have a:=a.cu (p8 _);refine⟨H.F a.os,K.F a.tape,L.F a.output,by rw[<-M];exact a.size,λr o p ag=>?_⟩;have ah:=(j9.1 p).1;rw[N r λhm=>by have:=C r hm;omega];exact a.aZ r o p ag
  cases ex with
  |normal=>exact⟨rfl,F j⟩
  |ret=>exact⟨rfl,F j⟩
  |exit id=>exact j.elim
  |_=>cases U
theorem al.HP(hm:P.follows .mixedOrders=ro){f:Q9}{fn:Func}{c:Code}(j:P.funcs[f]?=σ fn)(p:fn.body=σ c)(s:(fn.name == "runtime.NumGoroutine")=rs)(x:wf fn.ntmps c=ro){args:List x1}(y:Nat.ble args.length fn.ntmps=ro)(ao:lF c=rs){w:x4}{Q:x1->x4->Prop}(h:eM P fn.ntmps (rs,w.heap.size) c (nT fn.results.toList) (mf 0 args) w (m9 P fn.results.toList rs 0 Q)):al P f args w Q:=by
 refine .code (Enters.of P j p s) (callsIn_wide (n:=0).1 (callsIn_of_wp j p trivial ?_));have z:=wh (n:=fn.ntmps) args (Nat.le_of_ble_eq_true y);refine wpIn_mono (Q:=λex a' I=>me ex=ro/\bodyPost P fn (λe I=>∃v,e= .returned v/\cN w I/\Q v I) ex a' I) ?_ λ_ _ _ h=>h.2;refine sound hm c (rs,w.heap.size) ν _ _ _ w _ _ x (λl A=>by cases A) (λ_=>⟨[],rfl,List.nodup_nil,λD B=>by cases B⟩) h z ?_ (λ_ _ _ h=>by cases h.1);intro ex a' I ac;obtain⟨C,E,a,F,_,G,J⟩:=ac;have H:=G (by simp[ku,ao]);have q:m9 P fn.results.toList rs 0 Q .ret E I->a'.defers=[]/\∃v,(results fn a'.tmps).run P I= .ok v I/\∃r,Ending.returned v= .returned r/\cN w I/\Q r I:=by
  intro a;obtain⟨vs,h1,K⟩:=wj F a;exact⟨H,_,K I (Ext.refl _),_,rfl,(J rfl).1.cu (p8 _),h1⟩
 cases ex with
 |normal=>exact⟨rfl,q a⟩
 |ret=>exact⟨rfl,q a⟩
 |exit id=>exact a.elim
 |_=>cases C
theorem gS.enter(hm:P.follows .mixedOrders=ro){f:Q9}{fn:Func}{c:Code}(j:P.funcs[f]?=σ fn)(p:fn.body=σ c)(s:(fn.name == "runtime.NumGoroutine")=rs)(x:wf fn.ntmps c=ro){args:List x1}(y:Nat.ble args.length fn.ntmps=ro){w:x4}{Q:x1->x4->Prop}(h:eM P fn.ntmps (ro,0) c (nT fn.results.toList) (mf 0 args) w (m9 P fn.results.toList rs 0 Q)):gS P f args w Q:=by
 refine .code (Enters.of P j p s) (callsIn_wide (n:=0).1 (callsIn_of_wp j p trivial ?_));have z:=wh (n:=fn.ntmps) args (Nat.le_of_ble_eq_true y);refine wpIn_mono (Q:=λex a' I=>me ex=ro/\bodyPost P fn (λe I=>∃v,e= .returned v/\Q v I) ex a' I) ?_ λ_ _ _ h=>h.2;refine sound hm c (ro,0) ν _ _ _ w _ _ x (λl A=>by cases A) (λh=>by cases h) h z ?_ (λ_ _ _ h=>by cases h.1);intro ex a' I ac;obtain⟨B,C,a,E,_,F,J⟩:=ac;have G:=F rfl;have q:m9 P fn.results.toList rs 0 Q .ret C I->a'.defers=[]/\∃v,(results fn a'.tmps).run P I= .ok v I/\∃r,Ending.returned v= .returned r/\Q r I:=by
  intro a;obtain⟨vs,h1,H⟩:=wj E a;exact⟨G,_,H I (Ext.refl _),_,rfl,h1⟩
 cases ex with
 |normal=>exact⟨rfl,q a⟩
 |ret=>exact⟨rfl,q a⟩
 |exit id=>exact a.elim
 |_=>cases B
end
def ri(l:List R4)(d:Nat):Nat:=
 match l with
 |[]=>d
 | .tmp t::r=>ri r (Nat.lor d (Nat.shiftLeft 1 t))
 |_::r=>ri r d
def p5:List S2->Nat->Option S2
 |[],_=>ν
 |o::_,0=>σ o
 |_::l,n+1=>p5 l n
def zO(a b:Nat):Nat:=Nat.xor a (Nat.land a b)
def rj(m t:Nat):Bool:=S6 (Nat.land (Nat.shiftRight m t) 1) 1
def lJ(m t:Nat):Nat:=Nat.lor m (Nat.shiftLeft 1 t)
def HQ(ops:List S2)(o:S2):Nat:=
 match o.guard with
 |none=>0
 |some (j,_)=>match p5 ops j with
  |some ⟨σ d,_,_,_,_,_⟩=>Nat.shiftLeft 1 d
  |_=>0
def tn:List S2->Nat->Nat
 |[],d=>d
 |⟨σ t,_,_,_,_,_⟩::l,d=>tn l (lJ d t)
 |_::l,d=>tn l d
def zP(ops:List S2):List S2->Nat->Nat->Nat
 |[],_,r=>r
 |o::l,d,r=>zP ops l (match o.dst with|some t=>lJ d t|none=>d) (Nat.lor r (zO (ri (opsOf o.op) (HQ ops o)) d))
def tp:List Nat->Nat->Nat
 |[],_=>0
 |x::_,0=>x
 |_::l,n+1=>tp l n
def zQ(e:Edge):Bool:=
 match e.ground with
 | .textOnly _=>rs
 | .gcOnly _=>rs
 |_=>ro
def zR(a:List Nat):List Edge->Nat->Nat
 |[],s=>s
 |e::r,s=>zR a r (bif zQ e then Nat.lor (lJ s e.on) (tp a e.on)else s)
def wk:List S2->List Nat->List Nat
 |[],a=>a
 |o::l,a=>wk l (a++[zR a o.after.toList 0])
def zS:List S2->Bool
 |[]=>rs
 |⟨_,_,_,_,_,σ _⟩::_=>ro
 |_::l=>zS l
def wm(a:List Nat)(j k:Nat):Bool:=!(S6 k j)&&(!(rj (tp a j) k)&& !(rj (tp a k) j))
def zT(a:List Nat)(j:Nat):Nat->List S2->Bool
 |_,[]=>rs
 |i,o::l=>bif Nat.ble j i then rs else(!(kq o)&&wm a j i)||zT a j (Nat.succ i) l
def zU(ops:List S2)(a:List Nat):Nat->List S2->Bool
 |_,[]=>rs
 |j,o::l=>(!(kq o)&&zT a j 0 ops)||zU ops a (Nat.succ j) l
def na:Code->Nat
 | .region _ ops e=>bif (e&&zU ops.toList (wk ops.toList []) 0 ops.toList)||zS ops.toList then 2 else 1
 | .seq a b=>bif S6 (na a) 0 then 0 else na b
 | .cond _ a b=>Nat.add (na a) (na b)
 | .block id c=>Nat.add (na c) (kV id c)
 | .loop _=>0
 | .scope c=>na c
 | .exit _=>0
 | .goto _=>0
 | .ret=>0
 | .refuse _=>0
 |_=>1
def ju:Code->Nat
 | .region _ ops _=>tn ops.toList 0
 | .seq a b=>Nat.lor (ju a) (ju b)
 | .cond _ a b=>Nat.lor (ju a) (ju b)
 | .block _ c=>ju c
 | .loop c=>ju c
 | .scope c=>ju c
 |_=>0
def nb:Code->Nat
 | .region _ ops _=>tn ops.toList 0
 | .seq a b=>Nat.lor (nb a) (nb b)
 | .cond _ a b=>bif S6 (na a) 0 then nb b else bif S6 (na b) 0 then nb a else Nat.land (nb a) (nb b)
 | .block id c=>bif S6 (kV id c) 0 then nb c else 0
 | .scope c=>nb c
 |_=>0
def gC:Code->Nat
 | .region _ ops _=>zP ops.toList ops.toList 0 0
 | .seq a b=>Nat.lor (gC a) (zO (gC b) (nb a))
 | .cond c a b=>ri [c] (Nat.lor (gC a) (gC b))
 | .block _ c=>gC c
 | .loop c=>gC c
 | .scope c=>gC c
 | .rangeFunc f _ a b=>ri [f] (Nat.lor (gC a) (gC b))
 |_=>0
def nU:Nat->Nat->Nat->List Nat
 |0,_,_=>[]
 |n+1,k,m=>bif S6 m 0 then[]else bif S6 (Nat.land m 1) 1 then k::nU n (Nat.succ k) (Nat.shiftRight m 1)else nU n (Nat.succ k) (Nat.shiftRight m 1)
def rk(e:Env):List Nat->List Nat
 |[]=>[]
 |t::r=>match look e t with
  |some _=>t::rk e r
  |none=>rk e r
structure nV(B S a1:Type) where
 mg:{x:x1}->x1
 tup:List x1->x1
 no:B
 mh:B
 and:B->B->B
 or:B->B->B
 W:x4->x4->B
 stays:S->x1->x4->B
 split:x1->B->B->B
 wn:S->x4->(x1->B)->B
 zV:S->x4->(x1->x4->B)->B
 zW:a1->x4->(x4->B)->B
 runN:{fr:Bool}->{n:Nat}->S->x4->(x1->x4->B)->B
 zX:{f:Q9}->List x1->x4->(x1->x4->B)->B
 zY:{f:Q9}->List x1->x4->(x1->x4->B)->B
 zZ:{fr:Bool}->x1->List x1->x4->(x1->x4->B)->B
 drew:x4->(x4->B)->B
 again:{n:Nat}->x4->(x4->B)->B
 over:{n:Nat}->x4->(x4->B)->B
 cW:(x4->B)->((x4->B)->B)->B
 aV:(x1->x4->B)->((x1->x4->B)->B)->B
 jv:(x1->x1->x4->B)->((x1->x1->x4->B)->B)->B
 z1:(x1->x1->x1->x4->B)->((x1->x1->x1->x4->B)->B)->B
 z6:(x1->x1->x1->x1->x4->B)->((x1->x1->x1->x1->x4->B)->B)->B
 z7:(x1->x1->x1->x1->x1->x4->B)->((x1->x1->x1->x1->x1->x4->B)->B)->B
 z8:x4->(x4->(x4->B)->B)->B
 Aa:x1->x4->(x1->x4->(x1->x4->B)->B)->B
 Ab:x1->x1->x4->(x1->x1->x4->(x1->x1->x4->B)->B)->B
 Ac:x1->x1->x1->x4->(x1->x1->x1->x4->(x1->x1->x1->x4->B)->B)->B
 Ad:x1->x1->x1->x1->x4->(x1->x1->x1->x1->x4->(x1->x1->x1->x1->x4->B)->B)->B
 Ae:x1->x1->x1->x1->x1->x4->(x1->x1->x1->x1->x1->x4->(x1->x1->x1->x1->x1->x4->B)->B)->B
 Af:x1->x1->x1->x1->x1->x1->x4->(x1->x1->x1->x1->x1->x1->x4->(x1->x1->x1->x1->x1->x1->x4->B)->B)->B
 Ag:x1->x4->(x1->x4->(Exit->x4->B)->B)->(x4->B)->(x4->B)->List (Nat×(x4->B))->B
 Ah:x1->x4->(x1->x1->x4->(Exit->x4->B)->B)->(x4->B)->(x4->B)->List (Nat×(x4->B))->B
 loadVar:{t:p9}->x1->S
 alloc:{t:p9}->S
 box:{t:p9}->x1->S
 build:{t:p9}->List (Nat×x1)->S
 buildSlice:{t:p9}->{n:Nat}->List (Nat×x1)->S
 load:{t:p9}->x1->S
 nil:x1->S
 bin:{op:BinOp}->{t:p9}->Bool->Bool->x1->x1->S
 un:{op:UnOp}->x1->S
 conv:{s d:p9}->x1->S
 Ai:{t:p9}->x1->S
 Aj:{f:Fn}->List x1->List x1->S
 Ak:{t:p9}->Option x1->S
 Al:{t:p9}->x1->x1->S
 slice:{t:p9}->x1->Option x1->Option x1->Option x1->S
 Am:{t:p9}->x1->{f:Nat}->S
 field:{t:p9}->x1->{f:Nat}->S
 An:{t:p9}->x1->x1->S
 index:{t:p9}->x1->x1->S
 lookup:{t:p9}->x1->x1->{ok:Bool}->S
 Ao:{t:p9}->x1->x1->S
 range:{t:p9}->x1->S
 entry:x1->S
 assert:{t a:p9}->x1->{ok:Bool}->S
 extract:x1->{i:Nat}->S
 next:x1->{b:Bool}->S
 append:{ats:Array p9}->{t:p9}->List x1->S
 cap:{ats:Array p9}->{t:p9}->List x1->S
 clear:{ats:Array p9}->{t:p9}->List x1->S
 copy:{ats:Array p9}->{t:p9}->List x1->S
 delete:{ats:Array p9}->{t:p9}->List x1->S
 len:{ats:Array p9}->{t:p9}->List x1->S
 max:{ats:Array p9}->{t:p9}->List x1->S
 min:{ats:Array p9}->{t:p9}->List x1->S
 store:{t:p9}->x1->x1->a1
 wo:{t:p9}->x1->x1->x1->a1
 Ap:{t:p9}->x1->x1->x1->a1
section
variable{B S a1:Type}(A:nV B S a1)
def eK.g:eK->x1
 | .v x=>x
 | .b c=>.bool c
 | .u=>A.mg (x:=undef)
def oQ(e:Env):R4->eK
 | .tmp t=>match look e t with
  |some x=>x
  |none=>.u
 | .const (.bool c)=>.b c
 | .const x=>.v (A.mg (x:=x))
 | .global g=>.v (A.mg (x:=Γ g))
 | .func f=>.v (A.mg (x:=.func (.func f) #[] #[]))
def c5(e:Env)(x:R4):x1:=(oQ A e x).g A
def oR(e:Env):List R4->List x1
 |[]=>[]
 |x::r=>c5 A e x::oR e r
def tq(e:Env):Option R4->Option x1
 |none=>ν
 |some x=>σ (c5 A e x)
def wp(e:Env):List (Nat×R4)->List (Nat×x1)
 |[]=>[]
 |(i,x)::r=>(i,c5 A e x)::wp e r
def HR(b:Y1)(ats:Array p9)(t:p9)(l:List x1)(K:S->B):B:=
 match b with
 | .append=>K (A.append (ats:=ats) (t:=t) l)
 | .cap=>K (A.cap (ats:=ats) (t:=t) l)
 | .clear=>K (A.clear (ats:=ats) (t:=t) l)
 | .copy=>K (A.copy (ats:=ats) (t:=t) l)
 | .delete=>K (A.delete (ats:=ats) (t:=t) l)
 | .len=>K (A.len (ats:=ats) (t:=t) l)
 | .max=>K (A.max (ats:=ats) (t:=t) l)
 | .min=>K (A.min (ats:=ats) (t:=t) l)
 |_=>A.no
def Aq(e:Env)(t:p9)(K:S->B)(j:a1->B):Op->B
 | .alloc t=>K (A.alloc (t:=t))
 | .box t x=>K (A.box (t:=t) (c5 A e x))
 | .build t p=>K (A.build (t:=t) (wp A e p.toList))
 | .buildSlice t n p=>K (A.buildSlice (t:=t) (n:=n) (wp A e p.toList))
 | .load t x=>K (A.load (t:=t) (c5 A e x))
 | .nilCheck x=>K (A.nil (c5 A e x))
 | .binOp op t x y _=>K (A.bin (op:=op) (t:=t) (pX x) (pX y) (c5 A e x) (c5 A e y))
 | .unOp op _ x=>K (A.un (op:=op) (c5 A e x))
 | .convert s d x=>K (A.conv (s:=s) (d:=d) (c5 A e x))
 | .makeInterface t x=>K (A.Ai (t:=t) (c5 A e x))
 | .makeFunc f a b=>K (A.Aj (f:=f) (oR A e a.toList) (oR A e b.toList))
 | .makeMap t r=>K (A.Ak (t:=t) (tq A e r))
 | .makeSlice t l c=>K (A.Al (t:=t) (c5 A e l) (c5 A e c))
 | .slice t x l h m=>K (A.slice (t:=t) (c5 A e x) (tq A e l) (tq A e h) (tq A e m))
 | .fieldAddr t x f=>K (A.Am (t:=t) (c5 A e x) (f:=f))
 | .field t x f=>K (A.field (t:=t) (c5 A e x) (f:=f))
 | .indexAddr t x i=>K (A.An (t:=t) (c5 A e x) (c5 A e i))
 | .index t x i=>K (A.index (t:=t) (c5 A e x) (c5 A e i))
 | .lookup t x i ok=>K (A.lookup (t:=t) (c5 A e x) (c5 A e i) (ok:=ok))
 | .mapEntry t m k=>K (A.Ao (t:=t) (c5 A e m) (c5 A e k))
 | .range t x=>K (A.range (t:=t) (c5 A e x))
 | .entry x=>K (A.entry (c5 A e x))
 | .typeAssert x t a ok=>K (A.assert (t:=t) (a:=a) (c5 A e x) (ok:=ok))
 | .extract x i=>K (A.extract (c5 A e x) (i:=i))
 | .call ⟨.builtin b,args,ats⟩=>HR A b ats t (oR A e args.toList) K
 | .store t a x=>j (A.store (t:=t) (c5 A e a) (c5 A e x))
 | .mapUpdate t m k x=>j (A.wo (t:=t) (c5 A e m) (c5 A e k) (c5 A e x))
 | .insert t m k x=>j (A.wo (t:=t) (c5 A e m) (c5 A e k) (c5 A e x))
 | .entryStore t m k x=>j (A.Ap (t:=t) (c5 A e m) (c5 A e k) (c5 A e x))
 |_=>A.no
def iG(e:Env)(d:Option Tmp)(x:eK):Env:=
 match d with
 |some t=>(t,x)::e
 |none=>e
def Ar(o:S2)(e:Env)(w:x4)(K:Env->(x4->B)->B):B:=
 match o with
 |⟨d,.move x,_,_,_,_⟩=>K (iG e d (oQ A e x)) (λ_=>A.mh)
 |⟨d,.assign x,_,_,_,_⟩=>K (iG e d (oQ A e x)) (λ_=>A.mh)
 |⟨d,.pick c a b,_,_,_,_⟩=>
  match oQ A e c with
  | .b ro=>K (iG e d (oQ A e a)) (λ_=>A.mh)
  | .b rs=>K (iG e d (oQ A e b)) (λ_=>A.mh)
  | .v x=>A.split x (K (iG e d (.v (c5 A e a))) (λ_=>A.mh)) (K (iG e d (.v (c5 A e b))) (λ_=>A.mh))
  | .u=>A.no
 |⟨d,op,t,_,_,_⟩=>Aq A e t (λs=>A.wn s w λv=>K (iG e d (.v v)) (A.stays s v)) (λ_=>A.no) op
def HS(fr:Bool)(n:Nat)(o:S2)(e:Env)(w:x4)(K:Env->x4->B):B:=
 match o with
 |⟨d,.call ⟨.value (.func f),args,_⟩,_,_,_,_⟩=>
  bif fr then A.zY (f:=f) (oR A e args.toList) w λv I=>K (iG e d (.v v)) I
  else A.zX (f:=f) (oR A e args.toList) w λv I=>K (iG e d (.v v)) I
 |⟨d,.call ⟨.value x,args,_⟩,_,_,_,_⟩=>A.zZ (fr:=fr) (c5 A e x) (oR A e args.toList) w λv I=>K (iG e d (.v v)) I
 |⟨d,.next x b,_,_,_,_⟩=>A.runN (fr:=fr) (n:=n) (A.next (c5 A e x) (b:=b)) w λv I=>K (iG e d (.v v)) I
 |⟨d,op,t,_,_,_⟩=>Aq A e t (λs=>A.zV s w λv I=>K (iG e d (.v v)) I) (λu=>A.zW u w λI=>K (iG e d (.v (A.mg (x:=undef)))) I) op
def As(fr:Bool)(n:Nat)(o:S2)(e:Env)(w:x4)(K:Env->x4->B):B:=
 bif kq o then Ar A o e w (λa _=>K a w)else HS A fr n o e w K
def wq(ops:List S2)(o:S2)(e:Env)(D N:Env->B):B:=
 match o.guard with
 |none=>D e
 |some (j,b)=>
  match p5 ops j with
  |some ⟨σ s,_,_,_,_,_⟩=>
   match look e s with
   |some (.b c)=>bif xor c b then N e else D e
   |some (.v x)=>A.split x (bif b then D ((s,.b ro)::e)else N ((s,.b ro)::e)) (bif b then N ((s,.b rs)::e)else D ((s,.b rs)::e))
   |some .u=>N e
   |none=>A.no
  |_=>A.no
def wr(fr:Bool)(n:Nat)(ops:List S2):List S2->Env->x4->(Env->x4->B)->B
 |[],e,w,K=>K e w
 |o::l,e,w,K=>wq A ops o e (λe=>As A fr n o e w λa I=>wr fr n ops l a I K) (λe=>wr fr n ops l (iG e o.dst .u) w K)
def Au:List Edge->Nat->Bool
 |[],_=>ro
 |e::r,a=>(bif zQ e then rj a e.on else ro)&&Au r a
def tr(a:Nat):Nat->List S2->List Nat
 |_,[]=>[]
 |i,o::l=>bif rj a i then tr a (Nat.succ i) l else bif Au o.after.toList a then i::tr a (Nat.succ i) l else tr a (Nat.succ i) l
def Av(ops:List S2):List Nat->Option Nat
 |[]=>ν
 |i::r=>match p5 ops i with
  |some o=>bif kq o then σ i else Av ops r
  |none=>ν
def Aw(p:Nat->B):List Nat->B
 |[]=>A.mh
 |[i]=>p i
 |i::r=>A.and (p i) (Aw p r)
def Ax(same:Bool)(q:Nat)(w:x4)(st:x4->B)(a:List (x4×List (Nat×(x4->B)))):List (x4×List (Nat×(x4->B))):=
 match same,a with
 |true,g::r=>(g.1,(q,st)::g.2)::r
 |_,a=>(w,[(q,st)])::a
def Ay(a:List Nat)(j:Nat):List (Nat×(x4->B))->Bool
 |[]=>rs
 |(i,_)::r=>wm a j i||Ay a j r
def ws(a:List Nat)(j:Nat)(I:x4):List (Nat×(x4->B))->B
 |[]=>A.mh
 |(i,p)::r=>bif wm a j i then A.and (p I) (ws a j I r)else ws a j I r
def ts(a:List Nat)(j:Nat)(I:x4)(C:B):List (x4×List (Nat×(x4->B)))->B
 |[]=>C
 |(w,l)::r=>bif Ay a j l then A.and (A.or (A.W w I) (ws A a j I l)) (ts a j I C r)else ts a j I C r
def oS(fr:Bool)(n:Nat)(ops:List S2)(a:List Nat):Nat->Nat->Bool->List (x4×List (Nat×(x4->B)))->Env->x4->(Env->x4->B)->B
 |0,_,_,_,e,w,K=>K e w
 |fuel+1,h,same,f,e,w,K=>
  match tr h 0 ops with
  |[]=>K e w
  |i::r=>
   match Av ops (i::r)with
   |some q=>
    match p5 ops q with
    |some o=>wq A ops o e
      (λe=>Ar A o e w λp st=>
       bif mY o then oS fr n ops a fuel (lJ h q) same f p w K
       else oS fr n ops a fuel (lJ h q) ro (Ax same q w st f) p w K)
      (λe=>bif mY o then oS fr n ops a fuel (lJ h q) same f (iG e o.dst .u) w K
       else oS fr n ops a fuel (lJ h q) ro (Ax same q w (λ_=>A.mh) f) (iG e o.dst .u) w K)
    |none=>A.no
   |none=>
    Aw A (λj=>match p5 ops j with
     |some o=>wq A ops o e (λe=>As A fr n o e w λp I=>ts A a j I (oS fr n ops a fuel (lJ h j) rs f p I K) f)
       (λe=>ts A a j w (oS fr n ops a fuel (lJ h j) rs f (iG e o.dst .u) w K) f)
     |none=>A.no) (i::r)
def tt(e:Env):List Nat->List x1
 |[]=>[]
 |t::r=>(match look e t with|some x=>x.g A|none=>A.mg (x:=undef))::tt e r
def wu(l:List Nat)(vs:List x1)(e:Env):Env:=
 match l,vs with
 |t::r,v::vs=>(t,.v v)::wu r vs e
 |_,_=>e
def tu(d:Nat):Env->Env
 |[]=>[]
 |(t,x)::r=>bif rj d t then tu d r else(t,x)::tu d r
def HT(l:List Nat)(ay:List x1->x4->B)(X:(List x1->x4->B)->B):B:=
 match l with
 |[]=>A.cW (λw=>ay [] w) λk=>X λ_ w=>k w
 |[_]=>A.aV (λa w=>ay [a] w) λk=>X λvs w=>match vs with
  |[a]=>k a w
  |_=>A.no
 |[_,_]=>A.jv (λa b w=>ay [a,b] w) λk=>X λvs w=>match vs with
  |[a,b]=>k a b w
  |_=>A.no
 |[_,_,_]=>A.z1 (λa b c w=>ay [a,b,c] w) λk=>X λvs w=>match vs with
  |[a,b,c]=>k a b c w
  |_=>A.no
 |[_,_,_,_]=>A.z6 (λa b c d w=>ay [a,b,c,d] w) λk=>X λvs w=>match vs with
  |[a,b,c,d]=>k a b c d w
  |_=>A.no
 |[_,_,_,_,_]=>A.z7 (λa b c d f w=>ay [a,b,c,d,f] w) λk=>X λvs w=>match vs with
  |[a,b,c,d,f]=>k a b c d f w
  |_=>A.no
 |_=>A.no
def HU(us:List x1)(w:x4)(X:List x1->x4->(List x1->x4->B)->B):B:=
 match us with
 |[]=>A.z8 w λw k=>X [] w λ_ w=>k w
 |[a]=>A.Aa a w λa w k=>X [a] w λvs w=>match vs with
  |[a]=>k a w
  |_=>A.no
 |[a,b]=>A.Ab a b w λa b w k=>X [a,b] w λvs w=>match vs with
  |[a,b]=>k a b w
  |_=>A.no
 |[a,b,c]=>A.Ac a b c w λa b c w k=>X [a,b,c] w λvs w=>match vs with
  |[a,b,c]=>k a b c w
  |_=>A.no
 |[a,b,c,d]=>A.Ad a b c d w λa b c d w k=>X [a,b,c,d] w λvs w=>match vs with
  |[a,b,c,d]=>k a b c d w
  |_=>A.no
 |[a,b,c,d,f]=>A.Ae a b c d f w λa b c d f w k=>X [a,b,c,d,f] w λvs w=>match vs with
  |[a,b,c,d,f]=>k a b c d f w
  |_=>A.no
 |[a,b,c,d,f,g]=>A.Af a b c d f g w λa b c d f g w k=>X [a,b,c,d,f,g] w λvs w=>match vs with
  |[a,b,c,d,f,g]=>k a b c d f g w
  |_=>A.no
 |_=>A.no
def wv(K:Nat->x4->B):List Nat->List (Nat×(x4->B))
 |[]=>[]
 |i::r=>(i,λw=>K i w)::wv K r
def jh(fr:Bool)(n:Nat):Code->Nat->Env->x4->(Exit->Env->x4->B)->B
 | .skip,_,e,w,K=>K .normal e w
 | .label _,_,e,w,K=>K .normal e w
 | .ret,_,e,w,K=>K .ret e w
 | .exit i,_,e,w,K=>K (.exit i) e w
 | .region _ ops C,_,e,w,K=>
  bif C then A.drew w λI=>oS A fr n ops.toList (wk ops.toList []) (ops.toList.length) 0 rs [] e I (K .normal)
  else wr A fr n ops.toList ops.toList e w (K .normal)
 | .seq x y,rd,e,w,K=>
  bif Nat.ble 2 (na x)then
   HT A (nU 1000 0 (Nat.land (ju x) (Nat.lor (gC y) rd))) (λvs I=>jh fr n y rd (wu (nU 1000 0 (Nat.land (ju x) (Nat.lor (gC y) rd))) vs (tu (ju x) e)) I K)
    λay=>jh fr n x (Nat.lor (gC y) rd) e w λex h I=>match ex with
     | .normal=>ay (tt A h (nU 1000 0 (Nat.land (ju x) (Nat.lor (gC y) rd)))) I
     |ex=>K ex h I
  else jh fr n x (Nat.lor (gC y) rd) e w λex h I=>match ex with
   | .normal=>jh fr n y rd h I K
   |ex=>K ex h I
 | .cond c x y,rd,e,w,K=>
  match oQ A e c with
  | .b ro=>jh fr n x rd e w K
  | .b rs=>jh fr n y rd e w K
  | .v v=>A.split v (jh fr n x rd e w K) (jh fr n y rd e w K)
  | .u=>A.no
 | .block id c,rd,e,w,K=>jh fr n c rd e w λex h I=>match ex with
  | .exit i=>bif S6 i id then K .normal h I else K (.exit i) h I
  |ex=>K ex h I
 | .loop c,rd,e,w,K=>
  HU A (tt A e (rk e (nU 1000 0 (Nat.land (ju c) (Nat.lor (gC c) rd))))) w λus I k=>
   jh fr n c (Nat.lor (gC c) rd) (wu (rk e (nU 1000 0 (Nat.land (ju c) (Nat.lor (gC c) rd)))) us (tu (ju c) e)) I λex h j=>match ex with
    | .normal=>k (tt A h (rk e (nU 1000 0 (Nat.land (ju c) (Nat.lor (gC c) rd))))) j
    |ex=>K ex h j
 | .scope c,rd,e,w,K=>jh fr n c rd e w K
 | .rangeFunc f E z body,_,e,w,K=>
  match E.toList with
  |[p]=>A.Ag (c5 A e f) w
    (λa I k=>jh fr n z (gC body) ((p,.v a)::e) I λex h j=>match ex with
     | .normal=>A.over (n:=w.heap.size) j λr=>jh fr n body 0 h r λex _ s=>k ex s
     |_=>A.no)
    (λI=>K .normal e I) (bif kt body then λI=>K .ret e I else λ_=>A.no) (wv (λi I=>K (.exit i) e I) (kW body))
  |[p,q]=>A.Ah (c5 A e f) w
    (λa b I k=>jh fr n z (gC body) ((q,.v b)::(p,.v a)::e) I λex h j=>match ex with
     | .normal=>A.over (n:=w.heap.size) j λr=>jh fr n body 0 h r λex _ s=>k ex s
     |_=>A.no)
    (λI=>K .normal e I) (bif kt body then λI=>K .ret e I else λ_=>A.no) (wv (λi I=>K (.exit i) e I) (kW body))
  |_=>A.no
 | .goto _,_,_,_,_=>A.no
 | .refuse _,_,_,_,_=>A.no
def Az:Nat->List x1->Env
 |_,[]=>[]
 |i,v::r=>(i,.v (A.mg (x:=v)))::Az (i+1) r
def tv(e:Env)(w:x4):List ResultVar->(List x1->B)->B
 |[],K=>K []
 | .tmp t::r,K=>tv e w r λvs=>K ((match look e t with|some x=>x.g A|none=>A.mg (x:=undef))::vs)
 | .cell a t::r,K=>A.wn (A.loadVar (t:=t) (match look e a with|some x=>x.g A|none=>A.mg (x:=undef))) w λv=>tv e w r λvs=>K (v::vs)
def tw(vs:List x1)(K:x1->B):B:=
 match vs with
 |[v]=>K v
 |vs=>K (A.tup vs)
def wx:List ResultVar->Nat->Nat
 |[],s=>s
 | .tmp t::r,s=>wx r (lJ s t)
 | .cell a _::r,s=>wx r (lJ s a)
def HV(a:List ResultVar)(marks:Bool)(n:Nat)(Q:x1->x4->B):Exit->Env->x4->B
 | .normal,e,w=>tv A e w a λvs=>bif marks then A.again (n:=n) w λI=>tw A vs λv=>Q v I else tw A vs λv=>Q v w
 | .ret,e,w=>tv A e w a λvs=>bif marks then A.again (n:=n) w λI=>tw A vs λv=>Q v I else tw A vs λv=>Q v w
 |_,_,_=>A.no
def wy(fr marks:Bool)(fn:Func)(c:Code)(args:List x1)(w:x4)(Q:x1->x4->B):B:=
 jh A fr n c (wx fn.results.toList 0) (Az A 0 args) w (HV A fn.results.toList marks n Q)
end
def p6(P:V5):nV Prop (Sem x1) (Sem Unit) where
 mg {x}:=x
 tup l:=.tuple l.toArray
 no:=False
 mh:=True
 and:=And
 or:=Or
 W:=Ext
 stays:=cE P
 split:=Split
 wn:=ab P
 zV:=aH P
 zW u w K:=aH P u w λ_ I=>K I
 runN {fr n}:=sZ P (fr,n)
 zX {f}:=al P f
 zY {f}:=gS P f
 zZ {fr}:=s5 P fr
 drew:=eH
 again {n}:=wa n
 over {n}:=Over n
 cW:=cv
 aV:=cv
 jv:=cv
 z1:=cv
 z6:=cv
 z7:=cv
 z8:=Hz
 Aa:=bZ
 Ab:=cb
 Ac:=lG
 Ad:=ra
 Ae:=rb
 Af:=HA
 Ag:=kX P
 Ah:=nR P
 loadVar {t} x:=do loadVar t (<-asAddr x)
 alloc {t}:=P7 t ro (.tuple #[])
 box {t} x:=Instr.box t x
 build {t} l:=Instr.build t l.toArray
 buildSlice {t n} l:=X2 t n l.toArray
 load {t} x:=u5 t x
 nil x:=bR x
 bin {op t} a b x y:=aN op t a b x y
 un {op} x:=Op.unary op x
 conv {s d} x:=convert s d x
 Ai {t} x:=Instr.makeInterface t x
 Aj {f} a b:=Instr.makeFunc f a.toArray b.toArray
 Ak {t} x:=Instr.makeMap t x
 Al {t} l c:=Instr.makeSlice t l c
 slice {t} x l h m:=U5 t x l h m
 Am {t} x {f}:=u7 t x f
 field {t} x {f}:=Instr.field t x f
 An {t} x i:=Z0 t x i
 index {t} x i:=Instr.index t x i
 lookup {t} x i {ok}:=Instr.lookup t x i ok
 Ao {t} m k:=Instr.mapEntry t m k
 range {t} x:=Instr.range t x
 entry x:=Instr.entry x
 assert {t a} x {ok}:=Instr.typeAssert x t a ok
 extract x {i}:=Y8 x i
 next x {b}:=Instr.next x b 0
 append {ats t} l:=Y0 ats t l.toArray
 cap {ats t} l:=Y1.cap_ ats t l.toArray
 clear {ats t} l:=Y1.clear_ ats t l.toArray
 copy {ats t} l:=Y1.copy_ ats t l.toArray
 delete {ats t} l:=Y1.delete_ ats t l.toArray
 len {ats t} l:=V7 ats t l.toArray
 max {ats t} l:=Y1.max_ ats t l.toArray
 min {ats t} l:=Y1.min_ ats t l.toArray
 store {t} a x:=n9 t a x
 wo {t} m k x:=Instr.mapUpdate t m k x
 Ap {t} m k x:=Instr.entryStore t m k x
end Go.Vc
namespace Go.Proofs.YtnhkbjhpbbobaaaGreatDoor
open Go Go.Vc Go.RowKit Go.Proofs Go.Proofs.Tryz
set_option maxRecDepth 100000
theorem mixed:x8.follows .mixedOrders=ro:=Ψ
def AA:Nat:=5
def HW:Nat:=6
def HX:Nat:=7
def wz:Nat:=10
def HY:Nat:=12
def HZ:Nat:=13
def H0:Nat:=15
def H2:Nat:=18
def wA:Nat:=19
def wB:Nat:=20
def AB:Nat:=21
def AC:Nat:=22
def wC:Nat:=23
def H3:Nat:=24
def H4:Nat:=25
def AD:Nat:=26
def wD:Nat:=27
def AE:Nat:=29
def H5:Nat:=30
def H6:Nat:=31
def H7:Nat:=34
def H8:Nat:=35
def AF:Nat:=36
def H9:Nat:=37
def AG:Nat:=38
def Ia:Nat:=42
def Ib:Nat:=43
def UL:Nat:=44
def UM:Nat:=45
def Ic:Nat:=46
def Ie:Nat:=47
def If:Nat:=48
def Ig:Nat:=49
def Ih:Nat:=50
def Ii:Nat:=51
def Ij:Nat:=52
def AH:Nat:=53
def Ik:Nat:=54
def Il:Nat:=55
def Im:Nat:=56
def In:Nat:=57
def Io:Nat:=58
def Ip:Nat:=59
def Iq:Nat:=60
def Ir:Nat:=61
def AI:Nat:=62
def Is:Nat:=63
def It:Nat:=64
def Iu:Nat:=65
def Iv:Nat:=66
def Iw:Nat:=67
def Ix:Nat:=68
def Iy:Nat:=69
def Iz:Nat:=70
def IA:Nat:=71
def IB:Nat:=72
def UN:Nat:=73
def wE:Nat:=74
def IC:Nat:=75
def ID:Nat:=76
def IE:Nat:=77
def IF:Nat:=78
def IG:Nat:=79
def IH:Nat:=80
def II:Nat:=81
def jX:Nat:=82
def IJ:Nat:=83
def IK:Nat:=84
def IL:Nat:=85
def IM:Nat:=86
def IN:Nat:=87
def AJ:Nat:=88
def IP:Nat:=90
def IQ:Nat:=93
def IR:Nat:=94
def mi:Nat:=95
def IS:Nat:=96
def IT:Nat:=97
def IU:Nat:=98
def IV:Nat:=99
def AK:Nat:=100
def IW:Nat:=101
def IX:Nat:=102
def tx:Nat:=103
def IY:Nat:=104
def IZ:Nat:=105
def I0:Nat:=106
def I1:Nat:=107
def UO:Nat:=108
def AL:Nat:=109
def AM:Nat:=110
def rl:Nat:=111
def oT:Nat:=112
def mj:Nat:=113
def AN:Nat:=114
def wF:Nat:=115
def oU:Nat:=116
def AO:Nat:=117
def wG:Nat:=118
def I2:Nat:=119
def I3:Nat:=120
def tz:Nat:=121
def nc:Nat:=122
def AP:Nat:=123
def oV:Nat:=124
def I4:Nat:=125
def I5:Nat:=126
def I6:Nat:=127
def I7:Nat:=128
def AQ:Nat:=129
def I8:Nat:=130
def I9:Nat:=131
def AR:Nat:=132
def AS:Nat:=133
def Ja:Nat:=134
def Jb:Nat:=135
def Jc:Nat:=136
def Jd:Nat:=137
def Je:Nat:=138
def wH:Nat:=139
def Jf:Nat:=140
def Jg:Nat:=141
def Jh:Nat:=142
def Ji:Nat:=143
def Jj:Nat:=144
def Jk:Nat:=145
def Jl:Nat:=146
def Jm:Nat:=147
def Jn:Nat:=148
def oW:Nat:=149
def oX:Nat:=150
def Jo:Nat:=151
def Jp:Nat:=152
def Jq:Nat:=153
def Jr:Nat:=154
def Js:Nat:=155
def Jt:Nat:=156
def Ju:Nat:=157
def Jv:Nat:=158
def Jw:Nat:=160
def Jx:Nat:=161
def Jy:Nat:=162
def Jz:Nat:=163
def JA:Nat:=164
def JB:Nat:=165
def JC:Nat:=166
def AT:Nat:=167
def JD:Nat:=168
def p7:Nat:=169
def JE:Nat:=170
def JF:Nat:=171
def AU:Nat:=172
def JG:Nat:=173
def JH:Nat:=174
def JI:Nat:=175
def JJ:Nat:=176
def JK:Nat:=177
def qa:Nat:=178
def JL:Nat:=179
def JM:Nat:=180
def tA:Nat:=181
def JN:Nat:=182
def JO:Nat:=183
def AV:Nat:=184
def AW:Nat:=185
def AX:Nat:=186
def JP:Nat:=187
def rm:Nat:=188
def JQ:Nat:=189
def wI:Nat:=190
def JR:Nat:=191
def JS:Nat:=192
def AY:Nat:=193
def JT:Nat:=194
def JU:Nat:=195
def JV:Nat:=196
def JW:Nat:=197
def JX:Nat:=198
def JY:Nat:=199
def JZ:Nat:=200
def AZ:Nat:=201
def J0:Nat:=202
def J1:Nat:=203
def J2:Nat:=204
def J3:Nat:=205
def J4:Nat:=206
def A0:Nat:=207
def J5:Nat:=208
def J6:Nat:=209
def J7:Nat:=210
def J8:Nat:=211
def J9:Nat:=212
def A1:Nat:=213
def Ka:Nat:=214
def A2:Nat:=215
def Kb:Nat:=216
def Kc:Nat:=217
def Kd:Nat:=218
def Ke:Nat:=219
def A3:Nat:=220
def Kf:Nat:=221
def Kg:Nat:=222
def wJ:Nat:=223
def tB:Nat:=224
def wK:Nat:=225
def Kh:Nat:=226
def wL:Nat:=227
def Ki:Nat:=228
def Kj:Nat:=229
def Kk:Nat:=230
def wM:Nat:=231
def Kl:Nat:=232
def Km:Nat:=233
def A4:Nat:=234
def A5:Nat:=235
def A6:Nat:=236
def Kn:Nat:=237
def Ko:Nat:=238
def Kp:Nat:=239
def Kq:Nat:=240
def Kr:Nat:=241
def Ks:Nat:=242
def Kt:Nat:=243
def UP:Nat:=244
def Ku:Nat:=246
def cmp_isNaN_int:Nat:=247
def A7:Nat:=248
def wN:Nat:=249
def tC:Nat:=250
def Kv:Nat:=251
def Kw:Nat:=252
def A8:Nat:=253
def Kx:Nat:=254
def Ky:Nat:=255
def Kz:Nat:=256
def KA:Nat:=257
def KB:Nat:=258
def KC:Nat:=259
def KD:Nat:=260
def nd:Nat:=261
def oY:Nat:=262
def Ba:Nat:=263
def KE:Nat:=264
def UQ:Nat:=265
def KF:Nat:=266
def UR:Nat:=267
def KG:Nat:=268
def KH:Nat:=269
def qb:Nat:=270
def KI:Nat:=271
def KJ:Nat:=272
def KK:Nat:=273
def KL:Nat:=283
def KM:Nat:=284
def tD:Nat:=285
def KN:Nat:=286
def KO:Nat:=287
def KP:Nat:=288
def KQ:Nat:=289
def nf:Nat:=290
def KR:Nat:=291
def KS:Nat:=292
def KT:Nat:=293
def US:Nat:=294
def UT:Nat:=301
def KU:Nat:=302
def KV:Nat:=303
def KW:Nat:=305
def KX:Nat:=306
def KY:Nat:=307
def UU:Nat:=308
def KZ:Nat:=309
def UV:Nat:=310
def UW:Nat:=311
def UX:Nat:=312
def UY:Nat:=313
def UZ:Nat:=314
def cmp_Less_int:Nat:=315
def U0:Nat:=316
def Va:Nat:=317
def Vb:Nat:=327
def Vd:Nat:=328
abbrev K0:Nat:=0
abbrev au:Nat:=2
abbrev aj:Nat:=3
abbrev ed:Nat:=4
abbrev cK:Nat:=5
abbrev c6:Nat:=9
abbrev cQ:Nat:=22
abbrev oZ:Nat:=23
abbrev dx:Nat:=25
abbrev aq:Nat:=26
abbrev dn:Nat:=27
abbrev kY:Nat:=28
abbrev ev:Nat:=29
abbrev fm:Nat:=30
abbrev a6:Nat:=33
abbrev kZ:Nat:=38
abbrev nW:Nat:=47
abbrev ax:Nat:=51
abbrev fz:Nat:=58
abbrev b3:Nat:=60
abbrev c7:Nat:=63
abbrev a8:Nat:=70
abbrev ew:Nat:=72
abbrev nX:Nat:=82
abbrev ml:Nat:=83
abbrev fa:Nat:=84
abbrev b9:Nat:=86
abbrev Ve:Nat:=87
abbrev gD:Nat:=89
abbrev Bb:Nat:=92
abbrev qc:Nat:=94
abbrev bD:Nat:=96
abbrev dU:Nat:=98
abbrev rn:Nat:=103
abbrev wO:Nat:=109
abbrev wP:Nat:=112
abbrev cX:Nat:=119
abbrev dV:Nat:=121
abbrev ej:Nat:=137
abbrev gV:Nat:=138
abbrev iH:Nat:=139
abbrev jY:Nat:=140
abbrev c8:Nat:=142
abbrev dW:Nat:=153
abbrev gE:Nat:=164
abbrev tE:Nat:=166
abbrev fb:Nat:=169
abbrev iI:Nat:=170
abbrev cB:Nat:=172
abbrev kv:Nat:=177
abbrev jZ:Nat:=178
abbrev ci:Nat:=180
abbrev dP:Nat:=186
abbrev cF:Nat:=188
abbrev e1:Nat:=189
abbrev cJ:Nat:=191
abbrev fA:Nat:=193
abbrev dC:Nat:=197
abbrev bG:Nat:=199
abbrev ek:Nat:=201
abbrev cw:Nat:=203
abbrev en:Nat:=207
abbrev be:Nat:=209
abbrev mm:Nat:=214
abbrev gg:Nat:=216
abbrev fc:Nat:=217
abbrev iJ:Nat:=221
abbrev qd:Nat:=228
abbrev Vf:Nat:=239
abbrev rp:Nat:=241
abbrev eI:Nat:=249
abbrev da:Nat:=251
abbrev cr:Nat:=253
abbrev ji:Nat:=258
abbrev k0:Nat:=264
abbrev ey:Nat:=269
abbrev cj:Nat:=273
abbrev gF:Nat:=275
abbrev cY:Nat:=280
abbrev j1:Nat:=293
abbrev fO:Nat:=295
abbrev qe:Nat:=296
abbrev gG:Nat:=299
abbrev cZ:Nat:=302
abbrev wQ:Nat:=318
abbrev ir:Nat:=321
abbrev gh:Nat:=324
abbrev cG:Nat:=326
abbrev mn:Nat:=349
abbrev k1:Nat:=351
abbrev Vg:Nat:=364
abbrev qf:Nat:=371
abbrev ng:Nat:=372
abbrev nY:Nat:=394
abbrev wR:Nat:=413
theorem aB{f:Q9}{fn:Func}{c:Code}{Q:x1->x4->Prop}{Z:{B S a1:Type}->nV B S a1->(x1->x4->B)->B}{X:Prop}(a:x8.funcs[f]?=σ fn)(h:X)(j:fn.body=σ c:=by rfl)(_:∀{B S a1:Type}(A:nV B S a1)(Q:x1->x4->B),wy A rs rs (n:=w.heap.size) fn c args w Q=Z A Q:=by intros;conv=>lhs;reduce)(_:Z (p6 x8) Q=X:=by dsimp only[p6])(e:X=eM x8 fn.ntmps (rs,w.heap.size) c (nT fn.results.toList) (mf 0 args) w (m9 x8 fn.results.toList rs 0 Q):=by kernel_rfl)(hk:(!(fn.name == "runtime.NumGoroutine")&&wf fn.ntmps c&&Nat.ble args.length fn.ntmps&& !lF c)=ro:=by kernel_rfl):al x8 f args w Q:=by
 simp only[T1,Bool.not_eq_true']at hk;exact al.HP mixed a j hk.1.1.1 hk.1.1.2 hk.1.2 hk.2 (e▸h)
theorem iK{f:Q9}{fn:Func}{c:Code}{Q:x1->x4->Prop}{Z:{B S a1:Type}->nV B S a1->(x1->x4->B)->B}{X:Prop}(a:x8.funcs[f]?=σ fn)(h:X)(j:fn.body=σ c:=by rfl)(_:∀{B S a1:Type}(A:nV B S a1)(Q:x1->x4->B),wy A rs ro (n:=w.heap.size) fn c args w Q=Z A Q:=by intros;conv=>lhs;reduce)(_:Z (p6 x8) Q=X:=by dsimp only[p6])(e:X=eM x8 fn.ntmps (rs,w.heap.size) c (nT fn.results.toList) (mf 0 args) w (m9 x8 fn.results.toList ro w.heap.size Q):=by kernel_rfl)(hk:(!(fn.name == "runtime.NumGoroutine")&&wf fn.ntmps c&&Nat.ble args.length fn.ntmps)=ro:=by kernel_rfl):al x8 f args w Q:=by
 simp only[T1,Bool.not_eq_true']at hk;exact al.enter mixed a j hk.1.1 hk.1.2 hk.2 (e▸h)
theorem qg{f:Q9}{fn:Func}{c:Code}{Q:x1->x4->Prop}{Z:{B S a1:Type}->nV B S a1->(x1->x4->B)->B}{X:Prop}(a:x8.funcs[f]?=σ fn)(h:X)(j:fn.body=σ c:=by rfl)(_:∀{B S a1:Type}(A:nV B S a1)(Q:x1->x4->B),wy A ro rs (n:=0) fn c args w Q=Z A Q:=by intros;conv=>lhs;reduce)(_:Z (p6 x8) Q=X:=by dsimp only[p6])(e:X=eM x8 fn.ntmps (ro,0) c (nT fn.results.toList) (mf 0 args) w (m9 x8 fn.results.toList rs 0 Q):=by kernel_rfl)(hk:(!(fn.name == "runtime.NumGoroutine")&&wf fn.ntmps c&&Nat.ble args.length fn.ntmps)=ro:=by kernel_rfl):gS x8 f args w Q:=by
 simp only[T1,Bool.not_eq_true']at hk;exact gS.enter mixed a j hk.1.1 hk.1.2 hk.2 (e▸h)
theorem jX.enters:Enters x8 jX:=Enters.of x8 (show x8.funcs[jX]?=σ Tryz.f82 from Tryz.func82) rfl Ψ
theorem mi.enters:Enters x8 mi:=Enters.of x8 (show x8.funcs[mi]?=σ Tryz.f95 from Tryz.func95) rfl Ψ
theorem p7.enters:Enters x8 p7:=Enters.of x8 (show x8.funcs[p7]?=σ Tryz.f169 from Tryz.func169) rfl Ψ
theorem nd.enters:Enters x8 nd:=Enters.of x8 (show x8.funcs[nd]?=σ Tryz.f261 from Tryz.func261) rfl Ψ
theorem qb.enters:Enters x8 qb:=Enters.of x8 (show x8.funcs[qb]?=σ Tryz.f270 from Tryz.func270) rfl Ψ
theorem nf.enters:Enters x8 nf:=Enters.of x8 (show x8.funcs[nf]?=σ Tryz.f290 from Tryz.func290) rfl Ψ
end Go.Proofs.YtnhkbjhpbbobaaaGreatDoor
namespace Go.Vc
open Go Go.RowKit
theorem wS{b o:Nat}(h:w.cell? ⟨b,o,ν⟩=σ v):∃c e f,w.heap[b]?=σ (.cells c e f)/\c[o]?=σ v:=by
 simp only[x4.cell?]at h;split at h
 .rename_i c e f a;exact⟨c,e,f,a,by simpa using h⟩
 .cases h
theorem Bc(a:af S w I){b o:Nat}(j:¬S b)(h:w.cell? ⟨b,o,ν⟩=σ v):I.cell? ⟨b,o,ν⟩=σ v:=by
 obtain⟨c,e,f,p,q⟩:=wS h;simp[x4.cell?,a.aZ b _ p rfl j,q]
theorem j2(a:Ext w I){b o:Nat}(h:w.cell? ⟨b,o,ν⟩=σ v):I.cell? ⟨b,o,ν⟩=σ v:=
 Bc (a.V λ_=>False) (λh=>h) h
theorem o0(a:Ext w I){b o:Nat}(h:w.rangeAt b o cs):I.rangeAt b o cs:=λj v e=>j2 a (h j v e)
theorem iu(a:af S w I){b o:Nat}(e:¬S b)(h:w.rangeAt b o cs):I.rangeAt b o cs:=λj v f=>Bc a e (h j v f)
def ag(w:x4)(g:Nat)(e:p9)(cs:List x1):Prop:=w.heap[g]?=σ (.cells cs.toArray e (0,0))
theorem ag.W{g:Nat}(h:ag w g e cs)(a:Ext w I):ag I g e cs:=a.aZ g _ h rfl
theorem ag.V{g:Nat}(h:ag w g e cs)(a:af S w I)(f:¬S g):ag I g e cs:=a.aZ g _ h rfl f
theorem ag.lt{g:Nat}(h:ag w g e cs):g<w.heap.size:=(j9.1 h).1
theorem ag.cell{g:Nat}(h:ag w g e cs){o:Nat}(a:cs[o]?=σ v):w.cell? ⟨g,o,ν⟩=σ v:=by
 unfold ag at h;simp[x4.cell?,h,a]
theorem ag.Qz{w:World}{g:Nat}{e:TypeId}{cs:List Value}{v:Value}(h:ag w g e cs)(I:cs[0]?=σ v):w.cell? ⟨g,0,ν⟩=σ v:=h.cell I
theorem ag.range{g:Nat}(h:ag w g e cs):w.rangeAt g 0 cs:=λj v a=>by rw[W0];exact h.cell a
theorem ag.frozen{g:Nat}(h:ag w g e cs)(o:Nat)(a:Option Nat):w.frozen? ⟨g,o,a⟩=rs:=by
 unfold ag at h;simp[x4.frozen?,h]
def cg(w:x4)(k:Nat)(v:x1)(n:Nat)(cs:List x1):Prop:=
 cs.length=n*k/\∃b o base cap,v= .slice base n cap/\n<=cap/\cap<=maxLen/\(0<n->base=σ ⟨b,o,ν⟩)/\w.rangeAt b o cs
theorem cg.W{k:Nat}(h:cg w k v n cs)(a:Ext w I):cg I k v n cs:=by
 obtain⟨h1,b,o,base,cap,e,f,j,p,q⟩:=h;exact⟨h1,b,o,base,cap,e,f,j,p,o0 a q⟩
theorem cg.le{k:Nat}(h:cg w k v n cs):n<=maxLen:=by
 obtain⟨_,_,_,_,_,_,a,e,_⟩:=h;exact Y9 a e
theorem cg.nil(w:x4)(k:Nat):cg w k (.slice ν 0 0) 0 []:=⟨Ξ,0,0,ν,0,rfl,p8 _,X7 _,λh=>m6 h (Nat.lt_irrefl _),λj v h=>by simp at h⟩
def aP(P:V5)(t:p9)(k b:Nat)(z:x1):Prop:=∃i,P.info? t=σ i/\i.size=k/\i.bytes=b/\i.zero=σ z
theorem aP.of{P:V5}{k b:Nat}(h:(P.info? t).map (λi=>(i.size,i.bytes,i.zero))=σ (k,b,σ z)):aP P t k b z:=by
 cases hi:P.info? t with
 |none=>simp[hi]at h
 |some i=>simp[hi]at h;exact⟨i,hi,h⟩
theorem aP.size{P:V5}{k b:Nat}(h:aP P t k b z):(P.info? t).map (·.size)=σ k:=by
 obtain⟨i,hi,J,_⟩:=h;simp[hi,J]
def bE(P:V5)(t:p9)(pl:List (Nat×Nat)):Prop:=∃a,P.underlying t=σ (.struct a)/\a.toList.map (λf=>(f.offset,((P.info? f.type).map (·.size)).getD 0))=pl
def Bd(P:V5)(t:p9):Option (List (Nat×Nat)):=match P.underlying t with
 |some (.struct a)=>σ (a.toList.map λf=>(f.offset,((P.info? f.type).map (·.size)).getD 0))
 |_=>ν
theorem bE.of{P:V5}{pl:List (Nat×Nat)}(h:Bd P t=σ pl):bE P t pl:=by
 unfold Bd at h;split at h
 .rename_i a hu;exact⟨a,hu,by simpa using h⟩
 .cases h
section
variable{P:V5}{w:x4}
theorem ab.of{s:Sem x1}(h:∀I,Ext w I->s.run P I= .ok v I):ab P s w K=K v:=by
 refine propext ⟨λ⟨a,aW,k⟩=>?_,λk=>⟨v,h,k⟩⟩;have:=aW w (Ext.refl w);rw[h w (Ext.refl w)]at this;cases this;exact k
theorem aH.of{α:Type}{s:Sem α}{v:α}{K:α->x4->Prop}(h:s.run P w= .ok v I)(a:cN w I)(k:K v I):aH P s w K:=⟨v,I,h,a,k⟩
theorem bY{c:Bool}{A B:Prop}:Split (.bool c) A B=((c=ro->A)/\(c=rs->B)):=by
 refine propext ⟨λ⟨e,h,h1,a⟩=>?_,λ⟨h1,a⟩=>⟨c,rfl,h1,a⟩⟩;cases h;exact⟨h1,a⟩
theorem _root_.ak{p:Prop}[Decidable p]{A B:Prop}:Split (.bool (decide p)) A B=((p->A)/\(¬p->B)):=by rw[bY];simp
theorem bH{A B:Prop}:Split (.bool ro) A B=A:=by rw[bY];simp
theorem aX{A B:Prop}:Split (.bool rs) A B=B:=by rw[bY];simp
theorem aO{b:Int}:ab P (aN .add t cx cy (.int k a) (.int k b)) w K=K (.int k (k.wrap (a+b))):=
 ab.of λI _=>by simp[aN,eqGuard,binOp,Op.intArith]
theorem dp{b:Int}:ab P (aN .sub t cx cy (.int k a) (.int k b)) w K=K (.int k (k.wrap (a-b))):=
 ab.of λI _=>by simp[aN,eqGuard,binOp,Op.intArith]
theorem gW{b:Int}:ab P (aN .mul t cx cy (.int k a) (.int k b)) w K=K (.int k (k.wrap (a*b))):=
 ab.of λI _=>by simp[aN,eqGuard,binOp,Op.intArith]
theorem o1{b:Int}(e:b≠0):ab P (aN .quo t cx cy (.int k a) (.int k b)) w K=K (.int k (k.wrap (a.tdiv b))):=
 ab.of λI _=>by simp[aN,eqGuard,binOp,Op.intDiv,e]
theorem tF{b:Int}(e:b≠0):ab P (aN .rem t cx cy (.int k a) (.int k b)) w K=K (.int k (a.tmod b)):=
 ab.of λI _=>by simp[aN,eqGuard,binOp,Op.intDiv,e]
theorem aR{b:Int}:ab P (aN .lss t cx cy (.int k a) (.int k b)) w K=K (.bool (decide (a<b))):=
 ab.of λI _=>by simp[aN,eqGuard,binOp,Op.intCmp]
theorem Υ{k:IntKind}{P:Program}{t:TypeId}{cx cy:Bool}{a b:Int}{w:World}{A B:Prop}(hA:a<b->A)(h:a<b:=by omega):ab P (aN .lss t cx cy (.int k a) (.int k b)) w λv=>Split v A B:=by
 rw[aR,ak];exact⟨hA,λe=>m6 h e⟩
theorem nh{b:Int}:ab P (aN .leq t cx cy (.int k a) (.int k b)) w K=K (.bool (decide (a<=b))):=
 ab.of λI _=>by simp[aN,eqGuard,binOp,Op.intCmp]
theorem bO{b:Int}:ab P (aN .gtr t cx cy (.int k a) (.int k b)) w K=K (.bool (decide (b<a))):=
 ab.of λI _=>by simp[aN,eqGuard,binOp,Op.intCmp]
theorem cH{b:Int}:ab P (aN .geq t cx cy (.int k a) (.int k b)) w K=K (.bool (decide (b<=a))):=
 ab.of λI _=>by simp[aN,eqGuard,binOp,Op.intCmp]
theorem bk{b:Int}:ab P (aN .eql t cx cy (.int k a) (.int k b)) w K=K (.bool (decide (a=b))):=
 ab.of λI _=>by
  have:(a == b)=decide (a=b):=by by_cases h:a=b<;>simp[h]
  simp[aN,eqGuard,binOp,Op.intCmp,this]
theorem bF{b:Int}:ab P (aN .neq t cx cy (.int k a) (.int k b)) w K=K (.bool (decide (a≠b))):=
 ab.of λI _=>by
  have:(a != b)=decide (a≠b):=by by_cases h:a=b<;>simp[h,bne]
  simp[aN,eqGuard,binOp,Op.intCmp,this]
theorem Be{e:o7}{b:Int}(f:0<=b):ab P (aN .shl t cx cy (.int k a) (.int e b)) w K=K (.int k (k.wrap (a*2 ^ min b.toNat k.bits))):=
 ab.of λI _=>by simp[aN,eqGuard,binOp,Op.shift,show¬b<0 by omega]
theorem bC{c:Bool}:ab P (Op.unary .not (.bool c)) w K=K (.bool !c):=ab.of λI _=>by simp[Op.unary]
theorem ni:ab P (Op.unary .neg (.int k a)) w K=K (.int k (k.wrap (0-a))):=ab.of λI _=>by simp[Op.unary,Op.intArith]
theorem fB{s d:p9}{e:o7}(J:P.underlying s=σ (.int e))(f:P.underlying d=σ (.int k)):
  ab P (convert s d (.int e a)) w K=K (.int k (k.wrap a)):=ab.of λI _=>by simp[convert,run_underlying J,run_underlying f,Conv.intToInt]
theorem Bf{x y:x1}{r:Bool}(a:∀I,(eqGuard .eql t (a7 cx) (a7 cy) x y).run P I= .ok () I)(e:binOp .eql t x y=(do pure (.bool (<-Op.equal t x y))))(h:∀I,Ext w I->(Op.equal t x y).run P I= .ok r I):ab P (aN .eql t cx cy x y) w K=K (.bool r):=ab.of λI f=>by
 unfold aN;rw[e,V1,a I,Result.andThen_ok,V1,h I f];rfl
theorem K1{x y:x1}{r:Bool}(a:∀I,(eqGuard .neq t (a7 cx) (a7 cy) x y).run P I= .ok () I)(e:binOp .neq t x y=(do pure (.bool (!(<-Op.equal t x y)))))(h:∀I,Ext w I->(Op.equal t x y).run P I= .ok r I):ab P (aN .neq t cx cy x y) w K=K (.bool !r):=ab.of λI f=>by
 unfold aN;rw[e,V1,a I,Result.andThen_ok,V1,h I f];rfl
theorem Bg(w:x4)(d:Nat){p:Option Addr}(h:P.underlying t=σ (.pointer e)):(Op.equalIn (d+1) t (.pointer p) (.pointer ν)).run P w= .ok p.isNone w:=by
 cases p<;>simp[Op.equalIn,run_underlying h]
theorem qh{base:Option Addr}(a:P.underlying t=σ (.slice e)):
  ab P (aN .eql t cx cy (.slice base n c) (.slice ν 0 0)) w K=K (.bool base.isNone):=Bf (λ_=>rfl) rfl λI _=>run_equal_slice_nil I t e base n c a
theorem cR{p:Option Addr}(a:P.underlying t=σ (.pointer e)):
  ab P (aN .eql t cx cy (.pointer p) (.pointer ν)) w K=K (.bool p.isNone):=Bf (λ_=>rfl) rfl λI _=>Bg I 9999 a
theorem wT{p:Option Addr}(a:P.underlying t=σ (.pointer e)):
  ab P (aN .neq t cx cy (.pointer p) (.pointer ν)) w K=K (.bool !p.isNone):=K1 (λ_=>rfl) rfl λI _=>Bg I 9999 a
theorem iL{a:p9}{base:Option Addr}(f:P.underlying t=σ (.slice e)):
  ab P (V7 #[t] a #[.slice base n c]) w K=K (Δ n):=ab.of λI _=>by simp[V7,run_underlying f,goInt]
theorem nj{e:Array p9}{f:p9}{b:Int}:
  ab P (Y1.min_ e f #[.int k a,.int k b]) w K=K (.int k (min a b)):=ab.of λI _=>by
 simp only[Y1.min_,List.foldlM,Y1.min2];simp only[V1,U1,Result.andThen_ok,Int.min_def];congr 2;split<;>split<;>omega
theorem tG{e:Array p9}{f:p9}{b:Int}:
  ab P (Y1.max_ e f #[.int k a,.int k b]) w K=K (.int k (max a b)):=ab.of λI _=>by
 simp only[Y1.max_,List.foldlM,Y1.max2];simp only[V1,U1,Result.andThen_ok,Int.max_def];congr 2;split<;>split<;>omega
theorem j3{vs:Array x1}{i:Nat}(h:vs[i]?=σ v):ab P (Y8 (.tuple vs) i) w K=K v:=ab.of λI _=>by simp[Y8,h]
theorem lK{f:Fn}{a b:Array x1}:ab P (Instr.makeFunc f a b) w K=K (.func f a b):=ab.of λ_ _=>rfl
def k2(P:V5)(t:p9):Bool:=match P.underlying t with
 |some (.struct _)|some (.array _ _)|none=>rs
 |_=>ro
theorem aD{b o:Nat}(a:k2 P t=ro)(h:w.cell? ⟨b,o,ν⟩=σ v):
  ab P (u5 t (.pointer (σ ⟨b,o,ν⟩))) w K=K v:=ab.of λI e=>by
 have aW:=j2 e h;unfold k2 at a;cases hu:P.underlying t with
 |none=>rw[hu]at a;cases a
 |some d=>
  rw[hu]at a;cases d<;>first|(cases a;done)|simp[u5,Instr.sureAddr,loadVar,isAgg,run_underlying hu,aW]
theorem Bh{d:TypeDesc}{b o k a:Nat}(hu:P.underlying t=σ d)(e:d.isRow=ro)(hi:aP P t k a z)(f:cs.length=k)(h:w.rangeAt b o cs):ab P (u5 t (.pointer (σ ⟨b,o,ν⟩))) w K=K (.agg cs.toArray):=ab.of λI j=>
 run_loadAt_mid I b o t cs d (o0 j h) hu e (by rw[hi.size,f])
theorem bA{pl:List (Nat×Nat)}{b o k a:Nat}(hu:bE P t pl)(hi:aP P t k a z)(e:cs.length=k)(h:w.rangeAt b o cs):ab P (u5 t (.pointer (σ ⟨b,o,ν⟩))) w K=K (.agg cs.toArray):=by
 obtain⟨f,hu,_⟩:=hu;exact Bh hu rfl hi e h
theorem aT{pl:List (Nat×Nat)}{i b o z:Nat}(ac:bE P t pl)(a:pl[i]?=σ (off,z+1)):
  ab P (u7 t (.pointer (σ ⟨b,o,ν⟩)) i) w K=K (.pointer (σ ⟨b,o+off,ν⟩)):=ab.of λI _=>by
 obtain⟨q,hu,rfl⟩:=ac;rw[v8]at a;cases e:q[i]? with
 |none=>rw[Q3,e]at a;cases a
 |some f=>
  rw[Q3,e]at a;simp only[Y3,X4,S7]at a;obtain⟨rfl,p⟩:=a;cases h:P.info? f.type with
  |none=>simp[h]at p
  |some j=>
   have J:j.size=z+1:=by simpa[h]using p
   simp[u7,run_underlying hu,e,Instr.sureAddr,fieldPlace,sizeOf,typeInfo,h,J,T8]
theorem Bi{i:Int}{b o z f:Nat}{h:x1}{base:Option Addr}(hu:P.underlying t=σ (.slice e))(p:aP P e z f h)(q:0<=i)(hi:i<n)(a:0<n->base=σ ⟨b,o,ν⟩):
  ab P (Z0 t (.slice base n c) (.int k i)) w K=K (.pointer (σ ⟨b,o+i.toNat*z,ν⟩)):=ab.of λI _=>by
 have a:=a Ω;subst a;obtain⟨j,r,J,_⟩:=p;simp[Z0,asIntOf,run_underlying hu,q,hi,sizeOf,typeInfo,r,J,T8]
theorem fd{i:Nat}{b o z a:Nat}{f:x1}{base:Option Addr}(hu:P.underlying t=σ (.slice e))(h:aP P e z a f)(hi:i<n)(j:0<n->base=σ ⟨b,o,ν⟩):
  ab P (Z0 t (.slice base n c) (.int k (i:Int))) w K=K (.pointer (σ ⟨b,o+i*z,ν⟩)):=by
 rw[Bi hu h Ω Ω j];rfl
theorem K2{i:Int}{b o z a:Nat}{f:x1}(hu:P.underlying t=σ (.array n e))(h:aP P e z a f)(p:0<=i)(hi:i<n):
  ab P (Z0 t (.pointer (σ ⟨b,o,ν⟩)) (.int k i)) w K=K (.pointer (σ ⟨b,o+i.toNat*z,ν⟩)):=ab.of λI _=>by
 obtain⟨j,q,J,_⟩:=h;simp[Z0,asIntOf,run_underlying hu,Instr.sureAddr,p,hi,sizeOf,typeInfo,q,J,T8]
theorem wU{i:Nat}{b o z a:Nat}{f:x1}(hu:P.underlying t=σ (.array n e))(h:aP P e z a f)(hi:i<n):
  ab P (Z0 t (.pointer (σ ⟨b,o,ν⟩)) (.int k (i:Int))) w K=K (.pointer (σ ⟨b,o+i*z,ν⟩)):=by
 rw[K2 hu h Ω Ω];rfl
def nk:Option x1->Nat->Prop
 |none,l=>l=0
 |some v,l=>∃k,v= .int k l
def nl:Option x1->Nat->Nat->Prop
 |none,n,h=>h=n
 |some v,_,h=>∃k,v= .int k h
def maxOf:Option x1->Option x1->Nat->Nat->Prop
 |none,_,c,m=>m=c
 |some v,σ _,_,m=>∃k,v= .int k m
 |some _,ν,_,_=>False
theorem o2{l:Nat}:nk (σ (.int k (l:Int))) l:=⟨_,rfl⟩
theorem o3(l:Nat)(x:Int)(h:x=(l:Int)):nk (σ (.int k x)) l:=⟨k,by rw[h]⟩
theorem pa(l:Nat)(x:Int)(h:x=(l:Int)):nl (σ (.int k x)) n l:=⟨k,by rw[h]⟩
theorem j7:nk ν 0:=rfl
theorem pb:nl (σ (.int k (h:Int))) n h:=⟨_,rfl⟩
theorem j8:nl ν n n:=rfl
theorem e2{h:Option x1}:maxOf ν h c c:=by cases h<;>rfl
theorem tH(w:x4){sl:Bool}{l m:Nat}{low high mx:Option x1}(h1:nk low l)(e:nl high n h)(a:maxOf mx high c m)(f:l<=h)(ao:h<=m)(hm:m<=c):
  (Instr.sliceBounds sl n c low high mx).run P w= .ok (l,h,m) w:=by
 cases low<;>cases high<;>cases mx<;>simp only[nk,nl,maxOf]at h1 e a<;>(try exact a.elim)<;>(try obtain⟨j,rfl⟩:=h1)<;>(try obtain⟨p,rfl⟩:=e)<;>(try obtain⟨q,rfl⟩:=a)<;>(try subst h1)<;>(try subst e)<;>(try subst a) <;>
  simp[Instr.sliceBounds,Instr.sliceBound,asIntOf,f,ao,hm]
theorem gH{z a l m:Nat}{f:x1}{base:Option Addr}{low high mx:Option x1}(hu:P.underlying t=σ (.slice e))(p:aP P e z a f)(h1:nk low l)(q:nl high n h)(r:maxOf mx high c m)(s:l<=h)(ao:h<=m)(hm:m<=c):
  ab P (U5 t (.slice base n c) low high mx) w K=K (.slice (if m=l then base else base.map (·.add (l*z))) (h-l) (m-l)):=ab.of λI _=>by
 obtain⟨j,x,J,_⟩:=p;simp[U5,Instr.slice,run_underlying hu,tH I h1 q r s ao hm,sizeOf,typeInfo,x,J]
theorem tI{z a l m b o:Nat}{f:x1}{low high mx:Option x1}(hu:P.underlying t=σ (.array n e))(p:aP P e z a f)(h1:nk low l)(q:nl high n h)(r:maxOf mx high n m)(s:l<=h)(ao:h<=m)(hm:m<=n):
  ab P (U5 t (.pointer (σ ⟨b,o,ν⟩)) low high mx) w K=K (.slice (σ (if m=l then⟨b,o,ν⟩else⟨b,o+l*z,ν⟩)) (h-l) (m-l)):=ab.of λI _=>by
 obtain⟨j,x,J,_⟩:=p;simp[U5,Instr.sureAddr,run_underlying hu,tH I h1 q r s ao hm,sizeOf,typeInfo,x,J,T8]
theorem di{parts:Array (Nat×x1)}{cs:Array x1}(h:P.built t parts.toList=σ cs):ab P (Instr.build t parts) w K=K (.agg cs):=ab.of λI _=>
 run_build I t parts cs h
end
theorem cg.part{k l m:Nat}{base:Option Addr}(J:cg w k (.slice base n c) n cs)(q:l<=h)(ao:h<=n)(hm:h<=m)(r:m<=c):
  cg w k (.slice (if m=l then base else base.map (·.add (l*k))) (h-l) (m-l)) (h-l) ((cs.drop (l*k)).take ((h-l)*k)):=by
 obtain⟨h1,b,o,s,cap,he,x,y,e,f⟩:=J;cases he;have z:h*k<=n*k:=Y5 _ ao;have A:l*k+(h-l)*k=h*k:=by rw[<-U7];congr 1;omega
 refine⟨by simp[h1];omega,b,o+l*k,_,m-l,rfl,Ω,Ω,λB=>?_,λj v a=>?_⟩
 .rw[e Ω,m5 Ω];simp[T8]
 .have p:=(x5.1 a).1;simp at p;rw[Y7 Ω,List.getElem?_drop]at a;rw[R5];exact f _ _ a
section
variable{P:V5}{w:x4}
structure kw(g:Nat)(w I:x4):Prop where
 os:I.os=w.os
 tape:kT w I
 output:I.output=w.output
 size:I.heap.size=w.heap.size
 aZ:∀r,r≠g->I.heap[r]?=w.heap[r]?
theorem kw.refl(g:Nat)(w:x4):kw g w w:=⟨rfl,.lC,rfl,rfl,λ_ _=>rfl⟩
theorem kw.F{g:Nat}{a b c:x4}(h:kw g a b)(k:kw g b c):kw g a c:=
 ⟨k.os.F h.os,k.tape.F h.tape,k.output.F h.output,k.size.F h.size,λr e=>(k.aZ r e).F (h.aZ r e)⟩
theorem kw.V{g:Nat}{w:x4}(h:kw g w I):af (λr=>r=g) w I:=⟨Nat.le_of_eq h.size.symm,λr o a _ e=>by rw[h.aZ r e];exact a⟩
theorem kw.cu{g:Nat}{w:x4}(h:kw g w I)(f:ag w g e cs):cN w I:=
 ⟨h.os,h.tape,h.output,Nat.le_of_eq h.size.symm,λr o a J=>by
  by_cases j:r=g
  .subst j;unfold ag at f;rw[f]at a;cases a;simp[fL]at J
  .rw[h.aZ r j];exact a⟩
theorem Bj{g:Nat}(h:ag w g e cs)(o:Nat)(v:x1):ag (w.setCell ⟨g,o,ν⟩ v) g e (cs.set o v)/\kw g w (w.setCell ⟨g,o,ν⟩ v):=by
 unfold ag at h;refine⟨?_,rfl,.lC,rfl,by simp[x4.setCell],λr a=>?_⟩
 .simp[ag,x4.setCell,Array.getElem?_modify,h]
 .simp[x4.setCell,Array.getElem?_modify,Ne.symm a]
def over(cs:List x1):Nat->List x1->List x1
 |_,[]=>cs
 |o,v::r=>over (cs.set o v) (o+1) r
theorem nn:∀(vs cs:List x1)(o:Nat),(over cs o vs).length=cs.length
 |[],_,_=>rfl
 |v::r,cs,o=>by simp[over,nn r]
theorem pc:∀(vs cs:List x1)(o:Nat),o+vs.length<=cs.length->∀j,(over cs o vs)[j]?=if o<=j/\j<o+vs.length then vs[j-o]? else cs[j]?
 |[],cs,o,_,j=>by simp[over];intro h1 a;omega
 |v::r,cs,o,h,j=>by
  simp only[Z4]at h;rw[over,pc r (cs.set o v) (o+1) Θ j];simp only[Z4];by_cases h1:o+1<=j/\j<o+1+r.length
  .rw[m3 h1,m3 Ω];rw[show j-o=(j-(o+1))+1 by omega,List.getElem?_cons_succ]
  .rw[m5 h1];by_cases a:j=o
   .subst a;rw[m3 Ω,l9 Ω];simp
   .rw[m5 Ω,Z9 (Ne.symm a)]
theorem nZ{o:Nat}(h:o+vs.length<=cs.length):over cs o vs=cs.take o++vs++cs.drop (o+vs.length):=by
 apply X3;intro j;rw[pc vs cs o h];by_cases h1:j<o
 .rw[m5 Ω,Y2 Θ,Y2 Θ,Y7 h1]
 .by_cases a:j<o+vs.length
  .rw[m3 Ω,Y2 Θ,Z7 Θ];congr 1;simp;omega
  .rw[m5 Ω,Z7 Θ,List.getElem?_drop];congr 1;simp;omega
theorem pd{g:Nat}{e:p9}:∀(vs:List x1)(cs:List x1)(o:Nat)(w:x4),ag w g e cs->ag (w.setCells g o vs) g e (over cs o vs)/\kw g w (w.setCells g o vs)
 |[],cs,o,w,h=>⟨h,kw.refl _ _⟩
 |v::r,cs,o,w,h=>by
  obtain⟨h1,a⟩:=Bj h o v;obtain⟨f,j⟩:=pd r (cs.set o v) (o+1) _ h1;exact⟨f,a.F j⟩
theorem tJ(w:x4)(c:List x1)(e:p9):ag (w.alloc (.cells c.toArray e)) w.heap.size e c/\Ext w (w.alloc (.cells c.toArray e))/\cN w (w.alloc (.cells c.toArray e)):=
 ⟨heap_alloc_new w _,q5 w _,q6 w _⟩
theorem bB{k a:Nat}{K:x1->x4->Prop}(hi:aP P t k a z)(h:∀g I,g=w.heap.size->Ext w I->ag I g t z.cells.toList->K (Γ g) I):aH P (P7 t ro (.tuple #[])) w K:=by
 obtain⟨i,hi,_,_,e⟩:=hi;obtain⟨h1,f,j⟩:=tJ w z.cells.toList t;refine .of ?_ j (h _ _ rfl f h1);simp[P7,zeroValue,typeInfo,hi,e,newVar,newRow]
theorem bo{K:x1->x4->Prop}(h:∀g I,g=w.heap.size->Ext w I->ag I g t v.cells.toList->K (Γ g) I):aH P (Instr.box t v) w K:=by
 obtain⟨h1,a,e⟩:=tJ w v.cells.toList t;refine .of ?_ e (h _ _ rfl a h1);simp[Instr.box,newVar,newRow]
def dX(z:Array x1)(n:Nat):List x1:=((Array.range n).map (z[·% z.size]!)).toList
theorem qi(z:Array x1)(n:Nat):(dX z n).length=n:=by simp[dX]
theorem lL{k q:Nat}{parts:Array (Nat×x1)}{cs:Array x1}{K:x1->x4->Prop}(p:P.underlying t=σ (.slice e))(hi:aP P e k q z)(A:n*k<=2 ^ 24)(a:Instr.fill (λj=>σ (j*k,k)) ((Array.range (n*k)).map ((if n*k=0 then#[]else z.cells)[·% (if n*k=0 then#[]else z.cells).size]!)) parts.toList=σ cs)(h:∀g I,g=w.heap.size->Ext w I->ag I g e cs.toList->K (.slice (σ ⟨g,0,ν⟩) n n) I):aH P (X2 t n parts) w K:=by
 obtain⟨i,hi,rfl,_,r⟩:=hi;obtain⟨h1,s,x⟩:=tJ w cs.toList e;refine .of ?_ x (h _ _ rfl s h1);have y:¬(16777216<n*i.size):=Ω
 by_cases f:n*i.size=0
 .simp only[f,if_true]at a;simp[X2,run_underlying p,sizeOf,typeInfo,hi,f,newRow];simp at a;simp[a]
 .simp only[f,if_false]at a;simp[X2,run_underlying p,sizeOf,typeInfo,hi,y,f,newRow,zeroValue,r,a]
theorem bq{g o:Nat}{K:Unit->x4->Prop}(hi:aP P t 1 j z)(h1:v.cells= #[v])(p:v.oneCell'=ro)(a:ag w g e cs)(q:o<cs.length)(h:∀I,af (λr=>r=g) w I->I.heap.size=w.heap.size->ag I g e (cs.set o v)->K () I):aH P (n9 t (.pointer (σ ⟨g,o,ν⟩)) v) w K:=by
 obtain⟨i,hi,J,_⟩:=hi;obtain⟨s,f⟩:=Bj a o v;refine .of ?_ (f.cu a) (h _ f.V f.size s);have x:=a.cell (x7 q);have y:(⟨g,o,ν⟩:Addr).add 0=⟨g,o,ν⟩:=rfl;simp[n9,Instr.sureAddr,storeVar,sizeOf,typeInfo,hi,J,h1,storeCells,y,run_store P w _ v _ p,x,a.frozen]
theorem Bk{k p g o:Nat}{K:Unit->x4->Prop}(hi:aP P t k p z)(q:vs.length=k)(s:∀v∈vs,v.oneCell'=ro)(a:ag w g e cs)(A:o+vs.length<=cs.length)(h:∀I,af (λr=>r=g) w I->I.heap.size=w.heap.size->ag I g e (over cs o vs)->K () I):aH P (n9 t (.pointer (σ ⟨g,o,ν⟩)) (.agg vs.toArray)) w K:=by
 obtain⟨x,f⟩:=pd vs cs o w a;refine .of ?_ (f.cu a) (h _ f.V f.size x);exact run_storeAt_mid w g o t vs.toArray (λj y=>⟨by rw[a.cell (x7 (show o+j<cs.length by simp at y;omega))];rfl,a.frozen _ _⟩) (by rw[hi.size];simp[q]) (by simpa using s)
def b0(w:x4)(g:Nat)(e:p9)(k:Nat)(v:x1)(n:Nat)(xs:List x1):Prop:=
 xs.length=n*k/\((v= .slice ν 0 0/\n=0)\/∃cap cs,v= .slice (σ ⟨g,0,ν⟩) n cap/\ag w g e cs/\n<=cap/\cap<=maxLen/\cs.length=cap*k/\cs.take (n*k)=xs)
theorem b0.nil(w:x4)(g:Nat)(e:p9)(k:Nat):b0 w g e k (.slice ν 0 0) 0 []:=⟨Ξ,.inl ⟨rfl,rfl⟩⟩
theorem b0.full{g:Nat}{k:Nat}(h:ag w g e cs)(a:cs.length=n*k)(f:n<=maxLen):b0 w g e k (.slice (σ ⟨g,0,ν⟩) n n) n cs:=
 ⟨a,.inr ⟨n,cs,rfl,h,p8 _,f,a,by rw[<-a,o6]⟩⟩
theorem b0.V{g:Nat}{k:Nat}(h:b0 w g e k v n xs)(f:af S w I)(j:g<w.heap.size->¬S g):b0 I g e k v n xs:=
 ⟨h.1,h.2.imp id λ⟨cap,cs,h1,a,p⟩=>⟨cap,cs,h1,a.V f (j a.lt),p⟩⟩
theorem b0.W{g:Nat}{k:Nat}(h:b0 w g e k v n xs)(a:Ext w I):b0 I g e k v n xs:=h.V (a.V λ_=>False) (λ_ h=>h)
theorem b0.sl{g:Nat}{k:Nat}(h:b0 w g e k v n xs):cg w k v n xs:=by
 obtain⟨h1,⟨rfl,rfl⟩|⟨cap,cs,rfl,f,p,q,s,r⟩⟩:=h
 .have:xs=[]:=c9 (by simpa using h1);subst this;exact cg.nil w k
 .refine⟨h1,g,0,_,cap,rfl,p,q,λ_=>rfl,λj v a=>?_⟩;rw[W0];have x:=(x5.1 a).1;rw[<-r,Y7 Ω]at a;exact f.cell a
theorem cg.src{k:Nat}{x:x1}{m:Nat}{a:List x1}{f h:p9}(J:cg w k x m a)(hk:P.underlying f=σ (.slice h))(h1:∀u∈a,u.oneCell'=ro)(p:0<m):Src P k f x m a w:=by
 obtain⟨q,b,o,base,cap,rfl,_,_,e,r⟩:=J;have e:=e p;subst e;exact Src.ofSlice w hk ⟨b,o,ν⟩ m cap a q (λj u hu=>by rw[T8];exact r j u hu) h1
theorem cg.K3{k:Nat}{x:x1}{f:List x1}{h:p9}(J:cg w k x 0 f)(hk:P.underlying e=σ (.slice h)):Src P k e x 0 [] w:=by
 obtain⟨j,b,o,base,cap,rfl,_,_,p,q⟩:=J;cases base with
 |none=>exact Src.ofNil w hk cap
 |some a=>exact Src.ofSlice w hk a 0 cap [] Ξ Ξ Ξ
theorem Bl{p s N Y:p9}{k O g m:Nat}{x:x1}{f:List x1}{K:x1->x4->Prop}(B:P.underlying t=σ (.slice e))(C:P.underlying p=σ (.slice Y))(hi:aP P e k O z)(Z:z.cells.size=k)(Q:b0 w g N k v n xs)(J:cg w k x m f)(h1:∀u∈f,u.oneCell'=ro)(aa:(n+m)*O<=140737488355328)(R:n+m<=maxLen)(h:∀E F I G,(F=g/\G=N/\(v=E\/g<w.heap.size/\v≠ .slice ν 0 0)\/F=w.heap.size/\G=e)->b0 I F G k E (n+m) (xs++f)->af (λr=>r=g/\v≠ .slice ν 0 0) w I->K E I):
  aH P (Y0 #[t,p] s #[v,x]) w K:=by
 obtain⟨i,hi,rfl,rfl,ab⟩:=hi;have ac:=Q.sl;obtain⟨a,H⟩:=Q;have q:=J.1;have grow:∀(base:Option Addr)(cap:Nat),v= .slice base n cap->cap<n+m->0<m->(Y1.firstCells i.size n (.slice base n cap)).run P w.drew= .ok xs.toArray w.drew->aH P (Y0 #[t,p] s #[v,x]) w K:=by
  rintro base cap rfl S hm ad;have y:=run_append_grow_src w t p s e i z B hi ab base n cap xs ad x m f (J.src C h1 hm) S (by simp only[maxLen]at R;omega) (growslice_fits S aa);have ae:n+m<=grownCap w (n+m) cap e:=grownCap_ge w _ _ _;have L:=grownCap_le_maxLen w (n+m) cap e R;have ag:Ext w (w.drew.alloc (.cells ((xs++f).toArray++Y1.zeroCells z.cells (grownCap w (n+m) cap e-(n+m))) e)):=(sY w _).F (q5 _ _);refine .of y ((q4 w _ (Nat.le_succ _)).F (q6 _ _)) (h _ w.heap.size _ _ (.inr ⟨rfl,rfl⟩) ⟨by simp[a,q,U7],.inr ⟨_,((xs++f).toArray++Y1.zeroCells z.cells (grownCap w (n+m) cap e-(n+m))).toList,rfl,?_,ae,L,?_,?_⟩⟩ (ag.V _))
  .show _=_;rw[Array.toArray_toList];exact heap_alloc_new w.drew _
  .simp[a,q,size_zeroCells,Z,<-U7];congr 1;omega
  .rw[Array.toList_append,List.toList_toArray,U7,<-a,<-q,<-r9];exact List.take_left
 rcases P8 m with rfl|hm
 .have ah:=c9 (by simpa using q);subst ah;have ai:=J.K3 C;have T:∀base cap,v= .slice base n cap->n<=cap->aH P (Y0 #[t,p] s #[v,x]) w K:=by
   rintro base cap rfl L;refine .of (run_append_nothing w t p s e i B hi base n cap L x ai) (cN.refl _) (h _ g _ _ (.inl ⟨rfl,rfl,.inl rfl⟩) ?_ (af.refl _ _));rw[Nat.add_zero,W5];exact⟨a,H⟩
  obtain⟨rfl,rfl⟩|⟨cap,cs,rfl,_,U,_⟩:=H
  .exact T _ _ rfl (p8 _)
  .exact T _ _ rfl U
 .obtain⟨rfl,rfl⟩|⟨cap,cs,rfl,A,U,aj,W,ak⟩:=H
  .have al:=c9 (by simpa using a);subst al;exact grow ν 0 rfl Ω hm (run_firstCells_none w.drew i.size 0 0 0)
  .by_cases M:n+m<=cap
   .have am:n*i.size+f.length<=cs.length:=by rw[q,W,<-U7];exact Y5 _ M
    have y:=run_append_room_src w t p s e i B hi g 0 n cap x m f (J.src C h1 hm) M
     (λj au=>by rw[A.cell (x7 (show 0+n*i.size+j<cs.length by omega))];rfl) (λj _=>A.frozen _ _)
    obtain⟨an,X⟩:=pd f cs (n*i.size) w A;rw[W0]at y;refine .of y (X.cu A) (h _ g _ _ (.inl ⟨rfl,rfl,.inr ⟨A.lt,Ξ⟩⟩) ⟨by simp[a,q,U7],.inr ⟨cap,_,rfl,an,M,aj,by rw[nn,W],?_⟩⟩ (X.V.Y λr _ h=>⟨h,Ξ⟩));rw[nZ am,ak,U7,<-a,<-q,<-r9];exact List.take_left
   .refine grow _ cap rfl Ω hm (run_firstCells_some w.drew i.size n _ n cap xs a λj u hu=>?_);rw[T8];obtain⟨_,b,o,base,av,he,_,_,ao,y⟩:=ac;cases he;have ap:0<n:=by
     rcases P8 n with rfl|aq
     .simp at a;subst a;simp at hu
     .exact aq
    have:=ao ap;cases this;simpa using y j u hu
theorem pe{p y A:p9}{k q g m:Nat}{x:x1}{j:List x1}{K:x1->x4->Prop}(B:P.underlying t=σ (.slice e))(C:P.underlying p=σ (.slice A))(hi:aP P e k q z)(E:z.cells.size=k)(F:b0 w g e k v n xs)(J:cg w k x m j)(h1:∀u∈j,u.oneCell'=ro)(G:(n+m)*q<=140737488355328)(H:n+m<=maxLen)(h:∀f a I,(a=g\/w.heap.size<=a)->b0 I a e k f (n+m) (xs++j)->af (λr=>r=g) w I->K f I):
  aH P (Y0 #[t,p] y #[v,x]) w K:=
 Bl B C hi E F J h1 G H λf a I M s hm L=>by
  refine h f a I (s.imp And.left λh=>Nat.le_of_eq h.1.symm) ?_ (L.Y λr _ h=>h.1);obtain⟨_,rfl,_⟩|⟨_,rfl⟩:=s<;>exact hm
theorem Bm{f q s:p9}{L g o jj y:Nat}{x:x1}{base:Option Addr}{C:p9}{K:x1->x4->Prop}(E:P.underlying f=σ (.slice e))(hi:aP P e 1 L z)(a:ag w g C cs)(M:0<jj->base=σ ⟨g,o,ν⟩)(X:o+jj<=cs.length)(J:cg w 1 x n xs)(h1:∀u∈xs,u.oneCell'=ro)(h:∀I,af (λr=>r=g) w I->I.heap.size=w.heap.size->ag I g C (over cs o (xs.take jj))->K (Δ (min n jj:Nat)) I):
  aH P (Y1.copy_ #[f,q] s #[.slice base jj y,x]) w K:=by
 obtain⟨A,b,o',N,cap,rfl,_,_,O,Q⟩:=J;simp only[T5]at A;have F:(P.info? e).map (·.size)=σ 1:=hi.size;by_cases p:Nat.min n jj=0
 .have he:=c9 (by rw[o8,A];rw[Nat.min_comm];exact p);rw[he]at h;refine .of (run_copy_none w f q s e base N jj y n cap E F p) (cN.refl _) ?_;have G:min n jj=0:=p;rw[G]at h;exact h w (af.refl _ _) rfl a
 .have G:min n jj≠0:=p;have R:=O Ω;have S:=M Ω;subst R;subst S;have H:(xs.take jj).length=min n jj:=by rw[o8,A,Nat.min_comm]
  obtain⟨T,B⟩:=pd (xs.take jj) cs o w a;have U:=run_copy_cells w f q s e g o jj y ⟨b,o',ν⟩ n cap (xs.take jj) E F H
   (λj u hu=>by
    rw[T8];have W:=(x5.1 hu).1;rw[Y7 Ω]at hu;exact Q j u hu)
   (λj W=>by rw[a.cell (x7 (show o+j<cs.length by omega))];rfl) (λj _=>a.frozen _ _) (λu hu=>h1 u (U3 hu))
  refine .of U (B.cu a) ?_;rw[H];exact h _ B.V B.size T
theorem al.Y{f:Q9}{K e:x1->x4->Prop}(h:al P f args w K)(j:∀v I,cN w I->K v I->e v I):al P f args w e:=by
 cases h with
 |code h1 a=>exact .code h1 (a.Y λ_ I ⟨v,h1,p,a⟩=>⟨v,h1,p,j v I p a⟩)
 |W v I h1 a q=>exact .W v I h1 a (j v I a q)
theorem gS.Y{f:Q9}{K e:x1->x4->Prop}(h:gS P f args w K)(j:∀v I,K v I->e v I):gS P f args w e:=by
 cases h with
 |code h1 a=>exact .code h1 (a.Y λ_ I ⟨v,h1,a⟩=>⟨v,h1,j v I a⟩)
 |W v I h1 p=>exact .W v I h1 (j v I p)
end
end Go.Vc
namespace Go.Proofs.YtnhkbjhpbbobaaaGreatDoor
open Go Go.Vc Go.RowKit Go.Proofs Go.Proofs.Tryz
set_option maxRecDepth 100000
theorem au.u:x8.underlying au=σ (.int .i64):=Ψ
theorem au.i:aP x8 au 1 8 (Δ 0):=aP.of Ψ
theorem aj.u:x8.underlying aj=σ (.int .i64):=Ψ
theorem aj.i:aP x8 aj 1 8 (Δ 0):=aP.of Ψ
theorem ed.i:aP x8 ed 1 1 (.bool rs):=aP.of Ψ
theorem cK.u:x8.underlying cK=σ (.int .u8):=Ψ
theorem cK.i:aP x8 cK 1 1 (.int .u8 0):=aP.of Ψ
theorem c6.u:x8.underlying c6=σ .string:=Ψ
theorem c6.i:aP x8 c6 1 16 (.string ⟨#[]⟩):=aP.of Ψ
theorem cQ.u:x8.underlying cQ=σ (.slice cK):=Ψ
theorem oZ.u:x8.underlying oZ=σ (.slice c7):=Ψ
theorem dx.u:x8.underlying dx=σ (.pointer b9):=Ψ
theorem aq.u:x8.underlying aq=σ (.slice aj):=Ψ
theorem aq.i:aP x8 aq 1 24 (.slice ν 0 0):=aP.of Ψ
theorem dn.u:x8.underlying dn=σ (.slice aq):=Ψ
theorem dn.i:aP x8 dn 1 24 (.slice ν 0 0):=aP.of Ψ
theorem kY.u:x8.underlying kY=σ (.slice ed):=Ψ
theorem kY.i:aP x8 kY 1 24 (.slice ν 0 0):=aP.of Ψ
theorem ev.u:x8.underlying ev=σ (.slice ax):=Ψ
theorem ev.i:aP x8 ev 1 24 (.slice ν 0 0):=aP.of Ψ
theorem fm.u:x8.underlying fm=σ (.slice ew):=Ψ
theorem fm.i:aP x8 fm 1 24 (.slice ν 0 0):=aP.of Ψ
theorem a6.p:bE x8 a6 [(0,1),(1,1),(2,1),(3,1),(4,1),(5,1),(6,1),(7,1)]:=bE.of Ψ
theorem a6.i:aP x8 a6 8 160 (.agg #[(Δ 0),(.slice ν 0 0),(Δ 0),(.slice ν 0 0),(.slice ν 0 0),(.slice ν 0 0),(.slice ν 0 0),(.slice ν 0 0)]):=aP.of Ψ
theorem kZ.i:aP x8 kZ 1 8 (Δ 0):=aP.of Ψ
theorem nW.u:x8.underlying nW=σ (.slice gD):=Ψ
theorem nW.i:aP x8 nW 1 24 (.slice ν 0 0):=aP.of Ψ
theorem ax.u:x8.underlying ax=σ (.slice au):=Ψ
theorem ax.i:aP x8 ax 1 24 (.slice ν 0 0):=aP.of Ψ
theorem fz.u:x8.underlying fz=σ (.int .u64):=Ψ
theorem fz.i:aP x8 fz 1 8 (.int .u64 0):=aP.of Ψ
theorem b3.p:bE x8 b3 [(0,1),(1,1)]:=bE.of Ψ
theorem b3.i:aP x8 b3 2 16 (.agg #[(.int .u64 0),(Δ 0)]):=aP.of Ψ
theorem c7.p:bE x8 c7 [(0,1),(1,1),(2,1),(3,1),(4,1)]:=bE.of Ψ
theorem c7.i:aP x8 c7 5 40 (.agg #[(.int .u8 0),(Δ 0),(Δ 0),(Δ 0),(Δ 0)]):=aP.of Ψ
theorem a8.p:bE x8 a8 [(0,1),(1,1),(2,1)]:=bE.of Ψ
theorem a8.i:aP x8 a8 3 72 (.agg #[(.slice ν 0 0),(.slice ν 0 0),(.slice ν 0 0)]):=aP.of Ψ
theorem ew.p:bE x8 ew [(0,3),(3,1)]:=bE.of Ψ
theorem ew.i:aP x8 ew 4 80 (.agg #[(.slice ν 0 0),(.slice ν 0 0),(.slice ν 0 0),(.bool rs)]):=aP.of Ψ
theorem nX.u:x8.underlying nX=σ (.pointer gg):=Ψ
theorem ml.u:x8.underlying ml=σ (.pointer c8):=Ψ
theorem fa.u:x8.underlying fa=σ (.slice dU):=Ψ
theorem fa.i:aP x8 fa 1 24 (.slice ν 0 0):=aP.of Ψ
theorem b9.p:bE x8 b9 [(0,1),(1,1),(2,1),(3,1),(4,1)]:=bE.of Ψ
theorem gD.p:bE x8 gD [(0,1),(1,1),(2,1)]:=bE.of Ψ
theorem gD.i:aP x8 gD 3 56 (.agg #[(Δ 0),(.slice ν 0 0),(.slice ν 0 0)]):=aP.of Ψ
theorem qc.i:aP x8 qc 1 8 .nilFunc:=aP.of Ψ
theorem bD.p:bE x8 bD [(0,1)]:=bE.of Ψ
theorem bD.i:aP x8 bD 1 24 (.agg #[(.slice ν 0 0)]):=aP.of Ψ
theorem dU.p:bE x8 dU [(0,1),(1,1),(2,1)]:=bE.of Ψ
theorem dU.i:aP x8 dU 3 56 (.agg #[(.slice ν 0 0),(.slice ν 0 0),(Δ 0)]):=aP.of Ψ
theorem rn.u:x8.underlying rn=σ (.pointer da):=Ψ
theorem wO.u:x8.underlying wO=σ (.pointer cF):=Ψ
theorem wP.u:x8.underlying wP=σ (.pointer ek):=Ψ
theorem cX.u:x8.underlying cX=σ (.slice a8):=Ψ
theorem cX.i:aP x8 cX 1 24 (.slice ν 0 0):=aP.of Ψ
theorem dV.p:bE x8 dV [(0,1),(1,1),(2,1),(3,1),(4,1)]:=bE.of Ψ
theorem dV.i:aP x8 dV 5 88 (.agg #[(Δ 0),(.slice ν 0 0),(Δ 0),(.slice ν 0 0),(.slice ν 0 0)]):=aP.of Ψ
theorem ej.p:bE x8 ej [(0,1),(1,1)]:=bE.of Ψ
theorem ej.i:aP x8 ej 2 16 (.agg #[(Δ 0),(.int .u64 0)]):=aP.of Ψ
theorem gV.u:x8.underlying gV=σ (.slice ej):=Ψ
theorem gV.i:aP x8 gV 1 24 (.slice ν 0 0):=aP.of Ψ
theorem iH.u:x8.underlying iH=σ (.slice gE):=Ψ
theorem iH.i:aP x8 iH 1 24 (.slice ν 0 0):=aP.of Ψ
theorem jY.u:x8.underlying jY=σ (.slice dW):=Ψ
theorem jY.i:aP x8 jY 1 24 (.slice ν 0 0):=aP.of Ψ
theorem c8.p:bE x8 c8 [(0,1),(1,1),(2,1),(3,1)]:=bE.of Ψ
theorem dW.p:bE x8 dW [(0,1),(1,1),(2,1)]:=bE.of Ψ
theorem dW.i:aP x8 dW 3 24 (.agg #[(Δ 0),(Δ 0),(.int .u64 0)]):=aP.of Ψ
theorem gE.p:bE x8 gE [(0,1),(1,2)]:=bE.of Ψ
theorem gE.i:aP x8 gE 3 24 (.agg #[(Δ 0),(Δ 0),(.int .u64 0)]):=aP.of Ψ
theorem tE.u:x8.underlying tE=σ (.pointer ji):=Ψ
theorem fb.p:bE x8 fb [(0,1),(1,1),(2,1),(3,1)]:=bE.of Ψ
theorem iI.u:x8.underlying iI=σ (.slice k0):=Ψ
theorem iI.i:aP x8 iI 1 24 (.slice ν 0 0):=aP.of Ψ
theorem cB.p:bE x8 cB [(0,1),(1,4),(5,1),(6,1)]:=bE.of Ψ
theorem kv.u:x8.underlying kv=σ (.slice ci):=Ψ
theorem jZ.u:x8.underlying jZ=σ (.slice ey):=Ψ
theorem jZ.i:aP x8 jZ 1 24 (.slice ν 0 0):=aP.of Ψ
theorem ci.p:bE x8 ci [(0,1),(1,1),(2,1),(3,1)]:=bE.of Ψ
theorem ci.i:aP x8 ci 4 80 (.agg #[(.slice ν 0 0),(.slice ν 0 0),(Δ 0),(.slice ν 0 0)]):=aP.of Ψ
theorem dP.u:x8.underlying dP=σ (.slice cJ):=Ψ
theorem dP.i:aP x8 dP 1 24 (.slice ν 0 0):=aP.of Ψ
theorem cF.p:bE x8 cF [(0,1),(1,1),(2,1),(3,1)]:=bE.of Ψ
theorem e1.u:x8.underlying e1=σ (.pointer fO):=Ψ
theorem e1.i:aP x8 e1 1 8 (.pointer ν):=aP.of Ψ
theorem cJ.p:bE x8 cJ [(0,1),(1,1)]:=bE.of Ψ
theorem cJ.i:aP x8 cJ 2 32 (.agg #[(.slice ν 0 0),(.pointer ν)]):=aP.of Ψ
theorem fA.u:x8.underlying fA=σ (.slice cw):=Ψ
theorem fA.i:aP x8 fA 1 24 (.slice ν 0 0):=aP.of Ψ
theorem dC.u:x8.underlying dC=σ (.slice be):=Ψ
theorem dC.i:aP x8 dC 1 24 (.slice ν 0 0):=aP.of Ψ
theorem bG.p:bE x8 bG [(0,1),(1,1),(2,1),(3,1),(4,1),(5,1),(6,1),(7,1),(8,1)]:=bE.of Ψ
theorem ek.p:bE x8 ek [(0,1),(1,1),(2,1),(3,1)]:=bE.of Ψ
theorem cw.p:bE x8 cw [(0,1),(1,1)]:=bE.of Ψ
theorem cw.i:aP x8 cw 2 24 (.agg #[(.string ⟨#[]⟩),(Δ 0)]):=aP.of Ψ
theorem en.u:x8.underlying en=σ (.slice cj):=Ψ
theorem en.i:aP x8 en 1 24 (.slice ν 0 0):=aP.of Ψ
theorem be.p:bE x8 be [(0,1),(1,1),(2,1),(3,1)]:=bE.of Ψ
theorem be.i:aP x8 be 4 80 (.agg #[(.slice ν 0 0),(.slice ν 0 0),(Δ 0),(.slice ν 0 0)]):=aP.of Ψ
theorem mm.u:x8.underlying mm=σ (.slice iJ):=Ψ
theorem mm.i:aP x8 mm 1 24 (.slice ν 0 0):=aP.of Ψ
theorem gg.p:bE x8 gg [(0,1),(1,1),(2,1),(3,1)]:=bE.of Ψ
theorem fc.u:x8.underlying fc=σ (.pointer cZ):=Ψ
theorem fc.i:aP x8 fc 1 8 (.pointer ν):=aP.of Ψ
theorem iJ.p:bE x8 iJ [(0,1),(1,1)]:=bE.of Ψ
theorem iJ.i:aP x8 iJ 2 32 (.agg #[(.slice ν 0 0),(.pointer ν)]):=aP.of Ψ
theorem qd.u:x8.underlying qd=σ (.int .u64):=Ψ
theorem rp.p:bE x8 rp [(0,1),(1,1)]:=bE.of Ψ
theorem eI.u:x8.underlying eI=σ (.slice cr):=Ψ
theorem eI.i:aP x8 eI 1 24 (.slice ν 0 0):=aP.of Ψ
theorem da.p:bE x8 da [(0,1),(1,1)]:=bE.of Ψ
theorem cr.p:bE x8 cr [(0,1),(1,1)]:=bE.of Ψ
theorem cr.i:aP x8 cr 2 16 (.agg #[(Δ 0),(Δ 0)]):=aP.of Ψ
theorem ji.p:bE x8 ji [(0,1),(1,1),(2,1)]:=bE.of Ψ
theorem k0.p:bE x8 k0 [(0,1),(1,1)]:=bE.of Ψ
theorem k0.i:aP x8 k0 2 48 (.agg #[(.slice ν 0 0),(.slice ν 0 0)]):=aP.of Ψ
theorem ey.p:bE x8 ey [(0,1),(1,1)]:=bE.of Ψ
theorem ey.i:aP x8 ey 2 32 (.agg #[(.slice ν 0 0),(Δ 0)]):=aP.of Ψ
theorem cj.p:bE x8 cj [(0,1),(1,1)]:=bE.of Ψ
theorem cj.i:aP x8 cj 2 32 (.agg #[(.slice ν 0 0),(Δ 0)]):=aP.of Ψ
theorem gF.u:x8.underlying gF=σ (.slice cY):=Ψ
theorem cY.p:bE x8 cY [(0,1),(1,1)]:=bE.of Ψ
theorem cY.i:aP x8 cY 2 32 (.agg #[(.slice ν 0 0),(.pointer ν)]):=aP.of Ψ
theorem j1.u:x8.underlying j1=σ (.map cG au):=Ψ
theorem fO.p:bE x8 fO [(0,1),(1,1),(2,1),(3,1)]:=bE.of Ψ
theorem qe.u:x8.underlying qe=σ (.slice gG):=Ψ
theorem gG.p:bE x8 gG [(0,1),(1,1)]:=bE.of Ψ
theorem gG.i:aP x8 gG 2 32 (.agg #[(.slice ν 0 0),(Δ 0)]):=aP.of Ψ
theorem cZ.p:bE x8 cZ [(0,1),(1,1),(2,1)]:=bE.of Ψ
theorem wQ.u:x8.underlying wQ=σ (.array 64 cK):=Ψ
theorem ir.u:x8.underlying ir=σ (.map c6 aj):=Ψ
theorem gh.u:x8.underlying gh=σ (.int .i8):=Ψ
theorem gh.i:aP x8 gh 1 1 (.int .i8 0):=aP.of Ψ
theorem cG.u:x8.underlying cG=σ (.array 6 gh):=Ψ
theorem cG.i:aP x8 cG 6 6 (.agg #[(.int .i8 0),(.int .i8 0),(.int .i8 0),(.int .i8 0),(.int .i8 0),(.int .i8 0)]):=aP.of Ψ
theorem mn.u:x8.underlying mn=σ (.slice gh):=Ψ
theorem k1.u:x8.underlying k1=σ (.slice cG):=Ψ
theorem k1.i:aP x8 k1 1 24 (.slice ν 0 0):=aP.of Ψ
theorem qf.u:x8.underlying qf=σ (.int .u32):=Ψ
theorem ng.u:x8.underlying ng=σ (.map au aj):=Ψ
theorem nY.u:x8.underlying nY=σ (.array 24 cK):=Ψ
theorem nY.i:aP x8 nY 24 24 (.agg #[(.int .u8 0),(.int .u8 0),(.int .u8 0),(.int .u8 0),(.int .u8 0),(.int .u8 0),(.int .u8 0),(.int .u8 0),(.int .u8 0),(.int .u8 0),(.int .u8 0),(.int .u8 0),(.int .u8 0),(.int .u8 0),(.int .u8 0),(.int .u8 0),(.int .u8 0),(.int .u8 0),(.int .u8 0),(.int .u8 0),(.int .u8 0),(.int .u8 0),(.int .u8 0),(.int .u8 0)]):=aP.of Ψ
theorem wR.u:x8.underlying wR=σ (.array 20 fz):=Ψ
end Go.Proofs.YtnhkbjhpbbobaaaGreatDoor
namespace Go.Vc
open Go Go.RowKit
def bU:x1->Int
 | .int _ i=>i
 |_=>0
theorem li{x:Int}(h1: -9223372036854775808<=x)(a:x<9223372036854775808):W6.wrap x=x:=by
 simp only[o7.wrap,o7.bits,o7.signed];simp;omega
theorem wrap_u8{x:Int}(h1:0<=x)(a:x<256):o7.u8.wrap x=x:=by
 simp only[o7.wrap,o7.bits,o7.signed];simp;omega
theorem K4{x:Int}(h1: -128<=x)(a:x<128):o7.i8.wrap x=x:=by
 simp only[o7.wrap,o7.bits,o7.signed];simp;omega
theorem lm{x:Int}(h1:0<=x)(a:x<18446744073709551616):T7.wrap x=x:=by
 simp only[o7.wrap,o7.bits,o7.signed];simp;omega
abbrev ints(k:o7)(l:Λ):List x1:=l.map (U6 k)
theorem rq(k:o7)(l:Λ):∀u∈ints k l,u.oneCell'=ro:=by
 intro u hu;obtain⟨x,_,rfl⟩:=j0.1 hu;rfl
theorem mo{i:Nat}{x:Int}(h:l[i]?=σ x):(ints k l)[i]?=σ (.int k x):=by simp[ints,h]
theorem wV{α:Type}{a b:List α}{i:Nat}{x y:α}(h:a.take i=b.take i)(e:a[i]?=σ x)(f:b[i]?=σ y)(j:x=y):a.take (i+1)=b.take (i+1):=by
 rw[r8,r8,h,e,f,j]
theorem cW{ay:x4->Prop}{B:(x4->Prop)->Prop}(G:x4->Prop)(h1:∀w,G w->ay w)(e:∀a:x4->Prop,(∀w,G w->a w)->B a):cv ay B:=e ay h1
theorem aV{ay:x1->x4->Prop}{B:(x1->x4->Prop)->Prop}(G:x1->x4->Prop)(h1:∀v w,G v w->ay v w)(e:∀a:x1->x4->Prop,(∀v w,G v w->a v w)->B a):cv ay B:=e ay h1
theorem jv{ay:x1->x1->x4->Prop}{B:(x1->x1->x4->Prop)->Prop}(G:x1->x1->x4->Prop)(h1:∀u v w,G u v w->ay u v w)(e:∀a:x1->x1->x4->Prop,(∀u v w,G u v w->a u v w)->B a):cv ay B:=e ay h1
theorem al.calls{P:V5}{f:Q9}{K:x1->x4->Prop}(h:al P f args w K)(a:Enters P f):Calls P f args.toArray w λe I=>∃v,e= .returned v/\cN w I/\K v I:=by
 cases h with
 |code _ h=>exact h
 |W v I h1=>rw[a]at h1;cases h1
theorem K5(f:Ext w I)(a:cN w I):Below w.heap.size w I:=
 ⟨a.os,a.tape.1,a.output,f.size,λk hk=>by
  have e:=Array.getElem?_eq_getElem hk;rw[e];cases J:fL w.heap[k]with
  |true=>exact f.aZ k _ e J
  |false=>exact a.aZ k _ e J⟩
theorem wW{x:Addr}(h:w.cell? x=σ v):x=⟨x.block,x.off,ν⟩:=by
 obtain⟨b,o,s⟩:=x;cases s with
 |none=>rfl
 |some s=>
  unfold x4.cell? at h;split at h<;>simp at h
theorem K6{a:Option Addr}{len cap:Nat}{e:Λ}(h:(a=ν/\len=0/\cap=0/\e=[])\/
   ∃x,a=σ x/\len<=cap/\cap<=maxLen/\e.length=cap/\(∀i,i<e.length->w.cell? (x.add i)=σ (.int k (e.getD i 0)))/\∀n∈e,(Lit.int k n).wf=ro):
  cg w 1 (.slice a len cap) len (ints k (e.take len))/\∀n∈e.take len,k.min<=n/\n<=k.max:=by
 rcases h with⟨rfl,rfl,rfl,rfl⟩|⟨x,rfl,h1,r,s,f,y⟩
 .exact⟨cg.nil _ _,Ξ⟩
 .refine⟨⟨by simp[s,h1],x.block,x.off,σ x,cap,rfl,h1,r,λC=>?_,λj v p=>?_⟩,λn z=>?_⟩
  .have:=f 0 Ω;exact congrArg σ (wW this)
  .have A:=(x5.1 p).1;rw[u9,o8]at A;have B:x=⟨x.block,x.off,ν⟩:=wW (v:=.int k (e.getD 0 0)) (f 0 Ω);have q:=f j Ω;rw[B,T8]at q;rw[q,<-p,ints,v8,Y7 Ω,u4,x7 Ω];rfl
  .have:=y n (U3 z);simpa[Lit.wf]using this
def aM(k:o7)(w:x4)(v:x1)(l:Λ):Prop:=cg w 1 v l.length (ints k l)
def aA(k:o7)(e:p9)(w:x4)(g:Nat)(v:x1)(l:Λ):Prop:=b0 w g e 1 v l.length (ints k l)
theorem aM.W(h:aM k w v l)(a:Ext w I):aM k I v l:=cg.W h a
theorem aA.W{g:Nat}(h:aA k e w g v l)(a:Ext w I):aA k e I g v l:=b0.W h a
theorem aA.V{g:Nat}(h:aA k e w g v l)(a:af S w I)(f:g<w.heap.size->¬S g):aA k e I g v l:=b0.V h a f
theorem aA.ls{g:Nat}(h:aA k e w g v l):aM k w v l:=b0.sl h
theorem aM.of(h:cg w 1 v n (ints k l)):aM k w v l:=by
 have:l.length=n:=by simpa using h.1
 unfold aM;rw[this];exact h
theorem aA.of{g:Nat}(h:b0 w g e 1 v n (ints k l)):aA k e w g v l:=by
 have:l.length=n:=by simpa using h.1
 unfold aA;rw[this];exact h
theorem aM.le(h:aM k w v l):l.length<=9223372036854775807:=by
 have:=cg.le h;simpa[maxLen]using this
theorem aM.cells(h:aM k w v l):v.cells= #[v]/\v.oneCell'=ro:=by
 obtain⟨_,_,_,_,_,rfl,_⟩:=h;exact⟨rfl,rfl⟩
theorem aA.nil(k:o7)(e:p9)(w:x4)(g:Nat):aA k e w g (.slice ν 0 0) []:=b0.nil w g e 1
section
variable{P:V5}{w:x4}
theorem aY{a:p9}(f:P.underlying t=σ (.slice e))(h:aM k w v l):
  ab P (V7 #[t] a #[v]) w K=K (Δ l.length):=by
 obtain⟨_,_,_,_,_,rfl,_⟩:=h;exact iL f
theorem bi{b:Nat}{i:Nat}{x:Int}(j:P.underlying t=σ (.slice e))(hi:aP P e 1 b z)(h1:k2 P e=ro)(h:aM k w v l)(a:l[i]?=σ x):ab P (Z0 t v (.int f (i:Int))) w (λp=>ab P (u5 e p) w K)=K (.int k x):=by
 have q:=(x5.1 a).1;obtain⟨_,_,_,_,_,rfl,_,_,r,s⟩:=h;rw[fd j hi q r,T5,aD h1 (s i _ (mo a))]
theorem gI{a:o7}{b:Nat}{i:Nat}{x:Int}(f:y=(i:Int))(j:P.underlying t=σ (.slice e))(hi:aP P e 1 b z)(h1:k2 P e=ro)(h:aM k w v l)(q:l[i]?=σ x):ab P (Z0 t v (.int a y)) w (λp=>ab P (u5 e p) w K)=K (.int k x):=by
 subst f;exact bi j hi h1 h q
theorem kx{p:p9}{b g:Nat}{x:x1}{m:Λ}{K:x1->x4->Prop}(j:P.underlying t=σ (.slice e))(hi:aP P e 1 b z)(q:z.cells.size=1)(h:aA k e w g v l)(s:aM k w x m)(y:(l.length+m.length)*b<=140737488355328)(A:l.length+m.length<=9223372036854775807)(B:∀f a I,(a=g\/w.heap.size<=a)->aA k e I a f (l++m)->af (λr=>r=g) w I->K f I):aH P (Y0 #[t,t] p #[v,x]) w K:=
 pe j j hi q h s (rq _ _) y (by simpa[maxLen]using A) λf a I h1 C E=>B f a I h1 (aA.of (by rw[ints,Z5];exact C)) E
theorem eB{b:Nat}{x:Int}{K:x1->x4->Prop}(j:P.underlying t=σ (.slice e))(hi:aP P e 1 b z)(s:z.cells.size=1)(h:∀v g I,g=w.heap.size->Ext w I->aA k e I g v [x]->K v I):aH P (X2 t 1 #[(0,.int k x)]) w K:=
 lL j hi Ω (cs:=#[.int k x]) (by
   have J:∀(a:Array x1),a.size=1->a.setIfInBounds 0 (.int k x)= #[.int k x]:=λa f=>by
    apply Array.ext
    .simp[f]
    .intro i h1 y;have:i=0:=by simp[f]at h1;exact h1
     subst this;simp
   simp only[Instr.fill,x1.cells,List.zipIdx];simp;exact J _ Ξ) λg I p q r=>h _ g I p q (aA.of (b0.full r rfl (by simp[maxLen])))
theorem al.free{f:Q9}{K:x1->x4->Prop}(h:al P f args w K):gS P f args w λv I=>cN w I/\K v I:=by
 cases h with
 |code h1 a=>exact .code h1 (a.Y λ_ I ⟨v,h1,e,a⟩=>⟨v,h1,e,a⟩)
 |W v I h1 a j=>exact .W v I h1 ⟨a,j⟩
theorem bL{a:Addr}:ab P (bR (.pointer (σ a))) w K=K (.pointer (σ a)):=ab.of λ_ _=>by
 simp[bR,s3,execOp]
theorem aL{u:p9}{pl:List (Nat×Nat)}{b z:Nat}{K:x1->x1->Prop}(ac:bE P t pl)(i:Nat)(h:ag w b e cs)(a:cs[(pl[i]?.getD (0,0)).1]?=σ v)(f:pl[i]?=σ (off,z+1):=by rfl)(j:k2 P u=ro:=by kernel_rfl):
  ab P (u7 t (Γ b) i) w (λx=>ab P (u5 u x) w (K x))=K (.pointer (σ ⟨b,0+off,ν⟩)) v:=by
 rw[f]at a;rw[aT ac f,aD j (h.cell (by rw[W0];exact a))]
theorem aG{u:p9}{pl:List (Nat×Nat)}{b z:Nat}{K:x1->x1->x1->Prop}(ac:bE P t pl)(i:Nat)(a:ag w b e cs)(f:cs[(pl[i]?.getD (0,0)).1]?=σ v)(h:pl[i]?=σ (off,z+1):=by rfl)(j:k2 P u=ro:=by kernel_rfl):
  ab P (bR (Γ b)) w (λy=>ab P (u7 t y i) w (λx=>ab P (u5 u x) w (K y x)))=K (Γ b) (.pointer (σ ⟨b,0+off,ν⟩)) v:=by
 rw[bL,aL ac i a f h j]
theorem Bn{a:o7}{k:Nat}{K:x1->x4->Prop}(q:P.underlying t=σ (.slice e))(hi:aP P e k j z)(A:n*j<=281474976710656)(B:n<=9223372036854775807)(h:∀g I,g=w.heap.size->Ext w I->ag I g e (dX z.cells (n*k))->K (.slice (σ ⟨g,0,ν⟩) n n) I):aH P (Instr.makeSlice t (.int a (n:Int)) (.int f (n:Int))) w K:=by
 obtain⟨i,hi,rfl,rfl,r⟩:=hi;have s:(i.bytes:Int)*(n:Int)<=281474976710656:=by
  rw[Int.mul_comm];have h:((n*i.bytes:Nat):Int)<=281474976710656:=Ω
  rwa [Int.natCast_mul]at h
 have p:=run_make w t e i z q hi r a f n n Ω (S8 _) s Ω;have hm:madeCells z.cells ((n:Int).toNat*i.size)=(dX z.cells (n*i.size)).toArray:=by rw[dX,Array.toArray_toList];rfl
 rw[hm]at p;obtain⟨h1,x,y⟩:=tJ w (dX z.cells (n*i.size)) e;exact .of p y (h _ _ rfl x h1)
theorem K7(v:x1)(n:Nat):dX #[v] n=o4 n v:=by
 apply List.ext_getElem
 .simp[dX]
 .intro i h1 a;simp[dX,Nat.mod_one]
theorem k3{j:o7}{a:Nat}{K:x1->x4->Prop}(p:P.underlying t=σ (.slice e))(hi:aP P e 1 a (.int k 0))(q:n*a<=281474976710656)(r:n<=9223372036854775807)(h:∀g I,g=w.heap.size->Ext w I->ag I g e (ints k (o4 n 0))->K (.slice (σ ⟨g,0,ν⟩) n n) I):aH P (Instr.makeSlice t (.int f (n:Int)) (.int j (n:Int))) w K:=
 Bn p hi q r λg I s x y=>h g I s x (by
  have e:dX (U6 k 0).cells (n*1)=ints k (o4 n 0):=by rw[T5];show dX #[_] n=_;rw[K7];simp[ints]
  rw[<-e];exact y)
theorem fP{pl:List (Nat×Nat)}{b o k a:Nat}(hu:bE P t pl)(hi:aP P t k a z)(e:cs.length=k)(h:w.rangeAt b o cs):ab P (do loadVar t (<-asAddr (.pointer (σ ⟨b,o,ν⟩)))) w K=K (.agg cs.toArray):=ab.of λI f=>by
 obtain⟨j,hu,_⟩:=hu;have:=run_loadVar_mid I b o t cs (.struct j) (o0 f h) hu rfl (by rw[hi.size,e]);simp only[asAddr,V1,U1,Result.andThen_ok,this]
theorem K8(h:vs.length=cs.length):over cs 0 vs=vs:=by
 rw[nZ Ω];simp[h]
theorem b4{k f g:Nat}{K:Unit->x4->Prop}(hi:aP P t k f z)(j:vs.length=k)(x:cs.length=k)(p:∀v∈vs,v.oneCell'=ro)(q:ag w g e cs)(h:∀I,af (λr=>r=g) w I->I.heap.size=w.heap.size->ag I g e vs->K () I):aH P (n9 t (Γ g) (.agg vs.toArray)) w K:=
 Bk hi j p q Ω λI h1 s a=>h I h1 s (by rw[K8 Ω]at a;exact a)
end
section
variable{P:V5}{w I aa:x4}{t:p9}{cx cy:Bool}{k:o7}{a b:Int}{A B:Prop}{x y z:x1}{K:x1->Prop}
theorem bu:ab P (Y8 (.tuple #[x,y]) 0) w K=K x:=j3 rfl
theorem bw:ab P (Y8 (.tuple #[x,y]) 1) w K=K y:=j3 rfl
theorem fQ:ab P (Y8 (.tuple #[x,y,z]) 0) w K=K x:=j3 rfl
theorem fR:ab P (Y8 (.tuple #[x,y,z]) 1) w K=K y:=j3 rfl
theorem fS:ab P (Y8 (.tuple #[x,y,z]) 2) w K=K z:=j3 rfl
theorem bI(h:a<b)(e:A):ab P (aN .lss t cx cy (.int k a) (.int k b)) w λv=>Split v A B:=by
 rw[aR,ak];exact⟨λ_=>e,λf=>m6 h f⟩
theorem cc(h:¬a<b)(e:B):ab P (aN .lss t cx cy (.int k a) (.int k b)) w λv=>Split v A B:=by
 rw[aR,ak];exact⟨λf=>m6 f h,λ_=>e⟩
theorem Ext.put{g:Nat}(a:Ext w I)(e:af (λr=>r=g) I aa)(h:w.heap.size<=g):Ext w aa:=a.then e λr f he=>by
 have he:r=g:=he;omega
theorem aF{α:Type}{l:List α}{i:Nat}(h:i<l.length):∃x,l[i]?=σ x:=⟨_,x7 h⟩
end
abbrev ah:=Nat->Prop
def jw(S:ah)(w:x4)(k:Nat)(v:x1)(n:Nat)(cs:List x1):Prop:=
 cs.length=n*k/\∃b o base cap,v= .slice base n cap/\n<=cap/\cap<=maxLen/\(0<n->base=σ ⟨b,o,ν⟩)/\(0<cs.length->S b)/\w.rangeAt b o cs
theorem jw.sl{S:ah}{k:Nat}(h:jw S w k v n cs):cg w k v n cs:=by
 obtain⟨h1,b,o,base,cap,a,e,f,j,_,p⟩:=h;exact⟨h1,b,o,base,cap,a,e,f,j,p⟩
theorem Bo{b o:Nat}(h:w.rangeAt b o cs)(a:0<cs.length):b<w.heap.size:=by
 have:=h 0 cs[0] (x7 a);obtain⟨c,e,f,j,_⟩:=wS this;exact(j9.1 j).1
theorem jw.V{S T:ah}{k:Nat}(h:jw S w k v n cs)(p:af T w I)(q:∀r,r<w.heap.size->S r->¬T r):jw S I k v n cs:=by
 obtain⟨h1,b,o,base,cap,s,x,y,z,e,f⟩:=h;refine⟨h1,b,o,base,cap,s,x,y,z,e,?_⟩;rcases P8 cs.length with a|a
 .intro j v A;have:=(x5.1 A).1;omega
 .exact iu p (q b (Bo f a) (e a)) f
theorem jw.Y{S T:ah}{k:Nat}(h:jw S w k v n cs)(f:∀r,r<w.heap.size->S r->T r):jw T w k v n cs:=by
 obtain⟨h1,b,o,base,cap,j,p,q,s,x,a⟩:=h;exact⟨h1,b,o,base,cap,j,p,q,s,λe=>f b (Bo a e) (x e),a⟩
class av(α:Type) where
 n:Nat
 rep:Bool->ah->ah->x4->List x1->α->Prop
 len:∀{m S R w cs a},rep m S R w cs a->cs.length=n
 one:∀{m S R w cs a},rep m S R w cs a->∀u∈cs,u.oneCell'=ro
 V:∀{m S R T w I cs a},rep m S R w cs a->af T w I->(∀r,r<w.heap.size->S r\/R r->¬T r)->rep m S R I cs a
 Y:∀{m S S' R R' w cs a},rep m S R w cs a->(∀r,r<w.heap.size->S r->S' r)->(∀r,r<w.heap.size->R r->R' r)->rep m S' R' w cs a
 jg:∀{m S R w cs a},rep m S R w cs a->rep rs (λ_=>False) (λr=>S r\/R r) w cs a
section
variable{α β:Type}[av α][av β]{m:Bool}{S R T:ah}{w I:x4}
abbrev bJ(S R:ah)(w:x4)(cs:List x1)(a:α):Prop:=av.rep ro S R w cs a
abbrev Seen(R:ah)(w:x4)(cs:List x1)(a:α):Prop:=av.rep rs (λ_=>False) R w cs a
abbrev eT:ah:=λ_=>True
theorem bS{a:α}(h:av.rep m S R w cs a)(e:Ext w I):av.rep m S R I cs a:=av.V h (e.V λ_=>False) λ_ _ _ h=>h
theorem n0{a:α}(h:av.rep m S R w cs a):av.rep m (λr=>S r/\r<w.heap.size) R w cs a:=av.Y h (λ_ h1 e=>⟨e,h1⟩) λ_ _ h=>h
theorem ky{a:α}(h:av.rep m S R w cs a):Seen eT w cs a:=av.Y (av.jg h) (λ_ _ h=>h.elim) λ_ _ _=>trivial
theorem rr{a:α}{Q:ah}(h:av.rep m S R w cs a)(e:∀r,r<w.heap.size->S r\/R r->Q r):Seen Q w cs a:=av.Y (av.jg h) (λ_ _ h=>h.elim) e
instance:av Int where
 n:=1
 rep _ _ _ _ cs a:=cs=[Δ a]
 len h:=by subst h;rfl
 one h:=by subst h;intro u hu;simp at hu;subst hu;rfl
 V h _ _:=h
 Y h _ _:=h
 jg h:=h
instance:av Bool where
 n:=1
 rep _ _ _ _ cs a:=cs=[.bool a]
 len h:=by subst h;rfl
 one h:=by subst h;intro u hu;simp at hu;subst hu;rfl
 V h _ _:=h
 Y h _ _:=h
 jg h:=h
instance:av ByteArray where
 n:=1
 rep _ _ _ _ cs a:=cs=[.string a]
 len h:=by subst h;rfl
 one h:=by subst h;intro u hu;simp at hu;subst hu;rfl
 V h _ _:=h
 Y h _ _:=h
 jg h:=h
def np(_:o7):Type:=Int
instance (k:o7):av (np k) where
 n:=1
 rep _ _ _ _ cs a:=cs=[.int k a]
 len h:=by subst h;rfl
 one h:=by subst h;intro u hu;simp at hu;subst hu;rfl
 V h _ _:=h
 Y h _ _:=h
 jg h:=h
def Rd(α:Type):Type:=α
instance Vh:av (Rd α) where
 n:=av.n α
 rep _ _ R w cs a:=av.rep (α:=α) rs (λ_=>False) R w cs a
 len h:=av.len (α:=α) h
 one h:=av.one (α:=α) h
 V h e f:=av.V (α:=α) h e λr j h=>f r j (.inr (h.elim False.elim id))
 Y h _ p:=av.Y (α:=α) h (λ_ _ h=>h) p
 jg h:=av.Y (α:=α) h (λ_ _ h=>h) λ_ _ h=>.inr h
instance Vi:av (α×β) where
 n:=av.n α+av.n β
 rep m S R w cs a:=∃c d A B,cs=c++d/\(∀r,A r->S r)/\(∀r,B r->S r)/\(m=ro->∀r,A r->¬B r)/\av.rep m A R w c a.1/\av.rep m B R w d a.2
 len:=by
  rintro m S R w cs a ⟨c,d,A,B,rfl,_,_,_,h1,e⟩;simp[av.len h1,av.len e]
 one:=by
  rintro m S R w cs a ⟨c,d,A,B,rfl,_,_,_,h1,e⟩ u hu;rcases j4.1 hu with hu|hu
  .exact av.one h1 u hu
  .exact av.one e u hu
 V:=by
  rintro m S R T w I cs a ⟨c,d,A,B,rfl,j,p,s,h1,e⟩ x q;exact⟨c,d,A,B,rfl,j,p,s,av.V h1 x λr f h=>q r f (h.imp (j r) id),av.V e x λr f h=>q r f (h.imp (p r) id)⟩
 Y:=by
  rintro m S S' R R' w cs a ⟨c,d,A,B,rfl,j,p,s,h1,e⟩ q y;exact⟨c,d,λr=>A r/\r<w.heap.size,λr=>B r/\r<w.heap.size,rfl,λr h=>q r h.2 (j r h.1),λr h=>q r h.2 (p r h.1),λhm r h k=>s hm r h.1 k.1,
   av.Y h1 (λr f h=>⟨h,f⟩) y,av.Y e (λr f h=>⟨h,f⟩) y⟩
 jg:=by
  rintro m S R w cs a ⟨c,d,A,B,rfl,j,p,s,h1,e⟩;exact⟨c,d,λ_=>False,λ_=>False,rfl,λ_ h=>h.elim,λ_ h=>h.elim,(λh=>by cases h),av.Y (av.jg h1) (λ_ _ h=>h) λr _ h=>h.imp (j r) id,
   av.Y (av.jg e) (λ_ _ h=>h) λr _ h=>h.imp (p r) id⟩
def n1(m:Bool)(R:ah)(F:Nat->ah)(w:x4)(vs:List (List x1))(l:List α):Prop:=
 vs.length=l.length/\∀(i:Nat)(c:List x1)(a:α),vs[i]?=σ c->l[i]?=σ a->av.rep m (F i) R w c a
structure Bp(m:Bool)(S:ah)(g:Nat)(F:Nat->ah):Prop where
 sub:∀i r,F i r->S r
 top:m=ro->∀i,¬F i g
 gX:m=ro->∀i j r,i≠j->F i r->¬F j r
theorem n1.len{F:Nat->ah}{vs:List (List x1)}{l:List α}(h:n1 m R F w vs l):∀c∈vs,c.length=av.n α:=by
 intro c a;obtain⟨i,hi,rfl⟩:=List.mem_iff_getElem.1 a;exact av.len (h.2 i _ _ (x7 hi) (x7 (h.1▸hi)))
theorem n1.one{F:Nat->ah}{vs:List (List x1)}{l:List α}(h:n1 m R F w vs l):∀u∈vs.flatten,u.oneCell'=ro:=by
 intro u hu;obtain⟨c,a,hu⟩:=List.mem_flatten.1 hu;obtain⟨i,hi,rfl⟩:=List.mem_iff_getElem.1 a;exact av.one (h.2 i _ _ (x7 hi) (x7 (h.1▸hi))) u hu
theorem kz{k:Nat}:∀{vs:List (List x1)},(∀c∈vs,c.length=k)->vs.flatten.length=vs.length*k
 |[],_=>Ξ
 |c::r,h=>by
  have:=kz λx a=>h x (.tail _ a);simp only[List.flatten_cons,r9,this,h c (.head _),Z4,U7];omega
theorem pf{k:Nat}:∀{vs:List (List x1)},(∀c∈vs,c.length=k)->∀{i j:Nat}{c:List x1},vs[i]?=σ c->j<k->vs.flatten[i*k+j]?=c[j]?
 |fo::r,h,0,j,c,a,e=>by
  simp only[List.getElem?_cons_zero,X4]at a;subst a;rw[List.flatten_cons,Y2 (by rw[h _ (.head _)];omega)];simp
 |fo::r,h,i+1,j,c,a,e=>by
  simp only[List.getElem?_cons_succ]at a;have f:=h fo (.head _);rw[List.flatten_cons,Z7 (by rw[f,U7];omega),f,U7,show i*k+1*k+j-k=i*k+j by omega];exact pf (λx p=>h x (.tail _ p)) a e
 |[],_,i,_,c,a,_=>by simp at a
instance instList:av (List α) where
 n:=1
 rep m S R w cs l:=∃v,cs=[v]/\∃(vs:List (List x1))(g:Nat)(F:Nat->ah),Bp m S g F/\n1 m R F w vs l/\jw (λr=>S r\/R r) w (av.n α) v l.length vs.flatten/\
  (m=ro->(v= .slice ν 0 0\/S g)/\∃e,b0 w g e (av.n α) v l.length vs.flatten)
 len:=by rintro m S R w cs a ⟨v,rfl,_⟩;rfl
 one:=by
  rintro m S R w cs a ⟨v,rfl,vs,g,F,_,_,⟨_,_,_,_,_,rfl,_⟩,_⟩ u hu;simp at hu;subst hu;rfl
 V:=by
  rintro m S R T w I cs a ⟨v,rfl,vs,g,F,ac,he,J,hm⟩ z q;refine⟨v,rfl,vs,g,F,ac,⟨he.1,λi c a x y=>av.V (he.2 i c a x y) z λr p h=>q r p (h.imp (ac.sub i r) id)⟩,J.V z q,λh=>?_⟩;obtain⟨h1,e,f⟩:=hm h;refine⟨h1,e,?_⟩;rcases h1 with rfl|h1
  .obtain⟨B,⟨_,s⟩|⟨_,_,s,_⟩⟩:=f
   .exact⟨B,.inl ⟨rfl,s⟩⟩
   .cases s
  .exact f.V z λp=>q g p (.inl h1)
 Y:=by
  rintro m S S' R R' w cs a ⟨v,rfl,vs,g,F,ac,he,J,hm⟩ q A;refine⟨v,rfl,vs,g,λi r=>F i r/\r<w.heap.size,⟨λi r h=>q r h.2 (ac.sub i r h.1),λh i f=>ac.top h i f.1,λh i j r C h1 f=>ac.gX h i j r C h1.1 f.1⟩,
   ⟨he.1,λi c a x y=>av.Y (he.2 i c a x y) (λr p h=>⟨h,p⟩) A⟩,J.Y λr p h=>h.imp (q r p) (A r p),λh=>?_⟩
  obtain⟨h1,e,f⟩:=hm h;refine⟨?_,e,f⟩;obtain⟨_,⟨s,_⟩|⟨_,_,s,E,_⟩⟩:=f
  .exact .inl s
  .rcases h1 with h1|h1
   .exact .inl h1
   .exact .inr (q g E.lt h1)
 jg:=by
  rintro m S R w cs a ⟨v,rfl,vs,g,F,ac,he,J,hm⟩;exact⟨v,rfl,vs,g,λ_ _=>False,⟨λ_ _ h=>h,(λh=>by cases h),λh=>by cases h⟩,
   ⟨he.1,λi c a x y=>av.Y (av.jg (he.2 i c a x y)) (λ_ _ h=>h) λr _ h=>h.imp (ac.sub i r) id⟩,J.Y λr _ h=>.inr h,λh=>by cases h⟩
end
section
variable{P:V5}{w:x4}{α β:Type}[av α][av β]{m:Bool}{S R:ah}
theorem kA{l:List α}(h:av.rep m S R w [v] l):∃(vs:List (List x1))(g:Nat)(F:Nat->ah),Bp m S g F/\n1 m R F w vs l/\jw (λr=>S r\/R r) w (av.n α) v l.length vs.flatten/\
  (m=ro->(v= .slice ν 0 0\/S g)/\∃e,b0 w g e (av.n α) v l.length vs.flatten):=by
 obtain⟨_,a,h⟩:=h;cases a;exact h
theorem gY{a:α}(h:av.rep m S R w [v] a):v.oneCell'=ro:=av.one h v (.head _)
theorem rt{l:List α}(h:av.rep m S R w [v] l):v.cells= #[v]:=by
 obtain⟨_,_,_,_,_,⟨_,_,_,_,_,rfl,_⟩,_⟩:=kA h;rfl
theorem tK{l:List α}(h:av.rep m S R w [v] l):l.length<=9223372036854775807:=by
 obtain⟨_,_,_,_,_,h,_⟩:=kA h;have:=h.sl.le;simpa[maxLen]using this
theorem iM:av.rep m S R w [.slice ν 0 0] ([]:List α):=
 ⟨_,rfl,[],0,λ_ _=>False,⟨λ_ _ h=>h.elim,λ_ _ h=>h,λ_ _ _ _ _ h=>h.elim⟩,⟨rfl,λi c a e=>by simp at e⟩,
  ⟨Ξ,0,0,ν,0,rfl,p8 _,X7 _,λh=>m6 h (Nat.lt_irrefl _),λh=>by simp at h,λj v h=>by simp at h⟩,
  λ_=>⟨.inl rfl,0,b0.nil w 0 0 _⟩⟩
theorem Bq{F:Nat->ah}{vs:List (List x1)}(h:n1 m R F w vs l):vs.flatten=ints .i64 l:=by
 have:vs=l.map λx=>[U6 .i64 x]:=by
  apply List.ext_getElem
  .simp[h.1]
  .intro i h1 a;have e:i<l.length:=by simpa using a
   have:=h.2 i _ _ (x7 h1) (x7 e);rw[List.getElem_map];exact this
 subst this;clear h;induction l with
 |nil=>rfl
 |cons x l f=>simp only[T3,List.flatten_cons,f];rfl
theorem dQ(h:av.rep m S R w [v] l):aM .i64 w v l:=by
 obtain⟨vs,g,F,_,he,J,_⟩:=kA h;have:=J.sl;rw[Bq he]at this;exact this
theorem ka{a:p9}{l:List α}(f:P.underlying t=σ (.slice e))(h:av.rep m S R w [v] l):
  ab P (V7 #[t] a #[v]) w K=K (Δ l.length):=by
 obtain⟨_,_,_,_,_,⟨_,_,_,_,_,rfl,_⟩,_⟩:=kA h;exact iL f
theorem mp{x:o7}{i b:Nat}{l:List α}{a:α}(A:y=(i:Int))(B:P.underlying t=σ (.slice e))(hi:aP P e (av.n α) b z)(h:av.rep m S R w [v] l)(f:l[i]?=σ a)(C:∀b o cs,w.rangeAt b o cs->av.rep m S R w cs a->K (.pointer (σ ⟨b,o,ν⟩))):ab P (Z0 t v (.int x y)) w K:=by
 subst A;obtain⟨vs,g,F,ac,he,⟨_,b,o,base,cap,rfl,_,_,E,_,G⟩,_⟩:=kA h;have p:=(x5.1 f).1;rw[fd B hi p E];obtain⟨c,q⟩:∃c,vs[i]?=σ c:=⟨_,x7 (by rw[he.1];exact p)⟩;have s:=he.2 i c a q f;have H:=av.len s;refine C _ _ c (λj u hu=>?_) (av.Y s (λr _ h=>ac.sub i r h) λ_ _ h=>h);have I:=(x5.1 hu).1;rw[R5];refine G (i*av.n α+j) u ?_;rw[pf he.len q Ω];exact hu
theorem jx{q:o7}{i b:Nat}{l:List α}{a:α}(r:av.n α=1)(s:y=(i:Int))(x:P.underlying t=σ (.slice e))(hi:aP P e (av.n α) b z)(h1:k2 P e=ro)(h:av.rep m S R w [v] l)(A:l[i]?=σ a)(B:∀u,av.rep m S R w [u] a->K u):
  ab P (Z0 t v (.int q y)) w λp=>ab P (u5 e p) w K:=by
 refine mp s x hi h A λb o cs C f=>?_;have j:=av.len f;rw[r]at j;obtain⟨u,rfl⟩:=V6.1 j;rw[aD h1 (by have:=C 0 u rfl;simpa using this)];exact B u f
theorem n2{pl:List (Nat×Nat)}{j:o7}{i b:Nat}{l:List α}{a:α}(hu:bE P e pl)(q:y=(i:Int))(r:P.underlying t=σ (.slice e))(hi:aP P e (av.n α) b z)(h:av.rep m S R w [v] l)(s:l[i]?=σ a)(x:∀cs,av.rep m S R w cs a->K (.agg cs.toArray)):
  ab P (Z0 t v (.int j y)) w λp=>ab P (u5 e p) w K:=by
 refine mp q r hi h s λb o cs A f=>?_;rw[bA hu hi (av.len f) A];exact x cs f
theorem qj{g:Nat}{k:Nat}(h:b0 w g e k v n xs)(f:v= .slice ν 0 0\/S g):jw S w k v n xs:=by
 obtain⟨h1,⟨rfl,rfl⟩|⟨cap,cs,rfl,p,q,r,x,s⟩⟩:=h
 .have:xs=[]:=c9 (by simpa using h1);subst this;exact⟨Ξ,0,0,ν,0,rfl,p8 _,X7 _,λh=>m6 h (Nat.lt_irrefl _),λh=>by simp at h,λj v h=>by simp at h⟩
 .refine⟨h1,g,0,_,cap,rfl,q,r,λ_=>rfl,λ_=>f.resolve_left Ξ,λj v a=>?_⟩;rw[W0];have y:=(x5.1 a).1;rw[<-s,Y7 Ω]at a;exact p.cell a
open Classical in
theorem K9{U Y Z:p9}{b:Nat}{x:x1}{us:List (List x1)}{l e0:List α}{G:Nat->ah}{K:x1->x4->Prop}(aa:P.underlying t=σ (.slice e))(ab:P.underlying U=σ (.slice Y))(hi:aP P e (av.n α) b z)(ad:z.cells.size=av.n α)(h:bJ S R w [v] l)(ae:cg w (av.n α) x e0.length us.flatten)(L:n1 ro R G w us e0)(ag:∀i j r,i≠j->G i r->¬G j r)(C:∀r,r<w.heap.size->S r->(∀i,¬G i r)/\¬R r)(ai:(l.length+e0.length)*b<=140737488355328)(aj:l.length+e0.length<=9223372036854775807)(ak:∀p I,bJ (λr=>S r\/(∃i,G i r)\/w.heap.size<=r) R I [p] (l++e0)->af S w I->K p I):aH P (Y0 #[t,U] Z #[v,x]) w K:=by
 obtain⟨vs,g,F,ac,he,J,hm⟩:=kA h;obtain⟨M,ap,W⟩:=hm rfl;refine Bl aa ab hi ad W ae L.one ai (by simpa[maxLen]using aj) ?_;intro p E I al am N O;have Q:∀r,r=g/\v≠ .slice ν 0 0->S r:=λr ⟨h1,f⟩=>h1▸M.resolve_left f;have an:=W;have T:(p= .slice ν 0 0)\/(E=g/\S g/\g<w.heap.size)\/E=w.heap.size:=by
  rcases am with⟨h1,_,f|f⟩|⟨h1,_⟩
  .rcases M with s|s
   .exact .inl (f▸s)
   .obtain⟨_,⟨y,_⟩|⟨_,_,_,y,_⟩⟩:=an
    .exact .inl (f▸y)
    .exact .inr (.inl ⟨h1,s,y.lt⟩)
  .exact .inr (.inl ⟨h1,M.resolve_left f.2,f.1⟩)
  .exact .inr (.inr h1)
 refine ak p I ⟨p,rfl,vs++us,if p= .slice ν 0 0 then w.heap.size else E,λi r=>if i<l.length then F i r/\r<w.heap.size else G (i-l.length) r/\r<w.heap.size,⟨λi r h=>?_,λ_ i h=>?_,λ_ i j r ao h1 f=>?_⟩,⟨by simp[he.1,L.1],λi c a hi H=>?_⟩,?_,λ_=>⟨?_,al,?_⟩⟩ (O.Y λr _ h=>Q r h)
 .split at h
  .exact .inl (ac.sub i r h.1)
  .exact .inr (.inl ⟨_,h.1⟩)
 .have A:(if p= .slice ν 0 0 then w.heap.size else E)<w.heap.size:=by split at h<;>exact h.2
  split at A
  .omega
  .rename_i q;rw[m5 q]at h;rcases T with h1|⟨rfl,f,s⟩|h1
   .exact q h1
   .split at h
    .exact ac.top rfl i h.1
    .exact (C _ s f).1 _ h.1
   .omega
 .split at h1<;>split at f
  .exact ac.gX rfl i j r ao h1.1 f.1
  .exact (C r h1.2 (ac.sub i r h1.1)).1 _ f.1
  .exact (C r h1.2 (ac.sub j r f.1)).1 _ h1.1
  .exact ag (i-l.length) (j-l.length) r Ω h1.1 f.1
 .have X:∀r,r<w.heap.size->R r->¬(r=g/\v≠ .slice ν 0 0):=λr B h1 f=>(C r B (Q r f)).2 h1;by_cases A:i<l.length
  .rw[Y2 (by rw[he.1];exact A)]at hi;rw[Y2 A]at H;simp only[m3 A];refine av.V (n0 (he.2 i c a hi H)) O λr B h1 f=>?_;rcases h1 with h1|h1
   .exact ac.top rfl i (f.1▸h1.1)
   .exact X r B h1 f
  .rw[Z7 (by rw[he.1];omega),he.1]at hi;rw[Z7 Ω]at H;simp only[m5 A];refine av.V (n0 (L.2 _ c a hi H)) O λr B h1 f=>?_;rcases h1 with h1|h1
   .exact (C r B (Q r f)).1 _ h1.1
   .exact X r B h1 f
 .rw[r9,List.flatten_append];refine qj N ?_;rcases T with h1|⟨rfl,f,_⟩|rfl
  .exact .inl h1
  .exact .inr (.inl (.inl f))
  .exact .inr (.inl (.inr (.inr (p8 _))))
 .rcases T with h1|⟨rfl,f,_⟩|rfl
  .exact .inl h1
  .by_cases q:p= .slice ν 0 0
   .exact .inl q
   .rw[m5 q];exact .inr (.inl f)
  .split
   .exact .inr (.inr (.inr (p8 _)))
   .exact .inr (.inr (.inr (p8 _)))
 .rw[r9,List.flatten_append];by_cases q:p= .slice ν 0 0
  .subst q;obtain⟨s,⟨_,y⟩|⟨_,_,y,_⟩⟩:=N
   .exact⟨s,.inl ⟨rfl,y⟩⟩
   .cases y
  .rw[m5 q];exact N
theorem pg{F:p9}{b:Nat}{x:x1}{l:List α}{a:α}{A:ah}{K:x1->x4->Prop}(B:P.underlying t=σ (.slice e))(hi:aP P e (av.n α) b z)(H:z.cells.size=av.n α)(h:bJ S R w [v] l)(L:cg w (av.n α) x 1 cs)(M:bJ A R w cs a)(C:∀r,r<w.heap.size->S r->¬(A r\/R r))(f:(l.length+1)*b<=140737488355328)(N:l.length+1<=9223372036854775807)(O:∀p I,bJ (λr=>S r\/A r\/w.heap.size<=r) R I [p] (l++[a])->af S w I->K p I):aH P (Y0 #[t,t] F #[v,x]) w K:=by
 refine K9 (us:=[cs]) (G:=λi r=>i=0/\A r) B B hi H h (by simpa using L) ⟨rfl,λi c b q f=>?_⟩ (λi j r Q h1 s=>Q (h1.1.F s.1.symm)) (λr E J=>⟨λi h=>C r E J (.inl h.2),λh=>C r E J (.inr h)⟩) (by simpa using f) (by simpa using N)
  λp I h1 s=>O p I (av.Y h1 (λr _ h=>h.imp id (Or.imp (λ⟨_,h⟩=>h.2) id)) λ_ _ h=>h) s
 have y:=(x5.1 q).1;have y:i=0:=by simpa using y
 subst y;simp at q f;subst q f;exact av.Y M (λr _ h=>⟨rfl,h⟩) λ_ _ h=>h
end
theorem Br:∀(c:List x1)(i:Nat)(z:Array x1),(i+c.length<=z.size)->((c.zipIdx i).foldl (λcs (x:x1×Nat)=>cs.setIfInBounds x.2 x.1) z).toList=z.toList.take i++c++z.toList.drop (i+c.length)
 |[],i,z,h=>Ξ
 |x::r,i,z,h=>by
  simp only[Z4]at h;rw[List.zipIdx_cons,V8,Br r (i+1) _ Θ];simp only[Array.toList_setIfInBounds,Z4];rw[List.drop_set_of_lt Ω,List.take_set,r8,x7 Θ];simp only[o9];rw[T4 _ _ Θ];have e:i-(z.toList.take i).length=0:=Θ
  rw[e,show i+1+r.length=i+(r.length+1) by omega];simp
theorem Bs{k:Nat}{z:Array x1}(a:z.size=k)(e:v.cells.size=k):Instr.fill (λj=>σ (j*k,k)) z [(0,v)]=σ v.cells:=by
 have h:=Br v.cells.toList 0 z Θ;simp only[Instr.fill,Nat.zero_mul,W0];rw[m5 Θ];congr 1;apply Array.toList_inj.1;rw[<-Array.foldl_toList,Array.toList_zipIdx,h];simp;omega
section
variable{P:V5}{w:x4}{α β:Type}[av α][av β]{m:Bool}{S R:ah}
theorem lM{b:Nat}{x:x1}{a:α}{A:ah}{K:x1->x4->Prop}(C:P.underlying t=σ (.slice e))(hi:aP P e (av.n α) b z)(M:av.n α<=100000)(q:x.cells=cs.toArray)(s:bJ A R w cs a)(E:∀v I,Ext w I->bJ (λr=>A r\/w.heap.size<=r) R I [v] [a]->cg I (av.n α) v 1 cs->K v I):aH P (X2 t 1 #[(0,x)]) w K:=by
 have F:=av.len s;refine lL C hi Ω (cs:=x.cells) (Bs Ξ (by rw[q];simpa using F)) λg I N y f=>?_;have f:ag I g e cs:=by rw[q]at f;simpa using f
 have hm:b0 I g e (av.n α) (.slice (σ ⟨g,0,ν⟩) 1 1) 1 cs:=b0.full f Ω (by simp[maxLen]);refine E _ I y ⟨_,rfl,[cs],g,λi r=>i=0/\A r/\r<w.heap.size,⟨λi r h=>.inl h.2.1,λ_ i h=>Ω,λ_ i j r G h1 H=>G (h1.1.F H.1.symm)⟩,⟨rfl,λi c a' p B=>?_⟩,?_,λ_=>⟨.inr (.inr Ω),e,by simpa using hm⟩⟩ hm.sl
 .have J:i=0:=by simpa using(x5.1 p).1
  subst J;simp at p B;subst p B;exact bS (av.Y s (λr L h=>⟨rfl,h,L⟩) λ_ _ h=>h) y
 .have:=qj (S:=λr=>(A r\/w.heap.size<=r)\/R r) hm (.inr (.inl (.inr Ω)));simpa using this
end
theorem bZ.range{B:x1->x4->(x1->x4->Prop)->Prop}(n:Nat)(a:Nat->x4->Prop)(q:n<=9223372036854775807)(f:a 0 w)(j:∀(i:Nat)(w:x4)(k:x1->x4->Prop),i<n->a i w->(∀I,a (i+1) I->k (Δ (W6.wrap ((i:Int)+1))) I)->B (Δ (i:Int)) w k)(p:∀(w:x4)(k:x1->x4->Prop),a n w->B (Δ (n:Int)) w k):bZ (Δ 0) w B:=by
 refine⟨λt w=>∃i:Nat,t=Δ (i:Int)/\i<=n/\a i w,λt _=>n-(bU t).toNat,⟨0,rfl,X7 _,f⟩,?_⟩;rintro _ w ⟨i,rfl,hi,h⟩;by_cases e:i<n
 .refine j i w _ e h λI aW=>⟨⟨i+1,?_,e,aW⟩,?_⟩
  .rw[li Ω Ω];rfl
  .rw[li Ω Ω];simp only[bU];omega
 .have:i=n:=Ω
  subst this;exact p w _ h
theorem cb.range{a:x1}{B:x1->x1->x4->(x1->x1->x4->Prop)->Prop}(n:Nat)(e:Nat->x1->x4->Prop)(r:n<=9223372036854775807)(j:e 0 a w)(p:∀(i:Nat)(a:x1)(w:x4)(k:x1->x1->x4->Prop),i<n->e i a w->(∀a' I,e (i+1) a' I->k a' (Δ (W6.wrap ((i:Int)+1))) I)->B a (Δ (i:Int)) w k)(q:∀(a:x1)(w:x4)(k:x1->x1->x4->Prop),e n a w->B a (Δ (n:Int)) w k):cb a (Δ 0) w B:=by
 refine⟨λa t w=>∃i:Nat,t=Δ (i:Int)/\i<=n/\e i a w,λa t _=>n-(bU t).toNat,⟨0,rfl,X7 _,j⟩,?_⟩;rintro a _ w ⟨i,rfl,hi,h⟩;by_cases f:i<n
 .refine p i a w _ f h λa' I aW=>⟨⟨i+1,?_,f,aW⟩,?_⟩
  .rw[li Ω Ω];rfl
  .rw[li Ω Ω];simp only[bU];omega
 .have:i=n:=Ω
  subst this;exact q a w _ h
theorem lG.range{a b:x1}{B:x1->x1->x1->x4->(x1->x1->x1->x4->Prop)->Prop}(n:Nat)(e:Nat->x1->x1->x4->Prop)(s:n<=9223372036854775807)(p:e 0 a b w)(q:∀(i:Nat)(a b:x1)(w:x4)(k:x1->x1->x1->x4->Prop),i<n->e i a b w->(∀a' f I,e (i+1) a' f I->k a' f (Δ (W6.wrap ((i:Int)+1))) I)->B a b (Δ (i:Int)) w k)(r:∀(a b:x1)(w:x4)(k:x1->x1->x1->x4->Prop),e n a b w->B a b (Δ (n:Int)) w k):lG a b (Δ 0) w B:=by
 refine⟨λa b t w=>∃i:Nat,t=Δ (i:Int)/\i<=n/\e i a b w,λa b t _=>n-(bU t).toNat,⟨0,rfl,X7 _,p⟩,?_⟩;rintro a b _ w ⟨i,rfl,hi,h⟩;by_cases j:i<n
 .refine q i a b w _ j h λa' f I aW=>⟨⟨i+1,?_,j,aW⟩,?_⟩
  .rw[li Ω Ω];rfl
  .rw[li Ω Ω];simp only[bU];omega
 .have:i=n:=Ω
  subst this;exact r a b w _ h
theorem ra.range{a b c:x1}{B:x1->x1->x1->x1->x4->(x1->x1->x1->x1->x4->Prop)->Prop}(n:Nat)(e:Nat->x1->x1->x1->x4->Prop)(x:n<=9223372036854775807)(q:e 0 a b c w)(r:∀(i:Nat)(a b c:x1)(w:x4)(k:x1->x1->x1->x1->x4->Prop),i<n->e i a b c w->(∀a' f j I,e (i+1) a' f j I->k a' f j (Δ (W6.wrap ((i:Int)+1))) I)->B a b c (Δ (i:Int)) w k)(s:∀(a b c:x1)(w:x4)(k:x1->x1->x1->x1->x4->Prop),e n a b c w->B a b c (Δ (n:Int)) w k):ra a b c (Δ 0) w B:=by
 refine⟨λa b c t w=>∃i:Nat,t=Δ (i:Int)/\i<=n/\e i a b c w,λa b c t _=>n-(bU t).toNat,⟨0,rfl,X7 _,q⟩,?_⟩;rintro a b c _ w ⟨i,rfl,hi,h⟩;by_cases p:i<n
 .refine r i a b c w _ p h λa' f j I aW=>⟨⟨i+1,?_,p,aW⟩,?_⟩
  .rw[li Ω Ω];rfl
  .rw[li Ω Ω];simp only[bU];omega
 .have:i=n:=Ω
  subst this;exact s a b c w _ h
theorem rb.range{a b c d:x1}{B:x1->x1->x1->x1->x1->x4->(x1->x1->x1->x1->x1->x4->Prop)->Prop}(n:Nat)(e:Nat->x1->x1->x1->x1->x4->Prop)(y:n<=9223372036854775807)(r:e 0 a b c d w)(s:∀(i:Nat)(a b c d:x1)(w:x4)(k:x1->x1->x1->x1->x1->x4->Prop),i<n->e i a b c d w->(∀a' f j p I,e (i+1) a' f j p I->k a' f j p (Δ (W6.wrap ((i:Int)+1))) I)->B a b c d (Δ (i:Int)) w k)(x:∀(a b c d:x1)(w:x4)(k:x1->x1->x1->x1->x1->x4->Prop),e n a b c d w->B a b c d (Δ (n:Int)) w k):rb a b c d (Δ 0) w B:=by
 refine⟨λa b c d t w=>∃i:Nat,t=Δ (i:Int)/\i<=n/\e i a b c d w,λa b c d t _=>n-(bU t).toNat,⟨0,rfl,X7 _,r⟩,?_⟩;rintro a b c d _ w ⟨i,rfl,hi,h⟩;by_cases q:i<n
 .refine s i a b c d w _ q h λa' f j p I aW=>⟨⟨i+1,?_,q,aW⟩,?_⟩
  .rw[li Ω Ω];rfl
  .rw[li Ω Ω];simp only[bU];omega
 .have:i=n:=Ω
  subst this;exact x a b c d w _ h
section
variable{P:V5}{w:x4}{m:Bool}{S R:ah}
theorem La(l:Λ):(l.map λx=>[U6 k x]).flatten=ints k l:=by
 induction l with
 |nil=>rfl
 |cons x l a=>simp only[T3,List.flatten_cons,a];rfl
theorem ph{g:Nat}(h:aA .i64 e w g v l):bJ (λr=>r=g) R w [v] l:=by
 have j:(l.map λx=>[U6 .i64 x]).flatten=ints .i64 l:=La l;refine⟨v,rfl,l.map λx=>[Δ x],g,λ_ _=>False,⟨λ_ _ h=>h.elim,λ_ _ h=>h,λ_ _ _ _ _ h=>h.elim⟩,⟨Ξ,λi c a f p=>?_⟩,?_,λ_=>⟨.inr rfl,e,?_⟩⟩
 .rw[v8,p]at f;simp at f;exact f.symm
 .rw[j];exact qj h (.inr (.inl rfl))
 .rw[j];exact h
def np.val(x:np k):Int:=x
theorem Bt(h:bJ S R w [v] l):∃g e,aA .i64 e w g v l/\(v= .slice ν 0 0\/S g):=by
 obtain⟨vs,g,F,_,he,J,hm⟩:=kA h;obtain⟨h1,e,a⟩:=hm rfl;rw[Bq he]at a;exact⟨g,e,a,h1⟩
end
end Go.Vc
namespace Go.Proofs.YtnhkbjhpbbobaaaGreatDoor
open Go Go.Vc Go.RowKit Go.Proofs Go.Proofs.Tryz
set_option maxRecDepth 100000
def right(k:Int):Prop:=1<=k/\k<=2147483648
def cC(a k:Int):Prop:=right k/\0<=a/\a<=k
instance (k:Int):Decidable (right k):=by unfold right;infer_instance
instance (a k:Int):Decidable (cC a k):=by unfold cC;infer_instance
theorem Bu{k:Int}:al x8 Kj [Δ k] w λv I=>v= .bool (decide (right k))/\Ext w I:=by
 refine aB func229 ?_;simp only[cv,cH,nh,ak];refine⟨λh=>⟨?_,Ext.refl _⟩,λh=>⟨?_,Ext.refl _⟩⟩
 .congr 1;simp[right,h]
 .rw[ms];intro a;exact h a.1
theorem k4{k:Int}:al x8 J9 [Δ a,Δ k] w λv I=>v= .bool (decide (cC a k))/\Ext w I:=by
 refine aB func212 ?_;simp only[cv];refine Bu.Y ?_;rintro _ U _ ⟨rfl,e⟩;simp only[cH,nh,ak];refine⟨λh=>⟨λf=>⟨?_,e⟩,λf=>⟨?_,e⟩⟩,λh=>⟨?_,e⟩⟩
 .congr 1;simp[cC,h,f]
 .rw[ms];intro j;exact f j.2.1
 .rw[ms];intro j;exact h j.1
theorem Lb{k:Int}:al x8 J7 [Δ k] w λv I=>v= .bool (decide (right k))/\Ext w I:=by
 refine aB func210 ?_;simp only[cv,bO,nh,ak];refine⟨λh=>⟨?_,Ext.refl _⟩,λh=>⟨?_,Ext.refl _⟩⟩
 .congr 1;have aW:1<=k:=Ω
  simp[right,aW]
 .rw[ms];intro a;have:=a.1;omega
theorem Bv{k:Int}:al x8 Jg [Δ a,Δ k] w λv I=>v= .bool (decide (cC a k))/\Ext w I:=by
 refine aB func141 ?_;simp only[cv];refine Lb.Y ?_;rintro _ U _ ⟨rfl,e⟩;simp only[cH,nh,ak];refine⟨λh=>⟨λf=>⟨?_,e⟩,λf=>⟨?_,e⟩⟩,λh=>⟨?_,e⟩⟩
 .congr 1;simp[cC,h,f]
 .rw[ms];intro j;exact f j.2.1
 .rw[ms];intro j;exact h j.1
def aQ:Λ->Int
 |[]=>1
 |x::r=>x*aQ r
theorem Bw:∀(a b:Λ),aQ (a++b)=aQ a*aQ b
 |[],b=>by simp[aQ]
 |x::a,b=>by simp[aQ,Bw a b,Int.mul_assoc]
theorem tL{i:Nat}{x:Int}(h:l[i]?=σ x):aQ (l.take (i+1))=aQ (l.take i)*x:=by
 rw[r8,h,Bw];simp[aQ]
def ca(l:Λ):Prop:=l.length<=6/\∀x∈l,1<=x/\x<=32
theorem ca.take(h:ca l)(i:Nat):ca (l.take i):=⟨by rw[o8];have:=h.1;omega,λx a=>h.2 x (U3 a)⟩
theorem ca.drop(h:ca l)(i:Nat):ca (l.drop i):=⟨by rw[List.length_drop];have:=h.1;omega,λx a=>h.2 x (List.mem_of_mem_drop a)⟩
theorem n3:∀(l:Λ),(∀x∈l,1<=x/\x<=32)->1<=aQ l/\aQ l<=32 ^ l.length
 |[],_=>by simp[aQ]
 |x::r,h=>by
  obtain⟨h1,a⟩:=n3 r λy e=>h y (.tail _ e);obtain⟨f,j⟩:=h x (.head _);simp only[aQ,Z4];constructor
  .have:=Int.mul_le_mul f h1 Ω Ω;simpa using this
  .have:=Int.mul_le_mul j a Ω Ω;rw[Int.pow_succ];rw[Int.mul_comm (32 ^ r.length) 32];exact this
theorem prod_bound(h:ca l):1<=aQ l/\aQ l<=1073741824:=by
 obtain⟨h1,a⟩:=n3 l h.2;refine⟨h1,Int.le_trans a ?_⟩;have:(32:Int) ^ l.length<=32 ^ 6:=by
  have e:=h.1
  match l.length,e with
  |0,_=>decide
  |1,_=>decide
  |2,_=>decide
  |3,_=>decide
  |4,_=>decide
  |5,_=>decide
  |6,_=>decide
 simpa using this
def cz:Λ->Λ->Int->Option Int
 |[],[],n=>σ n
 |k::s,v::t,n=>if 0<=v/\v<k then cz s t (n*k+v)else ν
 |_,_,_=>ν
theorem wX:∀(s t:Λ)(n:Int),s.length≠t.length->cz s t n=ν
 |[],[],_,h=>m6 rfl h
 |[],_::_,_,_=>rfl
 |_::_,[],_,_=>rfl
 |k::s,v::t,n,h=>by
  unfold cz;split
  .exact wX s t _ (by simpa using h)
  .rfl
def de:Λ->Int->Λ
 |[],_=>[]
 |k::s,n=>(n / aQ s) % k::de s n
theorem kB:∀(s:Λ)(n:Int),(de s n).length=s.length
 |[],_=>rfl
 |_::s,n=>by simp[de,kB s n]
theorem Bx:∀{s:Λ}{n:Int}{i:Nat}{k:Int},s[i]?=σ k->(de s n)[i]?=σ ((n / aQ (s.drop (i+1))) % k)
 |a::s,n,0,k,h=>by simp at h;subst h;simp[de]
 |a::s,n,i+1,k,h=>by
  simp only[List.getElem?_cons_succ]at h;simp only[de,List.getElem?_cons_succ,List.drop_succ_cons];exact Bx h
theorem pi:∀{s t:Λ}{m n:Int},(∀x∈s,1<=x/\x<=32)->cz s t m=σ n->m*aQ s<=n/\n<(m+1)*aQ s
 |[],[],m,n,_,h=>by simp[cz]at h;subst h;simp[aQ];omega
 |k::s,v::t,m,n,J,h=>by
  unfold cz at h;split at h
  .rename_i p;have e:=pi (λx a=>J x (.tail _ a)) h;have ac:=(n3 s λx a=>J x (.tail _ a)).1;simp only[aQ];have f:m*(k*aQ s)=m*k*aQ s:=(Int.mul_assoc _ _ _).symm;have j:(m+1)*(k*aQ s)=(m*k+k)*aQ s:=by rw[<-Int.mul_assoc,Int.add_mul,Int.one_mul]
   rw[f,j];constructor
   .refine Int.le_trans ?_ e.1;exact Int.mul_le_mul_of_nonneg_right Ω Ω
   .refine Int.lt_of_lt_of_le e.2 ?_;exact Int.mul_le_mul_of_nonneg_right Ω Ω
  .cases h
 |[],_::_,_,_,_,h=>by cases h
 |_::_,[],_,_,_,h=>by cases h
def bp:Λ->List (Λ)
 |[]=>[[]]
 |k::s=>(W3 k.toNat).flatMap λ(v:Nat)=>(bp s).map λt=>(v:Int)::t
theorem jy:∀{s:Λ},(∀x∈s,1<=x/\x<=32)->(bp s).length=(aQ s).toNat
 |[],_=>rfl
 |k::s,h=>by
  have e:=jy λx a=>h x (.tail _ a);have hk:=h k (.head _);have ac:=(n3 s λx a=>h x (.tail _ a)).1;simp only[bp,aQ,List.length_flatMap,u9,e];rw[List.map_const',List.length_range,List.sum_replicate_nat,Int.toNat_mul Ω Ω]
theorem tM:∀{s x:Λ},x∈bp s->x.length=s.length
 |[],x,h=>by simp[bp]at h;subst h;rfl
 |k::s,x,h=>by
  simp only[bp,List.mem_flatMap,j0]at h;obtain⟨v,_,t,a,rfl⟩:=h;simp[tM a]
theorem tN{s x:Λ}(h:(bp s)[j]?=σ x):x.length=s.length:=tM (x6 h)
theorem qk(h:aM .i64 w sv l)(J:ca l):
  al x8 IS [.agg #[sv]] w λv I=>v=Δ (aQ l)/\Ext w I:=by
 refine aB func96 ?_;refine bo λg w0 q f j=>?_;rw[aL bD.p 0 j rfl,aY aq.u (h.W f)];refine⟨λn t U=>Ext w U/\∃i:Nat,t=Δ i/\i<=l.length/\n=Δ (aQ (l.take i)),λ_ t _=>l.length-(bU t).toNat,⟨f,0,rfl,X7 _,rfl⟩,?_⟩;rintro _ _ U ⟨a,i,rfl,hi,rfl⟩;have r:=J.1;simp only[aR,ak];refine⟨λs=>?_,λy=>⟨?_,a⟩⟩
 .obtain⟨x,e⟩:=aF (l:=l) (i:=i) Ω;rw[bi aq.u aj.i Ψ (h.W a) e];have ac:=prod_bound (J.take (i+1));rw[tL e]at ac;simp only[gW,aO];rw[li Ω Ω,li Ω Ω,<-tL e];refine⟨⟨a,i+1,rfl,Ω,rfl⟩,?_⟩;simp only[bU];omega
 .have:i=l.length:=Ω
  rw[this,o6]
theorem Lc{i:Nat}(h:aM .i64 w sv l)(J:ca l)(hi:i<l.length):
  al x8 Jw [.agg #[sv],Δ i] w λv I=>v=Δ (aQ (l.drop (i+1)))/\Ext w I:=by
 have A:=J.1;refine aB func160 ?_;refine bo λg w0 B e f=>?_;have a:=h.W e;simp only[cv,aR,ak];refine⟨λC=>Ω,λ_=>?_⟩;rw[aL bD.p 0 f rfl,aY aq.u a];simp only[cH,ak];refine⟨λE=>Ω,λ_=>?_⟩;rw[aL bD.p 0 f rfl];simp only[aO];have j:W6.wrap ((i:Int)+1)=((i+1:Nat):Int):=by rw[li Ω Ω];omega
 rw[j];have r:=a;obtain⟨_,b,o,base,cap,rfl,G,H,K,L⟩:=id a;rw[gH aq.u aj.i o2 j8 e2 Ω Ω Ω];have ac:=cg.part (l:=i+1) (h:=l.length) (m:=cap) r Ω Ω Ω Ω;generalize s:(x1.slice (if cap=i+1 then base else T0 (λx=>x.add ((i+1)*1)) base) (l.length-(i+1)) (cap-(i+1)))=q at ac ⊢;have y:((ints .i64 l).drop ((i+1)*1)).take ((l.length-(i+1))*1)=ints .i64 (l.drop (i+1)):=by
  rw[j5 Ξ,T5,ints,<-List.map_drop]
 rw[y]at ac;rw[di (cs:=#[q]) (by subst s;kernel_rfl)];refine(qk (aM.of ac) (J.drop (i+1))).Y ?_;rintro _ aa _ ⟨rfl,z⟩;exact⟨rfl,e.F z⟩
def mq(s t:Λ):x1:=match cz s t 0 with
 |some n=>.tuple #[Δ n,Δ 0]
 |none=>.tuple #[Δ 0,Δ 3]
theorem By{s t:Λ}(h:aM .i64 w sv s)(q:aM .i64 w aS t)(J:ca s):
  al x8 Ju [.agg #[sv],aS] w λv I=>v=mq s t/\Ext w I:=by
 have H:=J.1;refine aB func157 ?_;refine bo λg w0 K e r=>?_;rw[aY aq.u (q.W e),aL bD.p 0 r rfl,aY aq.u (h.W e)];simp only[bF,ak];refine⟨λL=>⟨?_,e⟩,λz=>?_⟩
 .unfold mq;rw[wX _ _ _ Ω]
 .have z:s.length=t.length:=Ω
  rw[aY aq.u (q.W e)];refine⟨λ_ _ n c U=>Ext w0 U/\∃(i:Nat)(m:Int),c=Δ i/\i<=t.length/\n=Δ m/\0<=m/\m<aQ (s.take i)/\cz s t 0=cz (s.drop i) (t.drop i) m,λ_ _ _ c _=>t.length-(bU c).toNat,
   ⟨Ext.refl _,0,0,rfl,X7 _,rfl,S8 _,by simp[aQ],rfl⟩,?_⟩
  rintro _ _ _ _ U ⟨j,i,m,rfl,hi,rfl,A,M,f⟩;have a:=e.F j;simp only[aR,ak];refine⟨λN=>?_,λO=>⟨?_,a⟩⟩
  .obtain⟨v,B,C⟩:∃v,t[i]?=σ v/\t.drop i=v::t.drop (i+1):=⟨t[i],x7 Ω,X8 Ω⟩;obtain⟨k,hk,E⟩:∃k,s[i]?=σ k/\s.drop i=k::s.drop (i+1):=⟨s[i],x7 Ω,X8 Ω⟩;rw[C,E]at f;have ac:=prod_bound (J.take (i+1));have P:=prod_bound (J.take i);have Q:=J.2 k (x6 hk);rw[tL hk]at ac;have y:¬(0<=v/\v<k)->mq s t= .tuple #[Δ 0,Δ 3]:=λG=>by unfold mq;rw[f];simp[cz,G]
   rw[bi aq.u aj.i Ψ (q.W a) B];simp only[cv,aR,ak,bH];refine⟨λR=>⟨(y Ω).symm,a⟩,λS=>?_⟩;rw[aL bD.p 0 (r.W j) rfl,bi aq.u aj.i Ψ (h.W a) hk];simp only[cH,ak];refine⟨λV=>⟨(y Ω).symm,a⟩,λW=>?_⟩;rw[aL bD.p 0 (r.W j) rfl,bi aq.u aj.i Ψ (h.W a) hk];have X:0<=m*k/\m*k+k<=aQ (s.take i)*k:=by
    constructor
    .exact Int.mul_nonneg A Ω
    .have:=Int.mul_le_mul_of_nonneg_right (show m+1<=aQ (s.take i) by omega) (show 0<=k by omega);rw[Int.add_mul,Int.one_mul]at this;exact this
   simp only[gW,aO];rw[li (x:=m*k) Ω Ω,li (x:=m*k+v) Ω Ω,li Ω Ω];refine⟨⟨j,i+1,m*k+v,rfl,Ω,rfl,Ω,by rw[tL hk];omega,?_⟩,?_⟩
   .rw[f];simp[cz,show 0<=v/\v<k from⟨Ω,Ω⟩]
   .simp only[bU];omega
  .have:i=t.length:=Ω
   rw[this,List.drop_of_length_le Ω,List.drop_of_length_le Ω]at f;unfold mq;rw[f];rfl
theorem Ld{e:Nat}{a b:Λ}(h1:cg w 1 s1 e (ints .i64 a))(A:cg w 1 z j (ints .i64 b)):
  al x8 AX [s1,z] w λv I=>v= .bool (decide (a=b))/\Ext w I:=by
 have P:a.length=e:=by simpa using h1.1
 have Q:b.length=j:=by simpa using A.1
 have B:=h1.le;obtain⟨_,R,S,V,W,rfl,X,Y,G,H⟩:=h1;obtain⟨_,Z,ab,ac,ad,rfl,ae,af,J,K⟩:=A;refine aB func186 ?_;simp only[iL aq.u,bF,ak];refine⟨λC=>⟨?_,Ext.refl _⟩,λE=>?_⟩
 .rw[ms];rintro rfl;omega
 .have E:e=j:=Ω
  refine⟨λt4 p U=>Ext w U/\∃i:Nat,p=Δ i/\i<=e/\a.take i=b.take i,λ_ p _=>e-(bU p).toNat,⟨Ext.refl _,0,rfl,X7 _,rfl⟩,?_⟩;rintro t4 _ U ⟨f,i,rfl,hi,q⟩;simp only[aR,ak,eH];refine⟨λr aa L _ _=>?_,λag=>⟨?_,f⟩⟩
  .have r:i<e:=Ω
   have f:=f.F L;obtain⟨x,s⟩:=aF (l:=a) (i:=i) Ω;obtain⟨y,h⟩:=aF (l:=b) (i:=i) Ω;have M:=j2 f (H i _ (mo s));have N:=j2 f (K i _ (mo h));rw[fd aq.u aj.i r G,T5,aD Ψ M,fd aq.u aj.i (E▸r) J,T5,aD Ψ N];simp only[bF,ak,aO];refine⟨λC=>⟨?_,f⟩,λah=>⟨⟨f,i+1,?_,Ω,wV q s h Ω⟩,?_⟩⟩
   .rw[ms];rintro rfl;rw[s]at h;cases h;exact C rfl
   .rw[li Ω (by simp only[maxLen]at B;omega)];rfl
   .rw[li Ω (by simp only[maxLen]at B;omega)];simp only[bU];omega
  .have O:i=e:=Ω
   subst O;rw[m7];rw[j5 Ω,j5 Ω]at q;exact q
theorem Le{s:x1}{a:Λ}(h1:cg w 1 s n (ints .i64 a))(B:n<=1000000):
  al x8 AJ [s] w λv I=>Ext w I/\∃g,w.heap.size<=g/\b0 I g aj 1 v n (ints .i64 a):=by
 have j:=h1;obtain⟨p,C,E,G,H,rfl,J,K,q,L⟩:=h1;refine aB func88 ?_;simp only[qh aq.u,bY];refine⟨λf=>⟨Ext.refl _,w.heap.size,p8 _,?_⟩,λ_=>?_⟩
 .have:n=0:=by
   rcases P8 n with h|h
   .exact h
   .rw[q h]at f;cases f
  subst this;have:ints .i64 a=[]:=c9 (by simpa using p);rw[this];exact b0.nil _ _ _ _
 .refine lL aq.u aj.i Ω (cs:=#[]) Ψ ?_;intro g U M e x;refine pe aq.u aq.u aj.i rfl (b0.full x rfl Ω) (j.W e) (rq _ _) Ω (by simp only[maxLen];omega) ?_;intro N y aa O z A;refine⟨e.then A (by rintro r P rfl;omega),y,?_,?_⟩
  .have:=e.size;omega
  .simpa using z
theorem Lf{e:Nat}{a b:Λ}(h1:cg w 1 s1 e (ints .i64 a))(A:cg w 1 z j (ints .i64 b)):
  al x8 AB [s1,z] w λv I=>v= .bool (decide (a=b))/\Ext w I:=by
 have P:a.length=e:=by simpa using h1.1
 have Q:b.length=j:=by simpa using A.1
 have B:=h1.le;obtain⟨_,R,S,V,W,rfl,X,Y,G,H⟩:=h1;obtain⟨_,Z,ab,ac,ad,rfl,ae,af,J,K⟩:=A;refine aB func21 ?_;simp only[iL ax.u,bF,ak];refine⟨λC=>⟨?_,Ext.refl _⟩,λE=>?_⟩
 .rw[ms];rintro rfl;omega
 .have E:e=j:=Ω
  refine⟨λt4 p U=>Ext w U/\∃i:Nat,p=Δ i/\i<=e/\a.take i=b.take i,λ_ p _=>e-(bU p).toNat,⟨Ext.refl _,0,rfl,X7 _,rfl⟩,?_⟩;rintro t4 _ U ⟨f,i,rfl,hi,q⟩;simp only[aR,ak,eH];refine⟨λr aa L _ _=>?_,λag=>⟨?_,f⟩⟩
  .have r:i<e:=Ω
   have f:=f.F L;obtain⟨x,s⟩:=aF (l:=a) (i:=i) Ω;obtain⟨y,h⟩:=aF (l:=b) (i:=i) Ω;have M:=j2 f (H i _ (mo s));have N:=j2 f (K i _ (mo h));rw[fd ax.u au.i r G,T5,aD Ψ M,fd ax.u au.i (E▸r) J,T5,aD Ψ N];simp only[bF,ak,aO];refine⟨λC=>⟨?_,f⟩,λah=>⟨⟨f,i+1,?_,Ω,wV q s h Ω⟩,?_⟩⟩
   .rw[ms];rintro rfl;rw[s]at h;cases h;exact C rfl
   .rw[li Ω (by simp only[maxLen]at B;omega)];rfl
   .rw[li Ω (by simp only[maxLen]at B;omega)];simp only[bU];omega
  .have O:i=e:=Ω
   subst O;rw[m7];rw[j5 Ω,j5 Ω]at q;exact q
theorem Lg{s:x1}{a:Λ}(h1:cg w 1 s n (ints .i64 a))(B:n<=1000000):
  al x8 AZ [s] w λv I=>Ext w I/\∃g,w.heap.size<=g/\b0 I g au 1 v n (ints .i64 a):=by
 have j:=h1;obtain⟨p,C,E,G,H,rfl,J,K,q,L⟩:=h1;refine aB func201 ?_;simp only[qh ax.u,bY];refine⟨λf=>⟨Ext.refl _,w.heap.size,p8 _,?_⟩,λ_=>?_⟩
 .have:n=0:=by
   rcases P8 n with h|h
   .exact h
   .rw[q h]at f;cases f
  subst this;have:ints .i64 a=[]:=c9 (by simpa using p);rw[this];exact b0.nil _ _ _ _
 .refine lL ax.u au.i Ω (cs:=#[]) Ψ ?_;intro g U M e x;refine pe ax.u ax.u au.i rfl (b0.full x rfl Ω) (j.W e) (rq _ _) Ω (by simp only[maxLen];omega) ?_;intro N y aa O z A;refine⟨e.then A (by rintro r P rfl;omega),y,?_,?_⟩
  .have:=e.size;omega
  .simpa using z
theorem Lh{e:x1}{a b:Λ}(h1:aM .i64 w s1 a)(f:aM .i64 w e b):
  al x8 AX [s1,e] w λv I=>v= .bool (decide (a=b))/\Ext w I:=Ld h1 f
theorem mr{s:x1}{a:Λ}(h1:aM .i64 w s a)(e:a.length<=1000000):
  al x8 AJ [s] w λv I=>Ext w I/\∃g,w.heap.size<=g/\aA .i64 aj I g v a:=Le h1 e
theorem tO{e:x1}{a b:Λ}(h1:aM .i64 w s1 a)(f:aM .i64 w e b):
  al x8 AB [s1,e] w λv I=>v= .bool (decide (a=b))/\Ext w I:=Lf h1 f
theorem wY{s:x1}{a:Λ}(h1:aM .i64 w s a)(e:a.length<=1000000):
  al x8 AZ [s] w λv I=>Ext w I/\∃g,w.heap.size<=g/\aA .i64 au I g v a:=Lg h1 e
theorem Li{n:Int}(h:aM .i64 w sv l)(J:ca l)(x:0<=n)(X:n<aQ l):
  al x8 IT [.agg #[sv],Δ n] w λv I=>Ext w I/\∃aS g,v= .tuple #[aS,Δ 0]/\w.heap.size<=g/\aA .i64 aj I g aS (de l n):=by
 have Y:=J.1;have Z:=prod_bound J;refine aB func97 ?_;refine bo λg w0 ab y a=>?_;have ac:=h.cells;simp only[cv,aR,ak];refine⟨λad=>Ω,λ_=>?_⟩;rw[bA bD.p bD.i rfl a.range];refine(qk (h.W y) J).Y ?_;rintro _ U _ ⟨rfl,f⟩;simp only[cH,ak];refine⟨λae=>Ω,λ_=>?_⟩;have j:=y.F f;rw[aL bD.p 0 (a.W f) rfl,aY aq.u (h.W j)];refine k3 aq.u aj.i Ω Ω ?_;intro E aa af z L;simp only[iL aq.u];have M:=j.F z;have s0:=y.size;have s1:=f.size;have ah:=a.lt;refine⟨λt q=>Ext w q/\Ext w0 q/\∃i:Nat,t=Δ i/\i<=l.length/\ag q E aj (ints .i64 ((de l n).take i++o4 (l.length-i) 0)),λt _=>l.length-(bU t).toNat,
  ⟨M,f.F z,0,rfl,X7 _,by simpa using L⟩,?_⟩
 rintro _ q ⟨A,B,i,rfl,hi,G⟩;simp only[aR,ak];refine⟨λC=>?_,λai=>?_⟩
 .have C:i<l.length:=Ω
  rw[bA bD.p bD.i rfl (a.W B).range];refine(Lc (h.W A) J C).Y ?_;rintro _ am _ ⟨rfl,N⟩;simp only[eH];intro an O _ _;have s:=N.F O;have H:=A.F s;obtain⟨k,hk⟩:∃k,l[i]?=σ k:=⟨l[i],x7 Ω⟩;have ao:=J.2 k (x6 hk);have ap:=prod_bound (J.drop (i+1));have P:0<=n / aQ (l.drop (i+1)):=Int.ediv_nonneg x Ω;have au:n / aQ (l.drop (i+1))<=n:=Int.ediv_le_self _ x;rw[o1 Ω,Int.tdiv_eq_ediv_of_nonneg x,li Ω Ω,
   aL bD.p 0 ((a.W B).W s) rfl,bi aq.u aj.i Ψ (h.W H) hk,
   tF Ω,Int.tmod_eq_emod_of_nonneg P,fd aq.u aj.i C (λ_=>rfl),T5]
  refine bq aj.i rfl rfl (G.W s) (by simp[kB];omega) ?_;intro av K aw Q;simp only[aO];rw[li Ω Ω];have ax:=z.size;have ay:=j.size;refine⟨⟨H.then K (by rintro r R rfl;omega),(B.F s).then K (by rintro r R rfl;omega),i+1,rfl,Ω,?_⟩,?_⟩
  .have S:=Bx (n:=n) hk;have e:(ints .i64 ((de l n).take i++o4 (l.length-i) 0)).set (0+i) (Δ (n / aQ (l.drop (i+1)) % k))=ints .i64 ((de l n).take (i+1)++o4 (l.length-(i+1)) 0):=by
    have V:((de l n).take i).length=i:=by rw[o8,kB];omega
    rw[W0,ints,<-T2];congr 1;rw[List.set_append,m5 Ω,V,W8,show l.length-i=(l.length-(i+1))+1 by omega,List.replicate_succ,List.set_cons_zero,r8,S];simp
   rw[<-e];exact Q
  .simp only[bU];omega
 .have W:i=l.length:=Ω
  subst W;refine⟨A,_,E,rfl,by have:=j.size;omega,aA.of (b0.full ?_ (by simp[ints,kB]) (by simp[maxLen];omega))⟩;have e:(de l n).take l.length++o4 (l.length-l.length) 0=de l n:=by rw[W8,j5 (by rw[kB];omega)];simp
  rw[<-e];exact G
def jz(x:Int):Prop:=1<=x/\x<=32
instance (x:Int):Decidable (jz x):=by unfold jz;infer_instance
theorem Lj{x:Int}:al x8 tD [Δ x] w λv I=>v= .bool (decide (¬jz x))/\Ext w I:=by
 refine aB func285 ?_;simp only[cv,aR,bO,ak];refine⟨λh=>⟨?_,Ext.refl _⟩,λh=>⟨?_,Ext.refl _⟩⟩
 .rw[m7];intro a;have:=a.1;omega
 .congr 1;have:(32<x)=(¬jz x):=propext ⟨λe a=>by have:=a.2;omega,λe=>by
   by_cases f:32<x
   .exact f
   .exact m6 ⟨Ω,Ω⟩ e⟩
  simp only[this]
theorem Lk(h:aM .i64 w sv l):
  al x8 wH [sv,.func (.func tD) #[] #[]] w λv I=>Ext w I/\∃n:Int,v=Δ n/\((0<=n)=¬∀x∈l,jz x):=by
 have z:=h.le;refine aB func139 ?_;rw[aY aq.u h];refine⟨λ_ t U=>Ext w U/\∃i:Nat,t=Δ i/\i<=l.length/\∀x∈l.take i,jz x,λ_ t _=>l.length-(bU t).toNat,⟨Ext.refl _,0,rfl,X7 _,Ξ⟩,?_⟩;rintro _ _ U ⟨e,i,rfl,hi,f⟩;simp only[aR,ak];refine⟨λA=>?_,λB=>⟨e,-1,rfl,?_⟩⟩
 .obtain⟨x,j⟩:=aF (l:=l) (i:=i) Ω;rw[bi aq.u aj.i Ψ (h.W e) j];show al x8 tD [Δ x] U _;refine Lj.Y ?_;rintro _ aa _ ⟨rfl,p⟩;simp only[ak,aO];refine⟨λq=>⟨e.F p,i,rfl,?_⟩,λr=>?_⟩
  .exact propext ⟨λ_ s=>q (s x (x6 j)),λ_=>Ω⟩
  .rw[li Ω Ω];refine⟨⟨e.F p,i+1,rfl,Ω,λy a=>?_⟩,?_⟩
   .rw[r8,j]at a;rcases j4.1 a with a|a
    .exact f y a
    .simp at a;subst a;exact X5.1 r
   .simp only[bU];omega
 .have:i=l.length:=Ω
  rw[this,o6]at f;exact propext ⟨λh=>Ω,λh=>m6 f h⟩
theorem Ll(h:aM .i64 w sv l):
  al x8 wK [sv,.func (.func tD) #[] #[]] w λv I=>v= .bool (decide (¬∀x∈l,jz x))/\Ext w I:=by
 refine aB func225 ?_;refine(Lk h).Y ?_;rintro _ U _ ⟨a,n,rfl,e⟩;simp only[cH];exact⟨by congr 1;simp only[e],a⟩
def Lm(w:x4)(l:Λ)(v:x1)(I:x4):Prop:=
 Ext w I/\
   (¬ca l->v= .tuple #[.agg #[.slice ν 0 0],Δ 1])/\
   (ca l->4096<aQ l->v= .tuple #[.agg #[.slice ν 0 0],Δ 5])/\
   (ca l->aQ l<=4096->∃g aS,v= .tuple #[.agg #[aS],Δ 0]/\w.heap.size<=g/\aA .i64 aj I g aS l)
theorem Ln(h:aM .i64 w sv l):al x8 Kv [sv] w (Lm w l):=by
 refine aB func251 ?_;refine bB bD.i λah U ai a q=>?_;have aj:=q.lt;refine aV (λv aa=>Ext w aa/\Ext U aa/\∃c:Bool,v= .bool c/\((c=ro)=¬ca l)) ?_ ?_
 .rintro _ aa ⟨s,x,c,rfl,G⟩;simp only[bY];refine⟨λS=>?_,λW=>?_⟩
  .have H:¬ca l:=by rw[<-G];exact S
   rw[di (cs:=#[.slice ν 0 0]) Ψ];refine b4 (vs:=[.slice ν 0 0]) bD.i rfl rfl (by simp;rfl) (q.W x) ?_;intro am X an Y;rw[fP bD.p bD.i rfl Y.range];exact⟨s.then X (by rintro r y rfl;omega),λ_=>rfl,λh=>m6 h H,λh=>m6 h H⟩
  .have e:ca l:=by
    have I:¬(c=ro):=by simp[W]
    rw[G]at I;exact Classical.not_not.1 I
   have ao:=e.1;refine(mr (h.W s) Ω).Y ?_;rintro aS ap _ ⟨z,Z,au,hm⟩;have K:=hm.ls.cells;rw[di (cs:=#[aS]) (by obtain⟨_,_,_,_,_,rfl,_⟩:=hm.ls;kernel_rfl)];refine bB bD.i λgs av aw A ab=>?_;refine b4 (vs:=[aS]) bD.i rfl rfl (by intro u hu;simp at hu;subst hu;exact K.2) ab ?_;intro ax L az M;rw[bA bD.p bD.i rfl M.range];have aA:=z.size;have aC:=A.size;have aD:=x.size;have aE:=(A.V _).F L;have B:=A.then L (by rintro r y rfl;omega);have ac:=(s.F z).F B;have N:=hm.W B;refine(qk N.ls e).Y ?_;rintro _ aF _ ⟨rfl,f⟩;have O:=ac.F f;have P:=q.W (((x.F z).F B).F f);simp only[bO,ak];refine⟨λad=>?_,λae=>?_⟩
   .rw[di (cs:=#[.slice ν 0 0]) Ψ];refine b4 (vs:=[.slice ν 0 0]) bD.i rfl rfl (by simp;rfl) P ?_;intro af j ag C;rw[fP bD.p bD.i rfl C.range];exact⟨O.then j (by rintro r y rfl;omega),λh=>m6 e h,λ_ _=>rfl,λ_ h=>Ω⟩
   .rw[bA bD.p bD.i rfl (M.W f).range];refine b4 (vs:=[aS]) bD.i rfl rfl (by intro u hu;simp at hu;subst hu;exact K.2) P ?_;intro af j ag C;rw[fP bD.p bD.i rfl C.range];have aG:=a.size;exact⟨O.then j (by rintro r y rfl;omega),λh=>m6 e h,λ_ h=>Ω,λ_ _=>⟨Z,aS,rfl,Ω,(N.W f).V j Ω⟩⟩
 .intro ay Q;rw[aY aq.u (h.W a)];simp only[bO,ak];refine⟨λad=>Q _ _ ⟨a,Ext.refl _,ro,rfl,?_⟩,λae=>?_⟩
  .exact propext ⟨λ_ J=>by have:=J.1;omega,λ_=>rfl⟩
  .refine (Ll (h.W a)).Y ?_;rintro _ aa _ ⟨rfl,R⟩;refine Q _ _ ⟨a.F R,R,_,rfl,?_⟩;rw[ne];exact propext ⟨λE J=>E J.2,λE J=>E ⟨Ω,J⟩⟩
theorem wZ{P:V5}(f:0<=a)(h1:a<4294967296):
  ab P (aN .and t cx cy (.int .u64 a) (.int .u64 4294967295)) w K=K (.int .u64 a):=ab.of λI _=>by
 obtain⟨n,rfl⟩:=V3 f;have q:n<4294967296:=Ω
 have e:(T9 64 (n:Int) &&& T9 64 4294967295).toNat=n:=by
  rw[BitVec.toNat_and,BitVec.toNat_ofInt,BitVec.toNat_ofInt];have h:((n:Int) % ((2 ^ 64:Nat):Int)).toNat=n:=Ω
  have j:((4294967295:Int) % ((2 ^ 64:Nat):Int)).toNat=2 ^ 32-1:=Φ
  rw[h,j,Nat.and_two_pow_sub_one_eq_mod];omega
 have p:(T9 T7.bits (n:Int) &&& T9 T7.bits 4294967295).toNat=n:=e;simp only[aN,eqGuard,binOp,Op.intBits,p];rw[lm Ω Ω];rfl
theorem ru{P:V5}(f:0<=a)(h1:a<4294967296):
  ab P (aN .shr t cx cy (.int .u64 a) (.int .u64 32)) w K=K (.int .u64 0):=ab.of λI _=>by
 have e:a.fdiv (2 ^ min 32 T7.bits)=0:=by
  have:(2:Int) ^ min 32 T7.bits=4294967296:=rfl;rw[this,Int.fdiv_eq_ediv_of_nonneg _ Ω];omega
 simp[aN,eqGuard,binOp,Op.shift,e]
theorem Lo{x:Int}(e:0<=x/\x<65536)(a:0<=y/\y<65536):
  al x8 KN [.int .u64 x,.int .u64 y] w λv I=>v= .tuple #[.int .u64 0,.int .u64 (x*y)]/\Ext w I:=by
 have h:0<=x*y/\x*y<4294967296:=⟨Int.mul_nonneg e.1 a.1,by
  have:x*y<=65535*65535:=Int.mul_le_mul Ω Ω a.1 Ω;omega⟩
 refine aB func286 ?_;refine al.Y (K:=λv I=>v= .tuple #[.int .u64 0,.int .u64 (x*y)]/\Ext w I) ?_ ?_
 .refine aB func301 ?_;rw[wZ Ω Ω,ru Ω Ω,wZ Ω Ω,ru Ω Ω];simp only[gW,Int.zero_mul,Int.mul_zero];rw[lm Ω Ω,show T7.wrap 0=0 from rfl,ru Ω Ω];simp only[aO,Int.add_zero];rw[show T7.wrap 0=0 from rfl,wZ Ω Ω,ru Ω Ω];simp only[gW,aO,Int.zero_mul,Int.mul_zero,Int.add_zero,show T7.wrap 0=0 from rfl];rw[ru Ω Ω];simp only[gW,aO,Int.add_zero,show T7.wrap 0=0 from rfl];exact⟨trivial,Ext.refl _⟩
 .rintro _ U _ ⟨rfl,f⟩;rw[bu,bw];exact⟨rfl,f⟩
theorem Bz{dD:x1}{c:Int}(h:aM .i64 w dD [c])(W:n<65536):
  al x8 Kw [dD,Δ n] w λv I=>Ext w I/\∃g,w.heap.size<=g/\aA .i64 au I g v (o4 n c):=by
 refine aB func252 ?_;refine cW (λU=>w=U) ?_ ?_
 .rintro _ rfl;rw[aY ax.u h,fB aj.u qd.u,fB aj.u qd.u,lm Ξ Ξ,lm Ω Ω];refine(Lo Ξ Ω).Y ?_;rintro _ aa _ ⟨rfl,x⟩;rw[bu,bw];have C:(([c].length:Int)*n)=(n:Int):=Ξ
  rw[C];refine cW (λa=>aa=a) ?_ ?_
  .rintro _ rfl;rw[fB qd.u aj.u,li Ω Ω];refine k3 ax.u au.i Ω Ω ?_;intro g X Y E G;have y:=x.F E;have Z:=x.size;refine Bm ax.u au.i G (λ_=>rfl) Ξ (h.W y) (rq _ _) ?_;intro ab H ad z;have J:=y.then H (by rintro r K rfl;omega);have st:over (ints .i64 (o4 n 0)) 0 ((ints .i64 [c]).take n)=ints .i64 (o4 (min 1 n) c++o4 (n-min 1 n) 0):=by
    rcases P8 n with rfl|ac
    .simp[over]
    .rw[j5 Θ,nZ Θ];have:min 1 n=1:=Ω
     simp[this,ints]
   rw[st]at z;refine⟨λt e=>Ext w e/\∃i:Nat,t=Δ i/\i<=n/\(0<n->0<i)/\ag e g au (ints .i64 (o4 i c++o4 (n-i) 0)),λt _=>n-(bU t).toNat,
    ⟨J,min 1 n,Ξ,Ω,Ω,z⟩,?_⟩
   rintro _ e ⟨f,i,rfl,hi,ae,p⟩;simp only[iL ax.u,aR,ak,eH];refine⟨λL M q _ _=>?_,λaf=>?_⟩
   .have L:i<n:=Ω
    have A:=p.W q;rw[gH ax.u au.i o2 j8 e2 Ω Ω Ω,
     gH ax.u au.i j7 pb e2 Ω Ω Ω]
    have N:cg M 1 (.slice (σ ⟨g,0,ν⟩) n n) n (ints .i64 (o4 i c++o4 (n-i) 0)):=(b0.full A (by simp<;>omega) (by simp[maxLen]<;>omega)).sl;have ac:=N.part (l:=0) (h:=i) (m:=n) Ω Ω Ω Ω;have O:((ints .i64 (o4 i c++o4 (n-i) 0)).drop (0*1)).take ((i-0)*1)=ints .i64 (o4 i c):=by
     simp[ints]
    rw[O]at ac;refine Bm ax.u au.i A (o:=i) (λ_=>?_) (by simp<;>omega) ac (rq _ _) ?_
    .rw[m5 Ω];simp[T8]
    .intro ah P ai B;have am:=f.size;have an:=q.size;have Q:over (ints .i64 (o4 i c++o4 (n-i) 0)) i ((ints .i64 (o4 i c)).take (n-i))=ints .i64 (o4 (i+min i (n-i)) c++o4 (n-(i+min i (n-i))) 0):=by
      apply X3;intro j;rw[pc _ _ _ (by simp[ints]<;>omega)];simp only[ints,Z5,List.map_replicate,List.getElem?_append,List.getElem?_take,List.getElem?_replicate,o8,List.length_replicate]
      repeat' split
      all_goals first|rfl|omega
     rw[Q]at B;have R:min (i-0) (n-i)=min i (n-i):=Ω
     simp only[aO,R];have S:W6.wrap ((i:Int)+((min i (n-i):Nat):Int))=((i+min i (n-i):Nat):Int):=by rw[li Ω Ω];omega
     rw[S];refine⟨⟨(f.F q).then P (by rintro r K rfl;omega),_,rfl,Ω,Ω,B⟩,?_⟩;simp only[bU,u6];omega
   .have:i=n:=Ω
    subst this;rw[W8,List.replicate_zero,W5]at p;exact⟨f,g,Ω,aA.of (b0.full p Ξ (by simp[maxLen];omega))⟩
  .intro ay s;refine aV (λv a=>v= .bool rs/\aa=a) ?_ ?_
   .rintro _ _ ⟨rfl,rfl⟩;rw[aX];exact s _ rfl
   .intro ao V;simp only[bO,ak];refine⟨λh=>Ω,λ_=>V _ _ ⟨?_,rfl⟩⟩;rw[ms];omega
 .intro ay s;simp only[aR,ak];exact⟨λh=>Ω,λ_=>s _ rfl⟩
def lc(v:x1)(r:Nat):Prop:=∃a n c,v= .slice (σ a) n c/\a.block=r
theorem bV{g:Nat}(h:aA k e w g v l){r:Nat}(f:lc v r):r=g/\g<w.heap.size:=by
 obtain⟨a,n,c,rfl,rfl⟩:=f;obtain⟨_,⟨h,_⟩|⟨cap,cs,h,j,_⟩⟩:=h
 .cases h
 .cases h;exact⟨rfl,j.lt⟩
theorem bs{g:Nat}(h:aA k e w g v l)(a:af S w I)(f:∀r,lc v r->¬S r):aA k e I g v l:=by
 refine⟨h.1,h.2.imp id λ⟨cap,cs,h1,j,p⟩=>⟨cap,cs,h1,j.V a (f g ⟨_,_,_,h1,rfl⟩),p⟩⟩
def dj(w:x4)(g a:Nat)(sv:x1)(ai:Λ)(k:Int)(cs:Λ):Prop:=
 (∃a7 gs,ag w g cZ [sv,Δ k,a7]/\aA .i64 aj w gs sv ai/\aA .i64 au w a a7 cs)/\(g≠a/\¬lc sv a/\aQ ai<=4096)/\ca ai/\cs.length=(aQ ai).toNat
theorem dj.W{g e:Nat}{k:Int}{cs:Λ}(h:dj w g e sv ai k cs)(a:Ext w I):dj I g e sv ai k cs:=by
 obtain⟨⟨a7,gs,h1,f,j⟩,p⟩:=h;exact⟨⟨a7,gs,h1.W a,f.W a,j.W a⟩,p⟩
def BA(w:x4)(l:Λ)(k a:Int)(v:x1)(I:x4):Prop:=
 Ext w I/\
  (¬ca l->v= .tuple #[.pointer ν,Δ 1])/\
  (ca l->4096<aQ l->v= .tuple #[.pointer ν,Δ 5])/\
  (ca l->aQ l<=4096->¬cC a k->v= .tuple #[.pointer ν,Δ 3])/\
  (ca l->aQ l<=4096->cC a k->∃g e sv,v= .tuple #[Γ g,Δ 0]/\w.heap.size<=g/\w.heap.size<=e/\(∀r,lc sv r->w.heap.size<=r)/\
   dj I g e sv l k (o4 (aQ l).toNat a))
theorem w1{k z:Int}(h:aM .i64 w sv l):al x8 JX [sv,Δ k,Δ z] w (BA w l k z):=by
 refine aB func198 ?_;refine(Ln h).Y ?_;rintro v U _ ⟨I,W,X,Y⟩;obtain⟨aS,e,rfl,Z,he⟩:∃(aS:x1)(e:Int),v= .tuple #[.agg #[aS],Δ e]/\aS.oneCell'=ro/\
   ((e=1/\¬ca l)\/(e=5/\ca l/\4096<aQ l)\/(e=0/\ca l/\aQ l<=4096/\∃g,w.heap.size<=g/\aA .i64 aj U g aS l)):=by
  by_cases J:ca l
  .by_cases ac:aQ l<=4096
   .obtain⟨g,aS,rfl,h1,K⟩:=Y J ac;exact⟨aS,0,rfl,K.ls.cells.2,.inr (.inr ⟨rfl,J,ac,g,h1,K⟩)⟩
   .exact⟨_,_,X J Ω,rfl,.inr (.inl ⟨rfl,J,Ω⟩)⟩
  .exact⟨_,_,W J,rfl,.inl ⟨rfl,J⟩⟩
 rw[bu,bw];refine bB bD.i λaK aa aL ad ae=>?_;refine b4 (vs:=[aS]) bD.i rfl rfl (by intro u hu;simp at hu;subst hu;exact Z) ae ?_;intro aN af aO ag;have L:=ad.then af (by rintro r j rfl;omega);have M:=I.F L;simp only[bF,ak];refine⟨λah=>⟨M,?_⟩,λaP=>?_⟩
 .rcases he with⟨rfl,A⟩|⟨rfl,J,ac⟩|⟨rfl,_⟩
  .exact⟨λ_=>rfl,λh=>m6 h A,λh=>m6 h A,λh=>m6 h A⟩
  .exact⟨λh=>m6 J h,λ_ _=>rfl,λ_ h=>Ω,λ_ h=>Ω⟩
  .exact m6 rfl ah
 .obtain⟨rfl,J,ac,gs,aR,hm⟩:e=0/\ca l/\aQ l<=4096/\∃g,w.heap.size<=g/\aA .i64 aj U g aS l:=by
   rcases he with⟨rfl,A⟩|⟨rfl,J,ac⟩|h
   .omega
   .omega
   .exact h
  have aT:=prod_bound J;refine k4.Y ?_;rintro _ aU _ ⟨rfl,C⟩;have N:=M.F C;simp only[bC,bY];refine⟨λai=>⟨N,λh=>m6 J h,λ_ h=>Ω,λ_ _ _=>rfl,λ_ _ h=>by simp[h]at ai⟩,λam=>?_⟩;have ao:cC z k:=by simpa using am
  simp only[cv,eH];intro O E _ _;have ap:=N.F E;have B:=(L.F C).F E;have P:=(ag.W C).W E;rw[bA bD.p bD.i rfl P.range,bA bD.p bD.i rfl P.range];have s1:=I.size;have aV:=B.size;have Q:((aQ l).toNat:Int)=aQ l:=Ω
  have R:∀{x:x4}{s:x1}{y:Nat},Ext O x->O.heap.size<=y->aA .i64 au x y s (o4 (aQ l).toNat z)->
    ab x8 (Instr.build cZ #[(0,.agg #[aS]),(1,Δ k),(2,s)]) x λaq=>aH x8 (Instr.box cZ aq) x λav S=>BA w l k z (.tuple #[av,Δ 0]) S:=by
   intro x s y q V j;rw[di (cs:=#[aS,Δ k,s]) (by
    obtain⟨_,_,_,_,_,rfl,_⟩:=j.ls;obtain⟨_,_,_,_,_,rfl,_⟩:=hm.ls;kernel_rfl)]
   refine bo λg S aW G aw=>?_;have aX:=q.size;have ay:lc s y:=by
    obtain⟨aY,⟨_,az⟩|⟨cap,cs,rfl,_⟩⟩:=j
    .simp at az;omega
    .exact⟨_,_,_,rfl,rfl⟩
   have aZ:=(bV j ay).2;refine⟨(ap.F q).F G,λh=>m6 J h,λ_ h=>Ω,λ_ _ h=>m6 ao h,λ_ _ _=>⟨g,y,aS,rfl,Ω,Ω,λr aC=>?_,⟨s,gs,aw,((hm.W B).W q).W G,j.W G⟩,⟨Ω,λaD=>?_,ac⟩,J,Ξ⟩⟩
   .have:=(bV hm aC).1;omega
   .have:=bV hm aD;omega
  constructor
  .refine eB ax.u au.i rfl λdD an aE aF a H=>⟨.inl a,?_⟩;refine(qk ((hm.W B).W a).ls J).Y ?_;rintro _ aG _ ⟨rfl,f⟩;refine⟨.inl (a.F f),?_⟩;rw[<-Q];refine(Bz (H.W f).ls Ω).Y ?_;rintro s x _ ⟨q,y,V,j⟩;have aI:=a.size;have aJ:=f.size;exact⟨.inl ((a.F f).F q),R ((a.F f).F q) Ω j⟩
  .refine (qk (hm.W B).ls J).Y ?_;rintro _ aE _ ⟨rfl,a⟩;refine⟨.inl a,?_⟩;refine eB ax.u au.i rfl λdD an aG aF f H=>⟨.inl (a.F f),?_⟩;rw[<-Q];refine(Bz H.ls Ω).Y ?_;rintro s x _ ⟨q,y,V,j⟩;have aI:=a.size;have aJ:=f.size;exact⟨.inl ((a.F f).F q),R ((a.F f).F q) Ω j⟩
theorem pj{g:Nat}{a:List x1}{o:Nat}(h:ag w g e cs)(f:∀j v,a[j]?=σ v->cs[o+j]?=σ v):w.rangeAt g o a:=λj v p=>h.cell (f j v p)
theorem BB{g f:Nat}{t:Λ}{k:Int}{cs:Λ}(h:dj w g f sv ai k cs)(q:aM .i64 w aS t):
  al x8 KA [Γ g,aS] w λv I=>v=mq ai t/\Ext w I:=by
 obtain⟨⟨a7,gs,r,hm,s⟩,_,J,_⟩:=h;refine aB func257 ?_;rw[cR fc.u];simp only[Z3,aX];rw[bL,aT cZ.p rfl,bA (cs:=[sv]) bD.p bD.i rfl (pj r (by
  intro j v a
  match j,a with
  |0,a=>exact a))]
 refine(By hm.ls q J).Y ?_;rintro _ U _ ⟨rfl,e⟩;unfold mq;cases cz ai t 0 with
 |none=>rw[bu,bw];exact⟨rfl,e⟩
 |some n=>rw[bu,bw];exact⟨rfl,e⟩
def tP(ai t cs:Λ):x1:=match cz ai t 0 with
 |some n=>.tuple #[Δ (cs.getD n.toNat 0),Δ 0]
 |none=>.tuple #[Δ 0,Δ 3]
theorem BC{t cs:Λ}{n:Int}(J:ca ai)(a:cs.length=(aQ ai).toNat)(h:cz ai t 0=σ n):n=(n.toNat:Int)/\n.toNat<cs.length:=by
 have:=pi J.2 h;simp only[Int.zero_mul,Int.zero_add,Int.one_mul]at this;omega
theorem w2{g f:Nat}{t:Λ}{k:Int}{cs:Λ}(h:dj w g f sv ai k cs)(j:aM .i64 w aS t):
  al x8 Ks [Γ g,aS] w λv I=>v=tP ai t cs/\Ext w I:=by
 refine aB func242 ?_;refine(BB h j).Y ?_;rintro _ U _ ⟨rfl,a⟩;obtain⟨⟨a7,gs,q,hm,r⟩,_,J,s⟩:=h.W a;unfold mq tP;cases hi:cz ai t 0 with
 |none=>
  rw[bu,bw];simp only[bF,ak];exact⟨λ_=>⟨trivial,a⟩,λh=>by simp at h⟩
 |some n=>
  obtain⟨x,e⟩:=BC J s hi;rw[bu,bw];simp only[bF,ak];refine⟨λh=>m6 rfl h,λ_=>?_⟩;rw[aG cZ.p 2 q rfl,
   gI x ax.u au.i Ψ r.ls (x7 e)]
  refine⟨?_,a⟩;rw[u4,x7 e];rfl
def tQ(ai t:Λ)(k c:Int)(cs:Λ):Λ:=match cz ai t 0 with
 |some n=>if cC c k then cs.set n.toNat c else cs
 |none=>cs
def BD(ai t:Λ)(k c:Int):Int:=match cz ai t 0 with
 |some _=>if cC c k then 0 else 3
 |none=>3
theorem Lp{g f:Nat}{t:Λ}{k c:Int}{cs:Λ}(h:dj w g f sv ai k cs)(C:aM .i64 w aS t):
  al x8 JZ [Γ g,aS,Δ c] w λv I=>v=Δ (BD ai t k c)/\af (λr=>r=f) w I/\dj I g f sv ai k (tQ ai t k c cs):=by
 refine aB func200 ?_;refine(BB h C).Y ?_;rintro _ U _ ⟨rfl,a⟩;have h1:=h.W a;obtain⟨⟨a7,gs,e,hm,j⟩,_,J,q⟩:=h1;unfold mq BD tQ;cases hi:cz ai t 0 with
 |none=>
  rw[bu,bw];simp only[bF,ak];exact⟨λ_=>⟨trivial,a.V _,h.W a⟩,λh=>by simp at h⟩
 |some n=>
  obtain⟨P,Q⟩:=BC J q hi;rw[bu,bw];simp only[bF,ak];refine⟨λh=>m6 rfl h,λ_=>?_⟩;rw[aG cZ.p 1 e rfl];refine k4.Y ?_;rintro _ aa _ ⟨rfl,s⟩;have y:=(h.W a).W s;by_cases z:cC c k
  .simp only[z,decide_true,bC,X1,aX,if_true];obtain⟨⟨a7,gs,e,hm,j⟩,⟨E,A⟩,J,q⟩:=y;have R:=j;obtain⟨S,⟨rfl,W⟩|⟨cap,full,rfl,G,H,K,L,B⟩⟩:=j
   .omega
   .rw[aG cZ.p 2 e rfl,
     Bi ax.u au.i Ω Ω (λ_=>rfl)]
    refine bq au.i rfl rfl G Ω ?_;intro X x Y M;refine⟨trivial,((a.F s).V _).F x,⟨_,gs,e.V x Ω,bs hm x (λr N O=>A.1 (O▸N)),?_⟩,⟨E,A⟩,J,by simp[q]⟩;refine⟨Ξ,.inr ⟨cap,full.set (0+n.toNat*1) (Δ c),?_,M,by simpa using H,K,by simpa using L,?_⟩⟩
    .simp
    .simp only[o5,W0,T5]at B ⊢;rw[List.take_set,B,ints,ints,T2]
  .simp only[z,decide_false,bC,W7,bH,if_false];exact⟨trivial,(a.F s).V _,y⟩
def cD(b:Int):Bool:=decide (b=32\/b=9\/b=10\/b=13)
def bT(b:Int):Bool:=decide (33<=b/\b<=126)
def pk:Nat->Λ->List (Λ)×Bool
 |0,_=>([],ro)
 |n+1,p=>
  match p.dropWhile cD with
  |[]=>([],ro)
  |b::q=>
   if bT b then
    match(b::q).dropWhile bT with
    |[]=>([(b::q).takeWhile bT],ro)
    |c::r=>if cD c then(((b::q).takeWhile bT)::(pk n (c::r)).1,(pk n (c::r)).2)else([],rs)
   else([],rs)
def lex(p:Λ):List (Λ)×Bool:=pk (p.length+1) p
theorem ql(f:Int->Bool):∀(l:Λ),(l.dropWhile f).length<=l.length
 |[]=>p8 _
 |x::l=>by
  rw[List.dropWhile_cons];split
  .exact Y9 (ql f l) (Nat.le_succ _)
  .exact p8 _
theorem tR{f:Int->Bool}{x:Int}(h:f x=ro):((x::l).dropWhile f).length<=l.length:=by
 rw[List.dropWhile_cons,m3 h];exact ql f l
theorem BE:∀{n m:Nat}{p:Λ},p.length<n->p.length<m->pk n p=pk m p
 |n+1,m+1,p,j,hm=>by
  unfold pk;have h1:=ql cD p;cases f:p.dropWhile cD with
  |nil=>rfl
  |cons b q=>
   rw[f]at h1;simp only;by_cases a:bT b=ro
   .rw[m3 a,m3 a];have e:=tR (l:=q) a;cases h:(b::q).dropWhile bT with
    |nil=>rfl
    |cons c r=>
     rw[h]at e;simp only[Z4]at h1 e;simp only;rw[BE (n:=n) (m:=m) (p:=c::r) (by rw[Z4];omega) (by rw[Z4];omega)]
   .rw[m5 a,m5 a]
theorem lN(p:Λ):lex p=match p.dropWhile cD with
  |[]=>([],ro)
  |b::q=>
   if bT b then
    match(b::q).dropWhile bT with
    |[]=>([(b::q).takeWhile bT],ro)
    |c::r=>if cD c then(((b::q).takeWhile bT)::(lex (c::r)).1,(lex (c::r)).2)else([],rs)
   else([],rs):=by
 unfold lex
 conv=>lhs;unfold pk
 have h1:=ql cD p;cases f:p.dropWhile cD with
 |nil=>rfl
 |cons b q=>
  rw[f]at h1;simp only;by_cases a:bT b=ro
  .rw[m3 a,m3 a];have e:=tR (l:=q) a;cases h:(b::q).dropWhile bT with
   |nil=>rfl
   |cons c r=>
    rw[h]at e;simp only[Z4]at h1 e;simp only;rw[BE (n:=p.length) (m:=(c::r).length+1) (p:=c::r) (by rw[Z4];omega) Ω]
  .rw[m5 a,m5 a]
theorem rv:∀(n:Nat)(p:Λ),p.length<=n->(lex p).1.length<=p.length
 |n,p,s=>by
  rw[lN];have h1:=ql cD p;cases h:p.dropWhile cD with
  |nil=>simp
  |cons b q=>
   rw[h]at h1;simp only;by_cases a:bT b=ro
   .rw[m3 a];have e:=tR (l:=q) a;cases j:(b::q).dropWhile bT with
    |nil=>simp only[Z4,Q7]at h1 ⊢;omega
    |cons c r=>
     rw[j]at e;simp only[Z4]at h1 e;simp only;by_cases f:cD c=ro
     .rw[m3 f]
      match n with
      |0=>omega
      |n+1=>
       have:=rv n (c::r) (by rw[Z4];omega);simp only[Z4]at this ⊢;omega
     .rw[m5 f];simp
   .rw[m5 a];simp
theorem tS:∀(n:Nat)(p:Λ),p.length<=n->∀w∈(lex p).1,w≠[]/\(∀b∈w,bT b=ro)/\w.length<=p.length
 |n,p,B,w,hw=>by
  rw[lN]at hw;have h1:=ql cD p;cases e:p.dropWhile cD with
  |nil=>rw[e]at hw;simp at hw
  |cons b q=>
   rw[e]at h1 hw;simp only at hw;have z:(b::q).length<=p.length:=h1;by_cases a:bT b=ro
   .rw[m3 a]at hw;have f:=tR (l:=q) a;have j:(b::q).takeWhile bT≠[]/\(∀x∈(b::q).takeWhile bT,bT x=ro)/\((b::q).takeWhile bT).length<=p.length:=
     ⟨by rw[List.takeWhile_cons,m3 a];simp,λx A=>List.all_takeWhile |> List.all_eq_true.1 |> λh=>h x A,Y9 (List.takeWhile_sublist _).length_le z⟩
    cases s:(b::q).dropWhile bT with
    |nil=>
     rw[s]at hw;simp only[j6]at hw;subst hw;exact j
    |cons c r=>
     rw[s]at f hw;simp only[Z4]at h1 f;simp only at hw;by_cases y:cD c=ro
     .rw[m3 y]at hw;rcases V4.1 hw with rfl|hw
      .exact j
      .match n with
       |0=>omega
       |n+1=>
        have:=tS n (c::r) (by rw[Z4];omega) w hw;exact⟨this.1,this.2.1,Y9 this.2.2 (by rw[Z4];omega)⟩
     .rw[m5 y]at hw;simp at hw
   .rw[m5 a]at hw;simp at hw
def az:Int:=4611686018427387904
def gJ(b:Int):Bool:=decide (48<=b/\b<=57)
def fe(n b:Int):Int:=min az (10*n+(b-48))
def lO:Λ->Option Int
 |[]=>ν
 |l=>if l.all gJ then σ (l.foldl fe 0)else ν
def gK:Λ->Option Int
 |45::l=>(lO l).map λn=>-n
 |l=>lO l
theorem Lq{n b:Int}(e:0<=n)(a:gJ b=ro):0<=fe n b/\fe n b<=az:=by
 have a:=rc a;unfold fe az;omega
theorem tT:∀{l:Λ}{n:Int},l.all gJ=ro->0<=n/\n<=az->0<=l.foldl fe n/\l.foldl fe n<=az
 |[],n,_,a=>a
 |b::l,n,h,a=>by
  rw[List.all_cons,T1]at h;exact tT (l:=l) h.2 (Lq a.1 h.1)
structure aJ where
 d8:List (Λ)
 m1:Int
 big:Bool
 m2:List (Λ×List (Λ×Int))
deriving DecidableEq
def dY(s:aJ):Option (Λ×aJ):=match s.d8 with
 |[]=>ν
 |w::l=>σ (w,{s with d8:=l})
def bl(lo hi:Int)(s:aJ):Option (Int×aJ):=match dY s with
 |none=>ν
 |some (w,s)=>match gK w with
  |none=>ν
  |some n=>if lo<=n/\n<=hi then σ (n,s)else ν
def bj(b:Bool)(s:aJ):aJ:={s with big:=s.big||b}
def cT{α:Type}(f:List α->aJ->Option (α×aJ)):Nat->List α->aJ->Option (List α×aJ)
 |0,acc,s=>σ (acc,s)
 |n+1,acc,s=>match f acc s with
  |none=>ν
  |some (a,s)=>cT f n (acc++[a]) s
def ff(n:Int)(a:Nat)(s:aJ):Option (Λ×aJ):=cT (λacc s=>match bl 0 (n-1) s with
 |none=>ν
 |some (v,s)=>if v∈acc then ν else σ (v,s)) a [] s
def kC:Λ->Λ->aJ->Option (Λ×aJ)
 |[],acc,s=>σ (acc,s)
 |k::l,acc,s=>match bl 0 (k-1) s with
  |none=>ν
  |some (v,s)=>kC l (acc++[v]) s
def eN(co:Λ)(acc:List (Λ×Int))(s:aJ):Option ((Λ×Int)×aJ):=match kC co [] s with
 |none=>ν
 |some (t,s)=>match bl 0 az s with
  |none=>ν
  |some (c,s)=>if t∈acc.map (·.1)then ν else σ ((t,c),s)
def dZ(co:Λ)(s:aJ):Option (List (Λ×Int)×aJ):=match bl (-az) az s with
 |none=>ν
 |some (n,s)=>
  if n<0 then match s.m2[(-n-1).toNat]? with
   |none=>ν
   |some (z,l)=>if z=co then σ (l,s)else ν
  else cT (eN co) n.toNat [] (bj (decide (16384<min (s.m1+n) az)) {s with m1:=min (s.m1+n) az})
def dy(co:Λ):Bool:=decide (4096<aQ (co.map λk=>min k 4097))
structure cA where
 scope:Λ
 co:Λ
 other:Int
 lines:List (Λ×Int)
deriving DecidableEq
def dq(all:Λ)(s:aJ):Option (cA×aJ):=match bl (-az) az s with
 |none=>ν
 |some (a,s)=>match ff all.length a.natAbs s with
  |none=>ν
  |some (scope,s)=>
   let co:=scope.map λv=>all.getD v.toNat 0
   match bl 0 az (bj (decide (6<a.natAbs)||dy co) s)with
   |none=>ν
   |some (other,s)=>match dZ co s with
    |none=>ν
    |some (lines,s)=>σ (⟨scope,co,other,lines⟩,if a<0 then{s with m2:=s.m2++[(co,lines)]}else s)
def gL(most:Int)(_:Λ)(s:aJ):Option (Int×aJ):=match bl 1 most s with
 |none=>ν
 |some (z,s)=>σ (z,bj (decide (32<z)) s)
structure b5 where
 name:Λ
 k:Int
 co:Λ
 d7:List cA
deriving DecidableEq
def jA(s:aJ):Option (b5×aJ):=match dY s with
 |none=>ν
 |some (name,s)=>match bl 1 az (bj (decide (64<name.length)) s)with
  |none=>ν
  |some (n,s)=>match bl 1 az (bj (decide (64<n)) s)with
   |none=>ν
   |some (most,s)=>match bl 0 az s with
    |none=>ν
    |some (a,s)=>match bl 1 az (bj (decide (256<a)) s)with
     |none=>ν
     |some (k,s)=>match cT (gL most) n.toNat [] (bj (decide (2147483648<k)) s)with
      |none=>ν
      |some (co,s)=>match cT (λ_ s=>dq co s) a.toNat [] s with
       |none=>ν
       |some (d7,s)=>σ (⟨name,k,co,d7⟩,s)
def gZ(p:Λ):Option b5:=if 65536<p.length then ν else match jA ⟨(lex p).1,0,rs,[]⟩with
 |none=>ν
 |some (f,s)=>if s.d8=[]/\(lex p).2=ro/\s.big=rs then σ f else ν
def n4(n:Int)(a:Bool)(v:Int):Prop:=0<=n/\n<=4611686018427387909/\(a=ro->v=az)/\(a=rs->v=min az n)
theorem Lr{n b v:Int}{a:Bool}(h:n4 n a v)(q:48<=b/\b<=57):
  n4 (if a=ro\/461168601842738790<n then n else 10*n+(b-48)) (a||decide (461168601842738790<n)) (fe v b):=by
 obtain⟨h1,f,j,p⟩:=h;unfold fe n4 az at*;cases a with
 |true=>
  have:=j rfl;rw[m3 (.inl rfl)];exact⟨h1,f,λ_=>Ω,λh=>by cases h⟩
 |false=>
  have:=p rfl;by_cases e:461168601842738790<n
  .rw[m3 (.inr e),m7 e];exact⟨h1,f,λ_=>Ω,λh=>by cases h⟩
  .rw[m5 (by simp[e]),ms e];exact⟨Ω,Ω,(λh=>by cases h),λ_=>Ω⟩
theorem Ls:n4 0 rs 0:=by unfold n4 az;exact⟨Ω,Ω,(λh=>by cases h),λ_=>Ω⟩
theorem Lt{n v:Int}{a:Bool}(h:n4 n a v):v=if a=ro\/4611686018427387904<n then 4611686018427387904 else n:=by
 obtain⟨h1,p,f,j⟩:=h;unfold az at*;cases a with
 |true=>rw[m3 (.inl rfl)];exact f rfl
 |false=>
  have:=j rfl;by_cases e:4611686018427387904<n
  .rw[m3 (.inr e)];omega
  .rw[m5 (by simp[e])];omega
structure Cell where
 v:Int
 st:Nat
structure lP where
 i:Nat
 c:Cell
structure pm where
 olds:Nat
 cells:Nat
 st:Nat
structure aw where
 cells:List Cell
 olds:List lP
 marks:List pm
 ever:Nat
def aw.bM(t:aw):Λ:=t.cells.map (·.v)
def aw.set(t:aw)(i:Nat)(x:Int):aw:=match t.cells[i]? with
 |none=>t
 |some c=>match t.marks.getLast? with
  |none=>{t with cells:=t.cells.set i ⟨x,c.st⟩}
  |some m=>if c.st<m.st/\i<m.cells then{t with olds:=t.olds++[⟨i,c⟩],cells:=t.cells.set i ⟨x,m.st⟩}else{t with cells:=t.cells.set i ⟨x,c.st⟩}
def aw.grow(t:aw)(n:Nat):aw:={t with cells:=t.cells++o4 n ⟨0,0⟩}
def aw.mark(t:aw):aw:={t with marks:=t.marks++[⟨t.olds.length,t.cells.length,t.ever+1⟩],ever:=t.ever+1}
def back(os:List lP)(cs:List Cell):List Cell:=os.foldr (λo cs=>cs.set o.i o.c) cs
def aw.iN(t:aw)(m:Nat):aw:=match t.marks[m]? with
 |none=>t
 |some x=>{cells:=(back (t.olds.drop x.olds) t.cells).take x.cells,olds:=t.olds.take x.olds,marks:=t.marks.take m,ever:=t.ever}
theorem pn:∀(os:List lP)(cs:List Cell),(back os cs).length=cs.length
 |[],_=>rfl
 |o::os,cs=>by
  have:=pn os cs;show((back os cs).set o.i o.c).length=_;rw[o5,this]
theorem back_append(a b:List lP)(cs:List Cell):back (a++b) cs=back a (back b cs):=by unfold back;rw[List.foldr_append]
theorem w3:∀{os:List lP}{cs:List Cell}{n:Nat},(back os cs).take n=back (os.filter λo=>decide (o.i<n)) (cs.take n)
 |[],cs,n=>rfl
 |o::os,cs,n=>by
  show((back os cs).set o.i o.c).take n=_;by_cases h:o.i<n
  .rw[List.filter_cons_of_pos (by simpa using h),List.take_set,w3];rfl
  .rw[List.filter_cons_of_neg (by simpa using h),List.take_set_of_le Ω,w3]
theorem w4{os:List lP}{cs:List Cell}(h:∀o∈os,o.i<n):(back os cs).take n=back os (cs.take n):=by
 rw[w3,List.filter_eq_self.2 λo a=>by simpa using h o a]
theorem BF:∀{os:List lP}{cs a:List Cell}{i:Nat},cs.length=a.length->(∃o∈os,o.i=i)->(back os cs)[i]?=(back os a)[i]?
 |[],_,_,_,_,⟨_,h,_⟩=>by cases h
 |o::os,cs,a,i,f,hm=>by
  show((back os cs).set o.i o.c)[i]?=((back os a).set o.i o.c)[i]?;rw[Y6,Y6];by_cases h:o.i=i
  .rw[m3 h,m3 h,pn,pn,f]
  .rw[m5 h,m5 h];obtain⟨x,e,he⟩:=hm;rcases V4.1 e with rfl|e
   .exact m6 he h
   .exact BF f ⟨x,e,he⟩
theorem BG:∀{os:List lP}{cs a:List Cell}{i:Nat},cs[i]?=a[i]? ->cs.length=a.length->(back os cs)[i]?=(back os a)[i]?
 |[],_,_,_,h,_=>h
 |o::os,cs,a,i,h,e=>by
  show((back os cs).set o.i o.c)[i]?=((back os a).set o.i o.c)[i]?;rw[Y6,Y6,pn,pn,e,BG h e]
def eJ:aw->List aw->Prop
 |t,[]=>t.marks=[]/\t.olds=[]/\(∀c∈t.cells,c.st<=t.ever)/\t.ever<=1000000
 |t,s::h=>eJ s h/\(∀c∈t.cells,c.st<=t.ever)/\∃m new,t.marks=s.marks++[m]/\m.olds=s.olds.length/\m.cells=s.cells.length/\t.olds=s.olds++new/\m.cells<=t.cells.length/\(back new t.cells).take m.cells=s.cells/\
   (∀c∈s.cells,c.st<m.st)/\(∀c∈t.cells,c.st<=m.st)/\(∀(i:Nat)c,i<m.cells->t.cells[i]?=σ c->c.st=m.st->∃o∈new,o.i=i)/\(∀o∈new,o.i<m.cells)/\m.st<=t.ever/\s.ever<=t.ever
theorem eJ.len:∀{h:List aw}{t:aw},eJ t h->t.marks.length=h.length
 |[],t,hk=>by rw[hk.1];rfl
 |s::h,t,hk=>by
  obtain⟨h1,_,m,new,a,_⟩:=hk;rw[a,r9,eJ.len h1];rfl
theorem eJ.Lu{h:List aw}{t:aw}(hk:eJ t h):∀c∈t.cells,c.st<=t.ever:=by
 cases h with
 |nil=>exact hk.2.2.1
 |cons s h=>exact hk.2.1
theorem eJ.mark{h:List aw}{t:aw}(hk:eJ t h):eJ t.mark (t::h):=by
 have J:=hk.Lu;refine⟨hk,λc a=>Y9 (J c a) (Nat.le_succ _),⟨t.olds.length,t.cells.length,t.ever+1⟩,[],rfl,rfl,rfl,by show t.olds=_;rw[W5],p8 _,?_,λc a=>Nat.lt_succ_of_le (J c a),λc a=>Y9 (J c a) (Nat.le_succ _),λi c _ hi he=>?_,λo e=>(by cases e),p8 _,Nat.le_succ _⟩
 .show t.cells.take t.cells.length=_;rw[o6]
 .have:=J c (x6 hi);have he:c.st=t.ever+1:=he;omega
theorem eJ.grow{h:List aw}{t:aw}(hk:eJ t h):eJ (t.grow n) h:=by
 cases h with
 |nil=>
  refine⟨hk.1,hk.2.1,λc a=>?_,hk.2.2.2⟩;rcases j4.1 a with a|a
  .exact hk.2.2.1 c a
  .rw[(List.mem_replicate.1 a).2];exact X7 _
 |cons s h=>
  obtain⟨h1,j,m,new,p,q,a3,a4,a5,r,w,x,a9,e,y,z⟩:=hk;have f:∀{b:Nat},(∀c∈t.cells,c.st<=b)->∀c∈(t.grow n).cells,c.st<=b:=λA c a=>by
   rcases j4.1 a with a|a
   .exact A c a
   .rw[(List.mem_replicate.1 a).2];exact X7 _
  refine⟨h1,f j,m,new,p,q,a3,a4,by show m.cells<=(t.cells++_).length;rw[r9];omega,?_,w,f x,λi c hi a he=>?_,e,y,z⟩
  .show (back new (t.cells++_)).take m.cells=_;rw[w4 e,List.take_append_of_le_length a5,<-w4 e];exact r
  .have a:(t.cells++o4 n ⟨0,0⟩)[i]?=σ c:=a;rw[Y2 Ω]at a;exact a9 i c hi a he
theorem Lv{s:aw}{m:pm}{l:List pm}(h:l=s.marks++[m]):l.getLast? =σ m:=by rw[h,List.getLast?_concat]
theorem eJ.set{h:List aw}{t:aw}{i:Nat}{x:Int}(hk:eJ t h):eJ (t.set i x) h:=by
 unfold aw.set;cases q:t.cells[i]? with
 |none=>exact hk
 |some c=>
  have F:=(x5.1 q).1;have y:=x6 q;have r:∀{b st:Nat},(∀c∈t.cells,c.st<=b)->st<=b->∀d∈t.cells.set i ⟨x,st⟩,d.st<=b:=λM B d a=>by
   rcases V0 a with a|rfl
   .exact M d a
   .exact B
  cases h with
  |nil=>
   obtain⟨h1,w,G,N⟩:=hk;simp only[h1,List.getLast?_nil];exact⟨rfl,w,r G (G c y),N⟩
  |cons s h=>
   obtain⟨h1,w,m,new,C,H,a3,a4,a5,I,J,z,a9,K,E,L⟩:=hk;simp only[Lv C];by_cases A:c.st<m.st/\i<m.cells
   .rw[m3 A];refine⟨h1,r w E,m,new++[⟨i,c⟩],C,H,a3,by show t.olds++_=_;rw[a4,X9],by show m.cells<=(t.cells.set i _).length;rw[o5];exact a5,?_,J,r z (p8 _),λj d e a he=>?_,λo p=>?_,E,L⟩
    .show (back (new++[⟨i,c⟩]) (t.cells.set i _)).take m.cells=_;rw[back_append];have:back [⟨i,c⟩] (t.cells.set i ⟨x,m.st⟩)=t.cells:=by
      show(t.cells.set i _).set i c=_;rw[List.set_set];refine X3 λj=>?_;rw[Y6];by_cases e:i=j
      .subst e;rw[m3 rfl,m3 F,q]
      .rw[m5 e]
     rw[this];exact I
    .have a:(t.cells.set i ⟨x,m.st⟩)[j]?=σ d:=a;by_cases f:i=j
     .exact⟨⟨i,c⟩,Ξ,f⟩
     .rw[Y6,m5 f]at a;obtain⟨o,p,he⟩:=a9 j d e a he;exact⟨o,List.mem_append_left _ p,he⟩
    .rcases j4.1 p with p|p
     .exact K o p
     .rw[j6.1 p];exact A.2
   .rw[m5 A];refine⟨h1,r w (w c y),m,new,C,H,a3,a4,by show m.cells<=(t.cells.set i _).length;rw[o5];exact a5,?_,J,r z (z c y),λj d e a he=>?_,K,E,L⟩
    .rw[<-I];show(back new (t.cells.set i _)).take m.cells=_;refine X3 λj=>?_;by_cases e:j<m.cells
     .rw[Y7 e,Y7 e];by_cases f:i=j
      .subst f;have B:c.st=m.st:=by
        have:=z c y;have:¬c.st<m.st:=λao=>A ⟨ao,e⟩;omega
       exact BF (by rw[o5]) (a9 i c e q B)
      .exact BG (by rw[Y6,m5 f]) (by rw[o5])
     .rw[Y4 (by rw[o8];omega),Y4 (by rw[o8];omega)]
    .have a:(t.cells.set i ⟨x,c.st⟩)[j]?=σ d:=a;by_cases f:i=j
     .subst f;rw[Y6,m3 rfl,m3 F]at a;cases a;exact a9 i c e q he
     .rw[Y6,m5 f]at a;exact a9 j d e a he
theorem eJ.iN:∀{h:List aw}{t:aw}{m:Nat}{s:aw},eJ t h->h.reverse[m]?=σ s->t.iN m={s with ever:=t.ever}/\∃x,t.marks[m]?=σ x/\x.olds=s.olds.length/\x.cells=s.cells.length/\s.cells.length<=t.cells.length/\(∃new,t.olds=s.olds++new/\(back new t.cells).take s.cells.length=s.cells/\∀o∈new,o.i<t.cells.length)/\s.marks=t.marks.take m/\s.ever<=t.ever
 |[],t,m,s,_,J=>by simp at J
 |s1::h,t,m,s,hk,J=>by
  obtain⟨h1,O,mk,new,q,y,a3,a4,a5,z,P,Q,a9,A,R,G⟩:=hk;have B:=h1.len;have key:∀{x:pm},t.marks[m]?=σ x->x.olds=s.olds.length->x.cells=s.cells.length->(∃e,t.olds=s.olds++e/\(back e t.cells).take s.cells.length=s.cells)->s.marks=t.marks.take m->t.iN m={s with ever:=t.ever}:=λ{x} f H I ⟨e,r,j⟩ p=>by
   unfold aw.iN;rw[f];simp only;rw[H,I,r,List.drop_left,List.take_left,j,<-p]
  rw[List.reverse_cons]at J;by_cases hm:m<h.length
  .rw[Y2 (by simpa using hm)]at J;obtain⟨_,x,K,C,E,S,⟨e,L,M,F⟩,N,T⟩:=eJ.iN h1 J;have f:t.marks[m]?=σ x:=by rw[q,Y2 Ω];exact K
   have r:t.olds=s.olds++(e++new):=by rw[a4,L,X9]
   have j:(back (e++new) t.cells).take s.cells.length=s.cells:=by
    rw[back_append];have:((back e (back new t.cells)).take mk.cells).take s.cells.length=s.cells:=by
     rw[w4 (λo a=>by have:=F o a;omega),z];exact M
    rw[List.take_take,Q6 Ω]at this;exact this
   have p:s.marks=t.marks.take m:=by rw[q,List.take_append_of_le_length Ω];exact N
   refine⟨key f C E ⟨_,r,j⟩ p,x,f,C,E,Ω,⟨_,r,j,λo a=>?_⟩,p,Ω⟩;rcases j4.1 a with a|a
   .have:=F o a;omega
   .have:=A o a;omega
  .have w:m=h.length:=by
    have:=(x5.1 J).1;simp at this;omega
   rw[Z7 Θ]at J;simp only[List.length_reverse,w,W8,List.getElem?_cons_zero,X4]at J;subst J;have f:t.marks[m]?=σ mk:=by rw[q,Z7 Ω,w,B,W8];rfl
   have p:s1.marks=t.marks.take m:=by rw[q,w,<-B,List.take_left]
   have j:(back new t.cells).take s1.cells.length=s1.cells:=by rw[<-a3];exact z
   exact⟨key f y a3 ⟨new,a4,j⟩ p,mk,f,y,a3,Ω,⟨new,a4,j,λo a=>by have:=A o a;omega⟩,p,G⟩
theorem aw.rx{t:aw}{i:Nat}{x:Int}:(t.set i x).bM=t.bM.set i x:=by
 unfold aw.set aw.bM;cases a:t.cells[i]? with
 |none=>rw[List.set_eq_of_length_le (by rw[u9];exact List.getElem?_eq_none_iff.1 a)]
 |some c=>
  simp only;cases t.marks.getLast? with
  |none=>simp only;rw[T2]
  |some m=>simp only;split<;>rw[T2]
theorem aw.Lw{t:aw}:(t.grow n).bM=t.bM++o4 n 0:=by
 unfold aw.grow aw.bM;rw[Z5,List.map_replicate]
end Go.Proofs.YtnhkbjhpbbobaaaGreatDoor
namespace Go.Vc
open Go Go.RowKit
section
variable{P:V5}{w:x4}{m:Bool}{S R:ah}
theorem tU{b k l:Nat}{low high:Option x1}(p:P.underlying t=σ (.slice e))(hi:aP P e k b z)(a:cg w k v n cs)(h1:nk low l)(q:nl high n h)(f:l<=h)(ao:h<=n)(r:∀j,cg w k j (h-l) ((cs.drop (l*k)).take ((h-l)*k))->K j):
  ab P (U5 t v low high ν) w K:=by
 have s:=a;obtain⟨_,x,o,base,cap,rfl,y,_⟩:=a;rw[gH p hi h1 q e2 f Ω (p8 _)];exact r _ (cg.part s f ao Ω (p8 _))
theorem Lx{b i:Nat}(j:y=(i:Int))(p:P.underlying t=σ (.slice e))(hi:aP P e 1 b z)(h:aM k w v l)(q:i<=l.length)(r:∀a,aM k w a (l.drop i)->K a):ab P (U5 t v (σ (.int f y)) ν ν) w K:=by
 refine tU p hi h (o3 i y j) j8 q (p8 _) λa aW=>r a (aM.of (n:=l.length-i) ?_);have s:((ints k l).drop (i*1)).take ((l.length-i)*1)=ints k (l.drop i):=by
  rw[j5 Ξ,T5,ints,<-List.map_drop]
 rw[s]at aW;exact aW
theorem Ly{b i:Nat}(j:y=(i:Int))(p:P.underlying t=σ (.slice e))(hi:aP P e 1 b z)(h:aM k w v l)(q:i<=l.length)(r:∀a,aM k w a (l.take i)->K a):ab P (U5 t v ν (σ (.int f y)) ν) w K:=by
 refine tU p hi h j7 (pa i y j) (X7 _) q λa aW=>r a (aM.of (n:=i) ?_);have s:((ints k l).drop (0*1)).take ((i-0)*1)=ints k (l.take i):=by
  simp[ints,List.map_take]
 rw[s]at aW;exact aW
theorem w5{b:Nat}{parts:Array (Nat×x1)}{K:x1->x4->Prop}(a:P.underlying t=σ (.slice e))(hi:aP P e 1 b (Δ 0))(x:n<=100000)(f:l.length=n)(h:Instr.fill (λj=>σ (j*1,1)) ((Array.range (n*1)).map ((if n*1=0 then#[]else(U6 .i64 0).cells)[·% (if n*1=0 then#[]else(U6 .i64 0).cells).size]!)) parts.toList=σ (ints .i64 l).toArray)(p:∀v g I,g=w.heap.size->Ext w I->aA .i64 e I g v l->K v I):aH P (X2 t n parts) w K:=
 lL a hi Ω h λg I q r s=>p _ g I q r (aA.of (b0.full (by simpa using s) (by simp[f]) (by simp[maxLen];omega)))
end
section
variable{P:V5}{w:x4}
theorem Lz{h p:p9}{q kn:o7}{b k cap:Nat}{base:Option Addr}{K:x1->x4->Prop}(x:y=(k:Int))(A:P.underlying t=σ (.slice e))(B:P.underlying h=σ (.int kn))(hi:aP P e 1 b z)(C:z.cells= #[z])(J:cg w 1 (.slice base n cap) n xs)(E:0<k)(r:cap<n+k)(F:(n+k)*b<=140737488355328)(G:n+k<=9223372036854775807)(H:∀v g I,g=w.heap.size->Ext w I->b0 I g e 1 v (n+k) (xs++o4 k z)->K v I):aH P (Y0 #[t,h] p #[.slice base n cap,.int q y]) w K:=by
 subst x;obtain⟨i,hi,L,rfl,M⟩:=hi;obtain⟨f,X,o,Y,Z,he,N,aa,O,Q⟩:=J;cases he;have R:(Y1.firstCells i.size n (.slice base n cap)).run P w.drew= .ok xs.toArray w.drew:=by
  rcases P8 n with rfl|S
  .have:xs=[]:=c9 (by simpa using f);subst this;cases base with
   |none=>exact run_firstCells_none w.drew i.size 0 0 cap
   |some a=>exact run_firstCells_some w.drew i.size 0 a 0 cap [] Ξ Ξ
  .have:=O S;subst this;refine run_firstCells_some w.drew i.size n _ n cap xs (by rw[L];exact f) λj u hu=>?_;rw[T8];exact Q j u hu
 have T:k*i.bytes<=281474976710656:=by
  have:k*i.bytes<=(n+k)*i.bytes:=Y5 _ Ω;omega
 have U:=Lib.run_append_grow_zeros (P:=P) w t h p e i z q kn A B hi M base n cap xs R k E Ω r Ω T (growslice_fits r F);have V:n+k<=grownCap w (n+k) cap e:=grownCap_ge w _ _ _;have W:grownCap w (n+k) cap e<=maxLen:=grownCap_le_maxLen w (n+k) cap e (by simpa[maxLen]using G);have s:∀m,Y1.zeroCells z.cells m=(o4 m z).toArray:=λm=>by
  rw[C];apply Array.ext
  .simp[size_zeroCells]
  .intro j h1 N;simp[Y1.zeroCells,Nat.mod_one]
 refine .of U ((q4 w _ (Nat.le_succ _)).F (q6 _ _)) (H _ w.heap.size _ rfl ((sY w _).F (q5 _ _)) ⟨by simp at f;simp[f],.inr ⟨_,xs++o4 k z++o4 (grownCap w (n+k) cap e-(n+k)) z,rfl,?_,V,W,?_,?_⟩⟩)
 .rw[s,s];have:=heap_alloc_new w.drew (.cells (xs.toArray++(o4 k z).toArray++(o4 (grownCap w (n+k) cap e-(n+k)) z).toArray) e);rw[List.append_toArray,List.append_toArray]at this ⊢;exact this
 .simp at f;simp[f];omega
 .simp at f;rw[List.take_append_of_le_length (by simp[f]),j5 (by simp[f])]
theorem BH{a:p9}{base:Option Addr}(f:P.underlying t=σ (.slice e)):
  ab P (Y1.cap_ #[t] a #[.slice base n c]) w K=K (Δ c):=ab.of λI _=>by simp[Y1.cap_,run_underlying f,goInt]
theorem LA{g o k:Nat}(h:ag w g e cs)(hk:o+k<=cs.length)(f:k<=c)(p:c<=maxLen):cg w 1 (.slice (σ ⟨g,o,ν⟩) k c) k ((cs.drop o).take k):=by
 refine⟨Θ,g,o,_,c,rfl,f,p,λ_=>rfl,λj v a=>?_⟩;have q:=(x5.1 a).1;simp at q;rw[Y7 Ω,List.getElem?_drop]at a;exact h.cell a
theorem BI{h p:p9}{q g o cap:Nat}{K:x1->x4->Prop}(s:P.underlying t=σ (.slice e))(hi:aP P e 1 q z)(x:z.cells= #[z])(h1:z.oneCell'=ro)(a:ag w g p cs)(y:0<n)(F:o+n<=cs.length)(A:∀I,af (λr=>r=g) w I->I.heap.size=w.heap.size->ag I g p (over cs o (o4 n z))->K (.tuple #[]) I):aH P (Y1.clear_ #[t] h #[.slice (σ ⟨g,o,ν⟩) n cap]) w K:=by
 obtain⟨i,hi,G,rfl,B⟩:=hi;have C:=Lib.run_clear_slice (P:=P) w t e h z s (λw=>by simp[zeroValue,typeInfo,hi,B]) x h1 g o n cap y
  (λj H=>by rw[a.cell (x7 (show o+j<cs.length by omega))];rfl) (λj _=>a.frozen _ _)
 obtain⟨E,f⟩:=pd (o4 n z) cs o w a;exact .of C (f.cu a) (A _ f.V f.size E)
end
section
variable{P:V5}{w:x4}
theorem jB{a:p9}{i b g:Nat}(j:y=(i:Int))(p:P.underlying t=σ (.slice e))(hi:aP P e 1 b z)(h:aA k a w g v l)(q:i<l.length):ab P (Z0 t v (.int f y)) w K=K (.pointer (σ ⟨g,i,ν⟩)):=by
 subst j;obtain⟨_,⟨_,r⟩|⟨cap,cs,rfl,_⟩⟩:=h
 .omega
 .rw[fd p hi q (λ_=>rfl)];simp
theorem qm{i b:Nat}{x:Int}(j:y=(i:Int))(p:P.underlying t=σ (.slice e))(hi:aP P e 1 b z)(h:aM k w v l)(a:l[i]?=σ x)(q:∀b o,w.cell? ⟨b,o,ν⟩=σ (.int k x)->K (.pointer (σ ⟨b,o,ν⟩))):ab P (Z0 t v (.int f y)) w K:=by
 subst j;have r:=(x5.1 a).1;obtain⟨_,_,_,_,_,rfl,_,_,s,A⟩:=h;rw[fd p hi r s,T5];exact q _ _ (A i _ (mo a))
theorem jC{a:p9}{i b g:Nat}{x:Int}{K:Unit->x4->Prop}(hi:aP P e 1 b z)(h:aA k a w g v l)(E:i<l.length)(p:∀I,af (λr=>r=g) w I->I.heap.size=w.heap.size->aA k a I g v (l.set i x)->K () I):aH P (n9 e (.pointer (σ ⟨g,i,ν⟩)) (.int k x)) w K:=by
 obtain⟨F,⟨_,G⟩|⟨cap,full,rfl,q,s,y,f,j⟩⟩:=h
 .omega
 .have A:i<full.length:=by simp at f;omega
  refine bq hi rfl rfl q A λI B J C=>p I B J ⟨Ξ,.inr ⟨cap,full.set i (.int k x),Ξ,C,by simpa using s,y,by simpa using f,?_⟩⟩;simp only[o5,T5]at j ⊢;rw[List.take_set,j,ints,ints,T2]
theorem kD{b o:Nat}(a:k2 P t=ro)(h:w.cell? ⟨b,o,ν⟩=σ v):cE P (u5 t (.pointer (σ ⟨b,o,ν⟩))) v w:=λI e=>by
 have aW:=j2 e h;unfold k2 at a;cases hu:P.underlying t with
 |none=>rw[hu]at a;cases a
 |some d=>
  rw[hu]at a;cases d<;>first|(cases a;done)|simp[u5,Instr.sureAddr,loadVar,isAgg,run_underlying hu,aW]
theorem jk{S:ah}(h:aM k w v l)(p:af S w I)(q:∀r,S r->∀a n c,v= .slice (σ a) n c->a.block≠r):aM k I v l:=by
 obtain⟨h1,b,o,base,cap,rfl,s,x,e,y⟩:=h;refine⟨h1,b,o,base,cap,rfl,s,x,e,?_⟩;rcases P8 l.length with f|f
 .intro j u hu;have:=(x5.1 hu).1;simp at this;omega
 .have z:=e f;subst z;exact iu p (λh=>q _ h _ _ _ rfl rfl) y
end
end Go.Vc
namespace Go.Vc
open Go Go.RowKit Go.ChangeShapes Go.WideShapes
structure n5(P:V5)(t:p9)(α:Type)[av α](G:α->Prop):Prop where
 op:∀{H:Type}{enc:p9×x1->H}{w:x4}{base:Nat}{spare:Nat->Bool}{held:Bool}{fuel:Nat}{cs:List x1}{x:DataW H×List MemPlace},
  DataW.trod enc P w base spare held fuel t cs=σ x->∃a:α,Seen eT w cs a/\G a
section
variable{P:V5}{α β:Type}[av α][av β]
theorem BJ{n:Int}(h:(Lit.int k n).wf=ro):k.min<=n/\n<=k.max:=by simpa[Lit.wf]using h
theorem LB(a:P.underlying t=σ (.int k)):n5 P t (np k) λn=>k.min<=n.val/\n.val<=k.max:=⟨λh=>by
 obtain⟨n,rfl,_,hw⟩:=DataW.trod_int a h;exact⟨(n:Int),rfl,BJ hw⟩⟩
theorem tV(a:P.underlying t=σ (.int .i64)):n5 P t Int λn=>W6.min<=n/\n<=W6.max:=⟨λh=>by
 obtain⟨n,rfl,_,hw⟩:=DataW.trod_int a h;exact⟨n,rfl,BJ hw⟩⟩
theorem LC(a:Addr)(m n:Nat):(a.add m).add n=a.add (m+n):=by
 unfold Addr.add;by_cases hm:m=0<;>by_cases e:n=0<;>simp[hm,e,R5]
theorem LD{base:Nat}{a:Addr}(h:w.cells? base a n=σ cs):cs.length=n/\∀j v,cs[j]?=σ v->w.cell? (a.add j)=σ v:=by
 unfold x4.cells? at h;split at h
 .have f:cs.length=n:=by
   have:=mapM_some_length h;simpa using this
  refine⟨f,λj v e=>?_⟩;have p:=(x5.1 e).1;have:=mapM_some_get h j j (List.getElem?_range Ω);rw[this,e]
 .cases h
theorem LF{G:α->Prop}(M:P.underlying t=σ (.slice e))(he:n5 P e α G)(N:P.cellsOf e=av.n α)(V:0<av.n α):n5 P t (List α) λl=>∀a∈l,G a:=by
 constructor;intro H enc w base W X fuel cs x h;rcases DataW.trod_slice M h with⟨rfl,_⟩|⟨a,len,cap,Y,rest,n,_,rfl,rfl,Z,aa,hm,ab,O,_,_⟩
 .exact⟨[],iM,λ_ h=>by cases h⟩
 .
  have K:∀i,i<len->∃(c:List x1)(y:α),c.length=av.n α/\(∀j v,c[j]?=σ v->w.cell? (a.add (i*av.n α+j))=σ v)/\Seen eT w c y/\G y:=by
   intro i hi;have h1:=O i hi;rw[x7 Ω,N,Option.bind_eq_some_iff]at h1;obtain⟨c,r,s⟩:=h1;obtain⟨B,C⟩:=LD r;obtain⟨y,E,Q⟩:=he.op s;exact⟨c,y,B,λj v q=>by have:=C j v q;rwa [LC]at this,E,Q⟩
  have all:∀m,m<=len->∃(vs:List (List x1))(l:List α),vs.length=m/\l.length=m/\(∀c∈vs,c.length=av.n α)/\(∀(j:Nat)(v:x1),vs.flatten[j]?=σ v->w.cell? (a.add j)=σ v)/\
    (∀(i:Nat)(c:List x1)(y:α),vs[i]?=σ c->l[i]?=σ y->Seen eT w c y)/\∀y∈l,G y:=by
   intro m;induction m with
   |zero=>exact λ_=>⟨[],[],rfl,rfl,(λ_ h=>by cases h),(λj v h=>by simp at h),(λi c y h=>by simp at h),(λ_ h=>by cases h)⟩
   |succ m R=>
    intro hm;obtain⟨vs,l,h1,r,s,B,C,E⟩:=R Ω;obtain⟨c,y,g1,F,S,T⟩:=K m Ω;refine⟨vs++[c],l++[y],by simp[h1],by simp[r],λd f=>?_,λj v q=>?_,λi d z f p=>?_,λz p=>?_⟩
    .rcases j4.1 f with f|f
     .exact s d f
     .simp at f;subst f;exact g1
    .have A:=kz s;rw[h1]at A;rw[List.flatten_append]at q;by_cases U:j<m*av.n α
     .rw[Y2 Ω]at q;exact B j v q
     .rw[Z7 Ω,A]at q;simp at q;have:=F _ v q;rwa [show m*av.n α+(j-m*av.n α)=j by omega]at this
    .by_cases hi:i<m
     .rw[Y2 Ω]at f p;exact C i d z f p
     .have I:=(x5.1 f).1;simp[h1]at I;have I:i=m:=Ω
      subst I;rw[Z7 Ω,h1]at f;rw[Z7 Ω,r]at p;simp at f p;subst f p;exact S
    .rcases j4.1 p with p|p
     .exact E z p
     .simp at p;subst p;exact T
  obtain⟨vs,l,h1,r,s,B,C,E⟩:=all len (p8 _);have A:=kz s;rw[h1]at A;have L:0<len->a=⟨a.block,a.off,ν⟩:=λJ=>by
   obtain⟨c,y,g1,F,_⟩:=K 0 Ω;have:=F 0 c[0] (x7 Ω);rw[Nat.zero_mul]at this;exact wW this
  refine⟨l,⟨_,rfl,vs,0,λ_ _=>False,⟨λ_ _ h=>h.elim,(λh=>by cases h),(λh=>by cases h)⟩,⟨Ω,C⟩,⟨by rw[A,r],a.block,a.off,σ a,cap,by rw[r],Ω,hm,λJ=>congrArg σ (L Ω),λ_=>.inr trivial,λj v q=>?_⟩,λh=>by cases h⟩,E⟩;have:=B j v q;have U:=(x5.1 q).1;have J:0<len:=by
   rcases P8 len with h|h
   .rw[h,Nat.zero_mul]at A;omega
   .exact h
  rw[L J,T8]at this;exact this
structure tW(P:V5)(fs:List Field)(off:Nat)(α:Type)[av α](G:α->Prop):Prop where
 op:∀{H:Type}{enc:p9×x1->H}{w:x4}{base:Nat}{spare:Nat->Bool}{held:Bool}{n:Nat}{cs:List x1},cs.length=off+av.n α->
  (∀f∈fs,∃x,DataW.trod enc P w base spare held n f.type ((cs.drop f.offset).take (P.cellsOf f.type))=σ x)->∃a:α,Seen eT w (cs.drop off) a/\G a
theorem LG{f:Field}{G:α->Prop}(h:n5 P f.type α G)(e:f.offset=off)(j:P.cellsOf f.type=av.n α):tW P [f] off α G:=by
 constructor;intro H enc w base s y n cs z p;obtain⟨x,q⟩:=p f (.head _);obtain⟨a,h1,r⟩:=h.op q;rw[e,j,j5 Θ]at h1;exact⟨a,h1,r⟩
theorem tX{f:Field}{e:List Field}{G:α->Prop}{j:β->Prop}(h:n5 P f.type α G)(r:f.offset=off)(s:P.cellsOf f.type=av.n α)(y:tW P e (off+av.n α) β j):
  tW P (f::e) off (α×β) λp=>G p.1/\j p.2:=by
 constructor;intro H enc w base F I n cs J q;obtain⟨x,z⟩:=q f (.head _);obtain⟨a,h1,A⟩:=h.op z;rw[r,s]at h1;have K:av.n (α×β)=av.n α+av.n β:=rfl;obtain⟨b,B,C⟩:=y.op Ω λg E=>q g (.tail _ E);refine⟨(a,b),⟨(cs.drop off).take (av.n α),cs.drop (off+av.n α),λ_=>False,λ_=>False,?_,λ_ h=>h,λ_ h=>h,(λh=>by cases h),h1,B⟩,A,C⟩;rw[<-List.drop_drop,List.take_append_drop]
theorem LH{a:List Field}{G:α->Prop}(e:P.underlying t=σ (.struct a.toArray))(j:tW P a 0 α G)(y:P.cellsOf t=av.n α):n5 P t α G:=by
 constructor;intro H enc w base z A fuel cs x h;obtain⟨xs,n,_,rfl,B,p,q⟩:=DataW.trod_struct e h;have:=j.op (cs:=cs) Ω λf r=>by
  obtain⟨i,hi,rfl⟩:=List.mem_iff_getElem.1 r;have s:i<xs.length:=by simpa[p]using hi
  have:=q i a[i] (by simp[hi]);rw[x7 s]at this;exact⟨_,this⟩
 simpa using this
end
end Go.Vc
