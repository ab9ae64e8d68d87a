/- own texts, made small by a tool (wip/ holds them as they were written): no statement of the seat. -/
import Derived.RangeFuncNested
import Derived.RangeFuncLeaves
import Derived.OrdersIn
import Derived.KernelRfl
import Derived.Deep.Upon
import Derived.RangeFuncBound
import Derived.Deep.MidRow
import Derived.Laws.Cover3
import Derived.Laws.Pointers
import Derived.Laws.StructEq
import Derived.Laws.Tables
import Derived.Below
import Derived.Laws.MakeOwn
import Derived.Lib.Overlaps
import Derived.Lib.AppendZerosOnto
import Derived.Lib.SliceRun
import Derived.OpenShut
import Derived.Lib.ConvBytes
import Derived.Laws.BytesArg
import Derived.Laws.Concat
import Derived.MapKept
import Derived.Carry
import Derived.WideKeyArr
import Derived.WideKeyMaps
import Derived.Laws.IdiomRangeMap
import Derived.Shelf.SlSortCmp.NoneTotal
import Derived.Shelf.SlSortCmp.WholeK
import Derived.Ground.SlsfProg
import Derived.WideKeyEntry
import Derived.WalkKit
import Derived.Test.YtlcdcbgoaljiiaaGreatDoorProg
import Derived.Test.YtlcdcbgoaljiiaaGreatDoorChecked
set_option linter.unusedVariables false
set_option linter.unusedSimpArgs false
set_option linter.unnecessarySimpa false
open Array renaming getElem?_eq_some_iff→Y1
open BitVec renaming ofInt→U6
open Bool renaming false→sp,true→s2,not_true→Y7,not_false→X5,eq_iff_iff→U1,and_eq_true→T9
open Decidable renaming not_not→X1
open Go renaming Value→x4,World→x5,TypeId→o4,IntKind→o8,Builtin→Z2,Program→X8,Oper→U9,Operand→S1,FuncId→S8
open Go.Addr renaming add_mid→U8
open Go.Builtin renaming append_→c9,len_→X7
open Go.Instr renaming loadAt→u5,fieldAt→u6,storeAt→o7,indexAt→n9,extract→Z7,buildSlice→Y3,sliceAt→V5
open Go.IntKind renaming i64→X4,u64→U4
open Go.Proofs.Tryz renaming prog→x8
open Go.Result renaming andThen→W8
open Go.Sem renaming run_bind→W5,run_pure→V2
open Go.Sort renaming Holds→S2
open Go.Value renaming int→V3
open Go.World renaming putObj_heap_other→S9
open Int renaming toNat_natCast→u7,eq_ofNat_of_zero_le→W9,le_refl→T3
open List renaming getElem?_eq_some_iff→x6,mem_of_getElem?→x7,getElem?_eq_getElem→v8,getElem?_map→u4,take_add_one→u9,getD_eq_getElem?_getD→r8,length_map→r9,replicate→o5,take_length→o9,mem_map→l9,take_of_length_le→j5,length_append→j6,mem_append→j9,eq_nil_of_length_eq_zero→b8,map_append→Z0,length_take→Z3,length_set→Y0,ext_getElem?→Y2,range→Y9,drop_eq_getElem_cons→X2,getElem?_append_right→X3,getElem?_set→X6,length_eq_one_iff→X9,length_cons→W0,getElem?_take_of_lt→V1,getElem?_append_left→V9,map_set→U2,set_append_right→U7,append_nil→T5,map_map→T6,getElem_mem→S3
open Nat renaming le_refl→o6,le_trans→X0,zero_le→W3,zero_add→V0,mul_le_mul_right→V4,sub_self→V7,mul_one→U3,add_mul→T7,beq→S5
open Option renaming toList_some→j4,isNone_some→b9,map_some→Y6,map→V6
open Option.some renaming inj→Z5,injEq→W6
open Prod.mk renaming injEq→R2
set_option maxHeartbeats 16000000
open Option renaming some→σ,none→ν
abbrev Λ:=List Int
namespace Go
theorem _root_.Eq.F{α:Sort _}{a b c:α}(h:a=b)(g:b=c):a=c:=h.trans g
theorem _root_.Iff.F{a b c:Prop}(h:a<->b)(g:b<->c):a<->c:=h.trans g
theorem _root_.List.Perm.F{α:Type _}{a b c:List α}(h:a.Perm b)(g:b.Perm c):a.Perm c:=h.trans g
set_option linter.defProp false in
def _root_.Go.Calls.Y:=@Calls.mono
theorem _root_.m3{c:Prop}{h:Decidable c}(hc:c){α:Sort _}{t e:α}:ite c t e=t:=if_pos hc
theorem _root_.m5{c:Prop}{h:Decidable c}(hnc:¬c){α:Sort _}{t e:α}:ite c t e=e:=if_neg hnc
theorem _root_.m6{a b:Prop}(h:a)(g:¬a):b:=absurd h g
theorem _root_.ms{p:Prop}[Decidable p](h:p):decide p=true:=decide_eq_true h
theorem _root_.rc{p:Prop}[Decidable p](h:¬p):decide p=false:=decide_eq_false h
theorem _root_.ro{p:Prop}[Decidable p]:(decide p=true)=p:=decide_eq_true_eq
theorem _root_.rs{p:Prop}[Decidable p](h:decide p=true):p:=of_decide_eq_true h
theorem Ω{p:Prop}(h:p:=by omega):p:=h
theorem Ψ{p:Prop}(h:p:=by kernel_rfl):p:=h
theorem Φ{p:Prop}(h:p:=by decide):p:=h
theorem Ξ{p:Prop}(h:p:=by simp):p:=h
theorem Θ{p:Prop}(h:p:=by simp;omega):p:=h
abbrev Γ(n:Nat):Value:=.pointer (some ⟨n,0,none⟩)
abbrev Δ:Int→Value:=Value.int .i64
end Go
variable{a y:Int}{I c w:x5}{S:Nat->Prop}{h j n:Nat}{aX s1 sv v z:x4}{args cs vs xs:List x4}{K:x4->Prop}{an l:Λ}{D:List Nat}{k:o8}{e f t:o4}{cx cy:Bool}
namespace Go.Vc
open Go Go.RowKit
def fW:Obj->Bool
 | .loop _=>sp
 | .deferred _=>sp
 | .mapIter ..=>sp
 |_=>s2
def book:Obj->Bool
 | .loop _=>s2
 | .deferred _=>s2
 |_=>sp
theorem zH{o:Obj}(h:book o=s2):fW o=sp:=by cases o<;>first|rfl|cases h
def ta:Obj->Bool
 | .mapIter ..=>s2
 |_=>sp
theorem Hq{o:Obj}(h:ta o=s2):fW o=sp:=by cases o<;>first|rfl|cases h
structure Ext(w I:x5):Prop where
 size:w.heap.size<=I.heap.size
 a8:∀(r:Nat)(o:Obj),w.heap[r]?=σ o->fW o=s2->I.heap[r]?=σ o
theorem Ext.refl(w:x5):Ext w w:=⟨o6 _,λ_ _ h _=>h⟩
theorem Ext.F{a b:x5}(h:Ext a b)(k:Ext b c):Ext a c:=
 ⟨X0 h.size k.size,λr o e V=>k.a8 r o (h.a8 r o e V) V⟩
structure ai(S:Nat->Prop)(w I:x5):Prop where
 size:w.heap.size<=I.heap.size
 a8:∀(r:Nat)(o:Obj),w.heap[r]?=σ o->fW o=s2->¬S r->I.heap[r]?=σ o
theorem Ext.aa(S:Nat->Prop)(h:Ext w I):ai S w I:=⟨h.size,λr o a V _=>h.a8 r o a V⟩
theorem ai.W(h:ai S w I)(e:∀r,r<w.heap.size->¬S r):Ext w I:=
 ⟨h.size,λr o a V=>h.a8 r o a V (e r (Y1.1 a).1)⟩
theorem ai.refl(S:Nat->Prop)(w:x5):ai S w w:=⟨o6 _,by grind⟩
theorem ai.F{a b:x5}(h:ai S a b)(k:ai S b c):ai S a c:=
 ⟨X0 h.size k.size,λr o f V e=>k.a8 r o (h.a8 r o f V e) V e⟩
theorem ai.Y{T:Nat->Prop}{a b:x5}(h:ai S a b)(f:∀r,r<a.heap.size->S r->T r):ai T a b:=
 ⟨h.size,λr o e V j=>h.a8 r o e V λq=>j (f r (Y1.1 e).1 q)⟩
theorem Ext.then{a b:x5}(h:Ext a b)(k:ai S b c)(f:∀r,r<a.heap.size->¬S r):Ext a c:=
 ⟨X0 h.size k.size,λr o e V=>k.a8 r o (h.a8 r o e V) V (f r (Y1.1 e).1)⟩
def kW(w I:x5):Prop:=I.tape=w.tape/\w.drawn<=I.drawn
theorem kW.lC(h:I.tape=w.tape:=by rfl)(k:I.drawn=w.drawn:=by rfl):kW w I:=⟨h,Nat.le_of_eq k.symm⟩
theorem kW.F{a b:x5}(k:kW b c)(h:kW a b):kW a c:=⟨k.1.F h.1,X0 h.2 k.2⟩
structure cS(w I:x5):Prop where
 os:I.os=w.os
 tape:kW w I
 output:I.output=w.output
 size:w.heap.size<=I.heap.size
 a8:∀(r:Nat)(o:Obj),w.heap[r]?=σ o->fW o=sp->I.heap[r]?=σ o
structure cP(n:Nat)(w I:x5):Prop where
 os:I.os=w.os
 tape:kW w I
 output:I.output=w.output
 size:w.heap.size<=I.heap.size
 a8:∀(r:Nat)(o:Obj),w.heap[r]?=σ o->book o=s2->I.heap[r]?=σ o
 old:∀(r:Nat)(o:Obj),r<n->w.heap[r]?=σ o->fW o=sp->I.heap[r]?=σ o
theorem cS.b(h:cS w I):cP n w I:=⟨h.os,h.tape,h.output,h.size,λr o a V=>h.a8 r o a (zH V),λr o _ a V=>h.a8 r o a V⟩
theorem cP.refl(n:Nat)(w:x5):cP n w w:=⟨rfl,.lC,rfl,o6 _,λ_ _ h _=>h,by grind⟩
theorem cP.F{a b:x5}(h:cP n a b)(k:cP n b c):cP n a c:=
 ⟨k.os.F h.os,k.tape.F h.tape,k.output.F h.output,X0 h.size k.size,λr o e V=>k.a8 r o (h.a8 r o e V) V,λr o f e V=>k.old r o f (h.old r o f e V) V⟩
theorem cP.cQ(h:cP n w I)(e:w.heap.size<=n):cS w I:=
 ⟨h.os,h.tape,h.output,h.size,λr o a V=>h.old r o (Nat.lt_of_lt_of_le (Y1.1 a).1 e) a V⟩
structure fX(n:Nat)(w I:x5):Prop where
 os:I.os=w.os
 tape:kW w I
 output:I.output=w.output
 size:w.heap.size<=I.heap.size
 old:∀(r:Nat)(o:Obj),r<n->w.heap[r]?=σ o->fW o=sp->I.heap[r]?=σ o
theorem cP.o(h:cP n w I):fX n w I:=⟨h.os,h.tape,h.output,h.size,h.old⟩
theorem cS.o(h:cS w I):fX n w I:=⟨h.os,h.tape,h.output,h.size,λr o _ a V=>h.a8 r o a V⟩
theorem fX.Y{m:Nat}(h:fX n w I)(hm:m<=n):fX m w I:=⟨h.os,h.tape,h.output,h.size,λr o a=>h.old r o (Nat.lt_of_lt_of_le a hm)⟩
theorem cP.zI{m:Nat}{a b:x5}(h:cP n a b)(k:fX m b c)(hm:a.heap.size<=m):cP n a c:=
 ⟨k.os.F h.os,k.tape.F h.tape,k.output.F h.output,X0 h.size k.size,
  λr o e V=>k.old r o (Nat.lt_of_lt_of_le (Y1.1 e).1 hm) (h.a8 r o e V) (zH V),
  λr o f e V=>k.old r o (Nat.lt_of_lt_of_le (Y1.1 e).1 hm) (h.old r o f e V) V⟩
def fj(w I:x5):Prop:=∀(r:Nat)(o:Obj),w.heap[r]?=σ o->ta o=s2->I.heap[r]?=σ o
theorem fj.refl(w:x5):fj w w:=λ_ _ h _=>h
theorem fj.F{a b:x5}(h:fj a b)(k:fj b c):fj a c:=λr o e V=>k r o (h r o e V) V
theorem cS.kv(h:cS w I):fj w I:=λr o a V=>h.a8 r o a (Hq V)
abbrev fY:=Bool×Nat
theorem cS.refl(w:x5):cS w w:=⟨rfl,.lC,rfl,o6 _,λ_ _ h _=>h⟩
theorem cS.F{a b:x5}(h:cS a b)(k:cS b c):cS a c:=
 ⟨k.os.F h.os,k.tape.F h.tape,k.output.F h.output,X0 h.size k.size,λr o e V=>k.a8 r o (h.a8 r o e V) V⟩
theorem tb(w:x5)(n:Nat):Ext w {w with drawn:=n}:=⟨o6 _,λ_ _ h _=>h⟩
theorem rn(w:x5)(n:Nat)(h:w.drawn<=n):cS w {w with drawn:=n}:=⟨rfl,⟨rfl,h⟩,rfl,o6 _,λ_ _ h _=>h⟩
theorem rp(w:x5)(o:Obj):Ext w {w with heap:=w.heap.push o}:=
 ⟨Ξ,λr o' h _=>by
  grind⟩
theorem rq(w:x5)(o:Obj):cS w {w with heap:=w.heap.push o}:=
 ⟨rfl,.lC,rfl,Ξ,λr o' h _=>by
  grind⟩
inductive eU where
 |v (x:x4)
 |b (c:Bool)
 |u
def eU.val:eU->x4
 | .v x=>x
 | .b c=>.bool c
 | .u=>undef
def eU.ofConst:x4->eU
 | .bool c=>.b c
 |x=>.v x
theorem eU.Hr(x:x4):(eU.ofConst x).val=x:=by cases x<;>rfl
abbrev Env:=List (Nat×eU)
def look:Env->Nat->Option eU
 |[],_=>ν
 |(s,x)::r,t=>bif S5 s t then σ x else look r t
def e1(e:Env):S1->Option eU
 | .tmp t=>look e t
 | .const x=>σ (eU.ofConst x)
 | .global g=>σ (.v (Γ g))
 | .func f=>σ (.v (.func (.func f) #[] #[]))
def c3(e:Env)(x:S1):x4:=
 match e1 e x with
 |some y=>y.val
 |none=>undef
def known(e:Env):List S1->Bool
 |[]=>s2
 |x::r=>(e1 e x).isSome&&known e r
def S2(N:Nat)(e:Env)(a:Act):Prop:=
 a.tmps.size=N/\∀t x,look e t=σ x->a.tmps.getD t undef=x.val
theorem S2.e1{N:Nat}{e:Env}{a:Act}(h:S2 N e a){x:S1}{y:eU}(J:Vc.e1 e x=σ y):a.eval x=y.val:=by
 cases x with
 |tmp t=>exact h.2 t y J
 |const v=>simp[Vc.e1]at J;subst J;simp[Act.eval,eU.Hr]
 |global g=>simp[Vc.e1]at J;subst J;rfl
 |func f=>simp[Vc.e1]at J;subst J;rfl
theorem S2.eval{N:Nat}{e:Env}{a:Act}(h:S2 N e a){x:S1}(J:(Vc.e1 e x).isSome=s2):a.eval x=c3 e x:=by
 obtain⟨y,f⟩:=Option.isSome_iff_exists.1 J;rw[h.e1 f];simp[c3,f]
theorem zJ{e:Env}:∀{l:List S1},known e l=s2->∀x∈l,(e1 e x).isSome=s2
 :=by
 intro a;induction a<;>grind [known]
def er(e:Env)(d:Option Tmp)(x:eU):Env:=
 match d with
 |some t=>(t,x)::e
 |none=>e
def kX(N:Nat)(d:Option Tmp):Bool:=
 match d with
 |some t=>Nat.blt t N
 |none=>s2
theorem S2.put{N:Nat}{e:Env}{a:Act}(h:S2 N e a){d:Option Tmp}(r:kX N d=s2){x:eU}(ac:x.val=v):
  S2 N (er e d x) (a.put d v):=by
 cases d with
 |none=>exact h
 |some t=>
  have q:t<N:=by grind [kX,Nat.blt_eq]
  refine⟨by simp[Act.put,h.1],λs y V=>?_⟩;simp only[er,look]at V;cases f:S5 t s with
  |true=>
   have j:=Nat.eq_of_beq_eq_true f;subst j;simp only[f,cond_true,W6]at V;subst V;simp[Act.put,h.1,q,ac]
  |false=>
   have j:=Nat.ne_of_beq_eq_false f;simp only[f,cond_false]at V;have:=h.2 s y V;simp only[Act.put,Array.getD_eq_getD_getElem?]at this ⊢
   grind
def eV(r:Option Nat):Fence:={Fence.wide with round:=r}
theorem vY(r:Option Nat)(n:Nat):(eV r).depth.isSome=s2->1<=n:=by grind [eV,Fence.wide]
theorem zK{r:Option Nat}{P:X8}{f:S8}{args:Array x4}{R:Ending->x5->Prop}(h:Calls P f args w R):CallsIn (eV r) n P f args w R:=by
 have:=(callsIn_wide (n:=n)).2 h;exact this
section
variable(P:X8)
def aL{α:Type}(s:Sem α)(w:x5)(K:α->x5->Prop):Prop:=∃v I,s.run P w= .ok v I/\cS w I/\K v I
def tc{α:Type}(free:fY)(s:Sem α)(w:x5)(K:α->x5->Prop):Prop:=∃v I,s.run P w= .ok v I/\(free.1=sp->cP free.2 w I)/\K v I
def Split(x:x4)(A B:Prop):Prop:=∃c,x= .bool c/\(c=s2->A)/\(c=sp->B)
def bg:Bool->S1
 |true=>.const (.bool s2)
 |false=>.tmp 0
def qd:S1->Bool
 | .const _=>s2
 |_=>sp
theorem Hs(op:BinOp)(t:o4)(x y:S1)(a b:x4):eqGuard op t x y a b=eqGuard op t (bg (qd x)) (bg (qd y)) a b:=by
 cases x<;>cases y<;>rfl
def aS(op:BinOp)(t:o4)(cx cy:Bool)(a b:x4):Sem x4:=do eqGuard op t (bg cx) (bg cy) a b;binOp op t a b
def td(s:Sem Next):Sem x4:=do
 match <-s with
 | .value v=>pure v
 |_=>stuck "no value"
def b0(x:x4):Sem x4:=td (execOp (λ_=>x) {dst:=ν,op:=.nilCheck (.tmp 0),type:=0,pos:= "",after:=#[],guard:=ν})
def cb(a:S1->x4):List S1->List x4
 |[]=>[]
 |x::r=>a x::cb a r
theorem te(a:S1->x4):∀l,cb a l=l.map a
 |[]=>rfl
 |x::r=>by simp[cb,te a r]
theorem vZ(a:S1->x4)(l:Array S1):(cb a l.toList).toArray=l.map a:=by
 grind [te]
def partsOf(a:S1->x4):List (Nat×S1)->List (Nat×x4)
 |[]=>[]
 |x::r=>(x.1,a x.2)::partsOf a r
theorem zL(a:S1->x4):∀l,partsOf a l=l.map λ(i,x)=>(i,a x)
 |[]=>rfl
 |x::r=>by simp[partsOf,zL a r]
theorem Ht(a:S1->x4)(l:Array (Nat×S1)):(partsOf a l.toList).toArray=l.map λ(i,x)=>(i,a x):=by
 grind [zL]
def opsOf:Op->List S1
 | .alloc _| .ready _| .waits _=>[]
 | .move x| .assign x| .box _ x| .load _ x| .nilCheck x| .unOp _ _ x| .convert _ _ x| .sliceToArrayPointer _ x| .makeInterface _ x
 | .makeChan _ x| .fieldAddr _ x _| .field _ x _| .range _ x| .next x _| .entry x| .typeAssert x _ _ _| .extract x _| .panic x| .recv _ x _=>[x]
 | .pick c a b=>[c,a,b]
 | .build _ e| .buildSlice _ _ e=>e.toList.map (·.2)
 | .store _ a v| .binOp _ _ a v _| .makeSlice _ a v| .indexAddr _ a v| .index _ a v| .lookup _ a v _| .mapEntry _ a v| .send a v=>[a,v]
 | .makeFunc _ first j=>first.toList++j.toList
 | .makeMap _ r=>match r with
  |some x=>[x]
  |none=>[]
 | .slice _ x l h m=>x::((match l with
  |some y=>[y]
  |none=>[])++((match h with
  |some y=>[y]
  |none=>[])++(match m with
  |some y=>[y]
  |none=>[])))
 | .mapUpdate _ m k v| .entryStore _ m k v| .insert _ m k v=>[m,k,v]
 | .call c=>match c.callee with
  | .value f=>f::c.args.toList
  | .invoke r _=>r::c.args.toList
  | .builtin _=>c.args.toList
 | .go _| .defer _| .select ..=>[]
theorem Hu{op:Op}(h1:∀c,op≠ .go c)(a:∀c,op≠ .defer c)(e:∀cs b,op≠ .select cs b):∀x∈op.operands,x∈opsOf op:=by
 intro x J;cases op<;>simp only[Op.operands,opsOf]at J ⊢<;>try (first|(simp at J;done)|(simp at J ⊢;exact J))
 all_goals grind [Call.operands]
def rr(e:S1->x4):Op->Option (Sem x4)
 | .pick c a b=>σ (do pure (if <-asBool (e c)then e a else e b))
 | .alloc j=>σ (Instr.alloc j s2 (.tuple #[]))
 | .box j x=>σ (Instr.box j (e x))
 | .build t parts=>σ (Instr.build t (partsOf e parts.toList).toArray)
 | .buildSlice t len parts=>σ (Y3 t len (partsOf e parts.toList).toArray)
 | .load t a=>σ (u5 t (e a))
 | .nilCheck x=>σ (b0 (e x))
 | .binOp op jC x y _=>σ (aS op jC (qd x) (qd y) (e x) (e y))
 | .unOp op _ x=>σ (Op.unary op (e x))
 | .convert src dst x=>σ (convert src dst (e x))
 | .makeInterface jC x=>σ (Instr.makeInterface jC (e x))
 | .makeFunc fn first q=>σ (Instr.makeFunc fn (cb e first.toList).toArray (cb e q.toList).toArray)
 | .makeMap t r=>σ (Instr.makeMap t (r.map e))
 | .makeSlice t l c=>σ (Instr.makeSlice t (e l) (e c))
 | .slice t x lo hi mx=>σ (V5 t (e x) (lo.map e) (hi.map e) (mx.map e))
 | .fieldAddr s x f=>σ (u6 s (e x) f)
 | .field jC x f=>σ (Instr.field jC (e x) f)
 | .indexAddr t x h=>σ (n9 t (e x) (e h))
 | .index jC x h=>σ (Instr.index jC (e x) (e h))
 | .lookup jC x h ok=>σ (Instr.lookup jC (e x) (e h) ok)
 | .mapEntry t m k=>σ (Instr.mapEntry t (e m) (e k))
 | .range jC x=>σ (Instr.range jC (e x))
 | .entry w=>σ (Instr.entry (e w))
 | .typeAssert x jC z ok=>σ (Instr.typeAssert (e x) jC z ok)
 | .extract t h=>σ (Z7 (e t) h)
 |_=>ν
def v7(e:S1->x4):Op->Option (Sem Unit)
 | .store t a x=>σ (o7 t (e a) (e x))
 | .mapUpdate t m k x=>σ (Instr.mapUpdate t (e m) (e k) (e x))
 | .insert t m k x=>σ (Instr.mapUpdate t (e m) (e k) (e x))
 | .entryStore t m s x=>σ (Instr.entryStore t (e m) (e s) (e x))
 |_=>ν
def qe(b:Z2)(ats:Array o4)(a:o4)(args:Array x4):Option (Sem x4):=
 match b with
 | .append=>σ (c9 ats a args)
 | .cap=>σ (Z2.cap_ ats a args)
 | .clear=>σ (Z2.clear_ ats a args)
 | .copy=>σ (Z2.copy_ ats a args)
 | .delete=>σ (Z2.delete_ ats a args)
 | .len=>σ (X7 ats a args)
 | .max=>σ (Z2.max_ ats a args)
 | .min=>σ (Z2.min_ ats a args)
 |_=>ν
theorem Hv{s:Sem Next}(h:(td s).run P w= .ok v I):s.run P w= .ok (.value v) I:=by
 unfold td at h;rw[W5]at h;cases V:s.run P w with
 |halt x U=>grind [W8]
 |ok x U=>
  rw[V]at h;cases x<;>simp_all [W8,stuck,V2]
theorem Hw(x:x4)(b:Bool)(t:o4):Instr.next x b 0=Instr.next x b t:=rfl
theorem wa{e:S1->x4}{o:U9}{s:Sem x4}(h:rr e o.op=σ s)(a:s.run P w= .ok v I):
  (execOp e o).run P w= .ok (.value v) I:=by
 cases aC:o.op with
 |nilCheck x=>
  rw[aC]at h;cases h;have:=Hv P a
  grind [execOp]
 |pick c x y=>
  rw[aC]at h;cases h;unfold execOp;simp only[aC,W5,V2]at a ⊢;cases f:(asBool (e c)).run P w<;>grind [W8]
 |binOp op jC x y j=>
  rw[aC]at h;cases h;unfold execOp;simp only[aC];unfold aS at a;rw[<-Hs]at a;simp only[W5,V2]at a ⊢;rw[a];rfl
 |_=>
  rw[aC]at h
  first
   |(cases h;done)
   |(cases h;simp only[vZ,Ht]at a;grind [execOp,W5,W8,V2])
   |(cases h;unfold execOp;simp only[aC,W5,a,W8,V2])
theorem Hx{a:S1->x4}{o:U9}{s:Sem Unit}(h:v7 a o.op=σ s){v:Unit}(e:s.run P w= .ok v I):
  (execOp a o).run P w= .ok .skip I:=by
 cases aC:o.op with
 |_=>
  rw[aC]at h
  first
   |(cases h;done)
   |(cases h;grind [execOp,W5,W8,V2])
def Enters(f:S8):Prop:=∀args w,(callFunc f args).run P w= .ok (.enter f args) w
inductive aq(f:S8)(args:List x4)(w:x5)(K:x4->x5->Prop):Prop
 |code (h1:Enters P f) (h2:Calls P f args.toArray w λe I=>∃v,e= .returned v/\cS w I/\K v I)
 |ext (v:x4) (I:x5) (h1:(callFunc f args.toArray).run P w= .ok (.value v) I) (h2:cS w I) (h3:K v I)
inductive ic(f:S8)(args:List x4)(w:x5)(K:x4->x5->Prop):Prop
 |code (h1:Enters P f) (h2:Calls P f args.toArray w λe I=>∃v,e= .returned v/\K v I)
 |ext (v:x4) (I:x5) (h1:(callFunc f args.toArray).run P w= .ok (.value v) I) (h3:K v I)
theorem ic.calls{f:S8}{K:x4->x5->Prop}(h:ic P f args w K)(a:Enters P f):Calls P f args.toArray w λe I=>∃v,e= .returned v/\K v I:=by
 cases h with
 |code _ h=>exact h
 |ext v I h1=>rw[a]at h1;cases h1
def je(l:Nat)(args:List x4)(w:x5)(K:x4->x5->Prop):Prop:=
 YieldAt Fence.wide 0 P l args.toArray w λe I=>∃v,e= .returned v/\K v I
theorem je.Y{P:X8}{l:Nat}{K a:x4->x5->Prop}(h:je P l args w K)(e:∀v I,K v I->a v I):je P l args w a:=by
 obtain⟨fn,tmps,f,body,j,q⟩:=h;exact⟨fn,tmps,f,body,j,RoundIn.mono q λ_ I ⟨v,h1,r⟩=>⟨v,h1,e v I r⟩⟩
def tf(free:Bool)(f:x4)(args:List x4)(w:x5)(K:x4->x5->Prop):Prop:=
 match f with
 | .func (.func g) first cap=>bif free then ic P g (first.toList++args++cap.toList) w K else aq P g (first.toList++args++cap.toList) w K
 | .func (.yield l) first _=>bif free then free=s2/\je P l (first.toList++args) w K else je P l (first.toList++args) w λv I=>cS w I/\K v I
 |_=>False
def ad(s:Sem x4)(w:x5)(K:x4->Prop):Prop:=∃v,(∀I,Ext w I->s.run P I= .ok v I)/\K v
def Hy:List (Nat×Nat):=[(9,22),(22,22)]
def Hz(s d:Nat):Bool:=Hy.any λp=>S5 p.1 s&&S5 p.2 d
def lD(o:U9):Bool:=
 match o.op with
 | .convert s d _=>!Hz s d
 | .move _| .assign _| .pick .. | .load .. | .nilCheck _| .binOp .. | .unOp .. | .makeInterface .. | .makeFunc .. | .slice .. | .fieldAddr .. | .field ..
 | .indexAddr .. | .index .. | .lookup .. | .extract .. | .build .. | .typeAssert ..=>s2
 | .call c=>
  match c.callee with
  | .builtin .len| .builtin .cap| .builtin .min| .builtin .max=>s2
  |_=>sp
 |_=>sp
def cc(s:Sem x4)(v:x4)(I:x5):Prop:=∀a,Ext I a->s.run P a= .ok v a
def ni(o:U9)(e:Env)(w:x5)(K:Env->(x5->Prop)->Prop):Prop:=
 bif known e (opsOf o.op)then
  match o.op with
  | .move x| .assign x=>
   match e1 e x with
   |some y=>K (er e o.dst y) (λ_=>True)
   |none=>False
  | .pick c a b=>
   match e1 e c with
   |some (.b s2)=>(match e1 e a with|some y=>K (er e o.dst y) (λ_=>True)|none=>False)
   |some (.b sp)=>(match e1 e b with|some y=>K (er e o.dst y) (λ_=>True)|none=>False)
   |some (.v x)=>Split x (K (er e o.dst (.v (c3 e a))) (λ_=>True)) (K (er e o.dst (.v (c3 e b))) (λ_=>True))
   |some .u=>False
   |none=>False
  | .call c=>
   match c.callee with
   | .builtin b=>
    match qe b c.argTypes o.type (cb (c3 e) c.args.toList).toArray with
    |some s=>ad P s w λv=>K (er e o.dst (.v v)) (cc P s v)
    |none=>False
   |_=>False
  |op=>
   match rr (c3 e) op with
   |some s=>ad P s w λv=>K (er e o.dst (.v v)) (cc P s v)
   |none=>False
 else False
def wb(free:fY)(o:U9)(e:Env)(w:x5)(K:Env->x5->Prop):Prop:=
 bif known e (opsOf o.op)then
  match o.op with
  | .call c=>
   match c.callee with
   | .builtin b=>
    match qe b c.argTypes o.type (cb (c3 e) c.args.toList).toArray with
    |some s=>aL P s w λv I=>K (er e o.dst (.v v)) I
    |none=>False
   | .value (.func f)=>
    bif free.1 then ic P f (cb (c3 e) c.args.toList) w λv I=>K (er e o.dst (.v v)) I
    else aq P f (cb (c3 e) c.args.toList) w λv I=>K (er e o.dst (.v v)) I
   | .value x=>tf P free.1 (c3 e x) (cb (c3 e) c.args.toList) w λv I=>K (er e o.dst (.v v)) I
   | .invoke _ _=>False
  | .next x str=>tc P free (Instr.next (c3 e x) str 0) w λv I=>K (er e o.dst (.v v)) I
  |op=>
   match rr (c3 e) op with
   |some s=>aL P s w λv I=>K (er e o.dst (.v v)) I
   |none=>
    match v7 (c3 e) op with
    |some s=>aL P s w λ_ I=>K (er e o.dst (.v undef)) I
    |none=>False
 else False
def qf(free:fY)(o:U9)(e:Env)(w:x5)(K:Env->x5->Prop):Prop:=
 bif lD o then ni P o e w (λa _=>K a w)else wb P free o e w K
theorem Enters.of{f:S8}{fn:Func}{c:Code}(ah:P.funcs[f]?=σ fn)(a:fn.body=σ c)(e:(fn.name == "runtime.NumGoroutine")=sp):Enters P f:=by
 intro args w
 grind [callFunc,W5,program,Sem.run,W8,V2]
variable{P}
variable{N:Nat}{r:Option Nat}{o:U9}{e:Env}{a:Act}{w:x5}
theorem lE(f:S2 N e a)(hk:known e (opsOf o.op)=s2)(V:∀cs b,o.op≠ .select cs b)(h:∀c,o.op≠ .go c:=by simp_all)(j:∀c,o.op≠ .defer c:=by simp_all):
  execOp a.eval o=execOp (c3 e) o:=
 execOp_congr o V λx J=>f.eval (by grind [zJ,Hu])
theorem rt{next:Act->x5->Prop}{Q:Exit->Act->x5->Prop}(f:S2 N e a)(hk:known e (opsOf o.op)=s2)(V:∀cs b,o.op≠ .select cs b)(j:∀c,o.op≠ .defer c){v:x4}{I:x5}(q:(execOp (c3 e) o).run P w= .ok (.value v) I)(h:next (a.put o.dst v) I)(s:∀c,o.op≠ .go c:=by simp_all):o.wpIn (eV r) 0 P a w next Q:=by
 refine⟨λ_ _=>trivial,?_⟩
 grind [U9.semAt_eq,lE,U9.uponIn_value]
theorem HA{next:Act->x5->Prop}{Q:Exit->Act->x5->Prop}(f:S2 N e a)(hk:known e (opsOf o.op)=s2)(V:∀cs b,o.op≠ .select cs b)(j:∀c,o.op≠ .defer c){I:x5}(q:(execOp (c3 e) o).run P w= .ok .skip I)(h:next (a.put o.dst undef) I)(s:∀c,o.op≠ .go c:=by simp_all):o.wpIn (eV r) 0 P a w next Q:=by
 refine⟨λ_ _=>trivial,?_⟩
 grind [U9.semAt_eq,lE,U9.uponIn_skip]
def fJ(N:Nat)(free:fY)(K:Env->x5->Prop)(o:U9)(a:Act)(w:x5)(a':Act)(I:x5):Prop:=
 ∃e v,K e I/\S2 N e a'/\a'=a.put o.dst v/\(free.1=sp->cP free.2 w I)
theorem fJ.of{free:fY}{K:Env->x5->Prop}{x:eU}(f:K (er e o.dst x) I)(h:S2 N e a)(j:kX N o.dst=s2)(J:x.val=v)(q:free.1=sp->cP free.2 w I):fJ N free K o a w (a.put o.dst v) I:=⟨_,v,f,h.put j J,rfl,q⟩
theorem zM{free:fY}{K:Env->x5->Prop}{Q:Exit->Act->x5->Prop}{f:S8}{args:Array x4}(q:S2 N e a)(s:kX N o.dst=s2)(h:Calls P f args w λj I=>∃v,j= .returned v/\(free.1=sp->cP free.2 w I)/\K (er e o.dst (.v v)) I):
  o.uponIn (eV r) 0 P a (fJ N free K o a w) Q (.ok (.enter f args) w):=by
 rw[U9.uponIn_enter];refine⟨vY _ _,CallsIn.mono (zK h) ?_⟩;rintro j I ⟨v,rfl,x,y⟩;exact fJ.of y q s rfl x
theorem nj{x:S1}{y:eU}(h:e1 e x=σ y):c3 e x=y.val:=by simp[c3,h]
theorem zN{l:List S1}{x:S1}(hk:known e l=s2)(J:x∈l):∃y,e1 e x=σ y:=Option.isSome_iff_exists.1 (zJ hk x J)
theorem zO{K:Env->(x5->Prop)->Prop}(h:ni P o e w K)(r:S2 N e a)(H:kX N o.dst=s2):
  ∃v,∃st:x5->Prop,(∀I,Ext w I->(execOp a.eval o).run P I= .ok (.value v) I)/\(∃A,K A st/\S2 N A (a.put o.dst v))/\(∀c,o.op≠ .defer c)/\
   (∀I,st I->∀j,Ext I j->(execOp a.eval o).run P j= .ok (.value v) j):=by
 unfold ni at h;cases hk:known e (opsOf o.op)with
 |false=>grind
 |true=>
  rw[hk]at h;simp only[cond_true]at h;have put:∀{x:eU}{v:x4}{st:x5->Prop},K (er e o.dst x) st->x.val=v->∃A,K A st/\S2 N A (a.put o.dst v):=λh1 B=>⟨_,h1,r.put H B⟩;cases aC:o.op with
  |move x=>
   rw[aC]at h;simp only at h;cases J:e1 e x with
   |none=>grind
   |some y=>
    rw[J]at h;have all:∀I:x5,(execOp a.eval o).run P I= .ok (.value y.val) I:=λI=>by
     rw[lE r hk (by simp[aC])]
     grind [execOp,V2,nj]
    exact⟨y.val,_,by grind,put h rfl,Ξ,by grind⟩
  |assign x=>
   rw[aC]at h;simp only at h;cases J:e1 e x with
   |none=>grind
   |some y=>
    rw[J]at h;have all:∀I:x5,(execOp a.eval o).run P I= .ok (.value y.val) I:=λI=>by
     rw[lE r hk (by simp[aC])]
     grind [execOp,V2,nj]
    exact⟨y.val,_,by grind,put h rfl,Ξ,by grind⟩
  |pick c x y=>
   rw[aC]at h;simp only at h;have E:=hk;rw[aC]at E;obtain⟨Q,J⟩:=zN E (x:=x) (by simp[opsOf]);obtain⟨R,G⟩:=zN E (x:=y) (by simp[opsOf]);have C:∀(t:Bool)(I:x5),c3 e c= .bool t->(execOp a.eval o).run P I= .ok (.value (if t=s2 then c3 e x else c3 e y)) I:=by
    grind [lE,execOp,asBool,V2]
   cases f:e1 e c with
   |none=>grind
   |some L=>
    rw[f]at h;cases L with
    |b t=>
     cases t with
     |true=>
      simp only[J]at h;exact⟨_,_,λI _=>C s2 I (nj f),put h (by simp[nj J]),Ξ,λ_ _ I _=>C s2 I (nj f)⟩
     |false=>
      simp only[G]at h;exact⟨_,_,λI _=>C sp I (nj f),put h (by simp[nj G]),Ξ,λ_ _ I _=>C sp I (nj f)⟩
    |v z=>
     obtain⟨t,M,O,ah⟩:=h;have q:=λI=>C t I (by rw[nj f];exact M);cases t with
     |true=>exact⟨_,_,λI _=>q I,put (O rfl) rfl,Ξ,by grind⟩
     |false=>exact⟨_,_,λI _=>q I,put (ah rfl) rfl,Ξ,by grind⟩
    |u=>exact h.elim
  |call c=>
   rw[aC]at h;simp only at h;cases f:c.callee with
   |builtin b=>
    rw[f]at h;simp only at h;rw[vZ]at h;cases V:qe b c.argTypes o.type (c.args.map (c3 e))with
    |none=>grind
    |some s=>
     rw[V]at h;obtain⟨v,q,F⟩:=h;have all:∀I:x5,s.run P I= .ok v I->(execOp a.eval o).run P I= .ok (.value v) I:=λI q=>by
      rw[lE r hk (by simp[aC])];unfold execOp;cases b<;>simp only[qe]at V<;>first|(cases V;done)|(cases V;simp[aC,f,resolve,invoke,builtin,q,W8])
     exact⟨v,_,by grind,put F rfl,Ξ,λI h1 j B=>all j (h1 j B)⟩
   |value x=>grind
   |invoke x m=>grind
  |_=>
   rw[aC]at h
   first
    |(simp only[rr]at h;done)
    |(obtain⟨v,q,F⟩:=h
      refine⟨v,_,λI hw=>?_,put F rfl,Ξ,λI h1 j B=>?_⟩
      .rw[lE r hk (by simp[aC])];exact wa P (by rw[aC];rfl) (q I hw)
      .rw[lE r hk (by simp[aC])];exact wa P (by rw[aC];rfl) (h1 j B))
theorem HB{free:fY}{K:Env->x5->Prop}{Q:Exit->Act->x5->Prop}(h:wb P free o e w K)(j:S2 N e a)(C:kX N o.dst=s2):
  o.wpIn (eV r) 0 P a w (fJ N free K o a w) Q:=by
 unfold wb at h;cases hk:known e (opsOf o.op)with
 |false=>grind
 |true=>
  rw[hk]at h;simp only[cond_true]at h;cases aC:o.op with
  |call c=>
   rw[aC]at h;simp only at h;cases F:c.callee with
   |builtin b=>
    rw[F]at h;simp only at h;rw[vZ]at h;cases V:qe b c.argTypes o.type (c.args.map (c3 e))with
    |none=>grind
    |some s=>
     rw[V]at h;obtain⟨v,I,z,A,q⟩:=h;refine rt j hk (by simp[aC]) (by simp[aC]) (v:=v) ?_ (fJ.of q j C rfl λ_=>A.b);unfold execOp;cases b<;>simp only[qe]at V<;>first|(cases V;done)|(cases V;simp[aC,F,resolve,invoke,builtin,z,W8])
   |value x=>
    rw[F]at h;have step:∀(d:Deferred)(y:x4),c3 e x=y->Deferred.ofValue y (c.args.map (c3 e))=pure d->
      (invoke d.target d.args).run P w=(execOp (c3 e) o).run P w:=by
     grind [execOp,resolve]
    have G:∀(g:S8)(first cap:Array x4),c3 e x= .func (.func g) first cap->
      (execOp (c3 e) o).run P w=(callFunc g (first.toList++cb (c3 e) c.args.toList++cap.toList).toArray).run P w:=by
     intro g first cap B
     rw[<-step {target:=.fn (.func g) cap,args:=first++c.args.map (c3 e)} _ B rfl];simp only[invoke];have H:first++c.args.map (c3 e)++cap=(first.toList++cb (c3 e) c.args.toList++cap.toList).toArray:=by grind [te]
     rw[H]
    have enter:∀(g:S8)(first cap:Array x4),c3 e x= .func (.func g) first cap->Enters P g->
      (execOp (c3 e) o).run P w= .ok (.enter g (first.toList++cb (c3 e) c.args.toList++cap.toList).toArray) w:=by
     intro g first cap B E
     rw[G g first cap B,E]
    have go:∀(g:S8)(first cap:Array x4),c3 e x= .func (.func g) first cap->
      (bif free.1 then ic P g (first.toList++cb (c3 e) c.args.toList++cap.toList) w λv I=>K (er e o.dst (.v v)) I
       else aq P g (first.toList++cb (c3 e) c.args.toList++cap.toList) w λv I=>K (er e o.dst (.v v)) I)->
      o.wpIn (eV r) 0 P a w (fJ N free K o a w) Q:=by
     intro g first cap B h
     obtain⟨fr,M⟩:=free;cases fr with
     |true=>
      rcases h with⟨E,L⟩|⟨v,I,z,q⟩
      .refine⟨λ_ _=>trivial,?_⟩
       grind [U9.semAt_eq,lE,zM]
      .rw[<-G g first cap B]at z;exact rt j hk (by simp[aC]) (by simp[aC]) z (fJ.of q j C rfl (by grind))
     |false=>
      rcases h with⟨E,L⟩|⟨v,I,z,A,q⟩
      .refine⟨λ_ _=>trivial,?_⟩;rw[U9.semAt_eq _ _ _ (by simp[aC]),lE j hk (by simp[aC])];rw[enter g first cap B E];exact zM j C (L.Y (by grind [cS.b]))
      .rw[<-G g first cap B]at z;exact rt j hk (by simp[aC]) (by simp[aC]) z (fJ.of q j C rfl λ_=>A.b)
    have J:tf P free.1 (c3 e x) (cb (c3 e) c.args.toList) w (λv I=>K (er e o.dst (.v v)) I)->
      o.wpIn (eV r) 0 P a w (fJ N free K o a w) Q:=by
     intro h;unfold tf at h;split at h
     .grind
     .rename_i l first cap B
      obtain⟨fn,tmps,O,body,R,S⟩:je P l (first.toList++cb (c3 e) c.args.toList) w λv I=>(free.1=sp->cP free.2 w I)/\K (er e o.dst (.v v)) I:=by
       obtain⟨fr,M⟩:=free;cases fr with
       |true=>exact je.Y h.2 (by grind)
       |false=>exact je.Y h λv I hk=>⟨λ_=>hk.1.b,hk.2⟩
      refine⟨λ_ _=>trivial,?_⟩;rw[U9.semAt_eq _ _ _ (by simp[aC]),lE j hk (by simp[aC])];have:(execOp (c3 e) o).run P w= .ok (.round l fn tmps O body) w:=by
       rw[<-step {target:=.fn (.yield l) cap,args:=first++c.args.map (c3 e)} _ B rfl,<-R];have H:(first.toList++cb (c3 e) c.args.toList).toArray=first++c.args.map (c3 e):=by grind [te]
       rw[H];rfl
      rw[this,U9.uponIn_round];refine⟨vY _ _,?_⟩;have T:=S;refine RoundIn.mono T ?_;rintro U I ⟨v,rfl,A,q⟩;exact fJ.of q j C rfl A
     grind
    cases x with
    |func f=>exact go f #[] #[] rfl (by simpa using h)
    |tmp t=>exact J h
    |const v=>exact J h
    |global g=>exact J h
   |invoke x m=>grind
  |next x str=>
   rw[aC]at h;obtain⟨v,I,z,A,q⟩:=h;refine rt j hk (by simp[aC]) (by simp[aC]) (v:=v) ?_ (fJ.of q j C rfl A)
   grind [Hw,execOp,W5,W8,V2]
  |_=>
   rw[aC]at h
   first
    |(simp only[rr,v7]at h;done)
    |(obtain⟨v,I,z,A,q⟩:=h
      exact rt j hk (by simp[aC]) (by simp[aC]) (wa P (by rw[aC];rfl) z) (fJ.of q j C rfl λ_=>A.b))
    |(obtain⟨v,I,z,A,q⟩:=h
      exact HA j hk (by simp[aC]) (by simp[aC]) (Hx P (by rw[aC];rfl) z) (fJ.of q j C rfl λ_=>A.b))
theorem tg{free:fY}{K:Env->x5->Prop}{Q:Exit->Act->x5->Prop}(h:qf P free o e w K)(j:S2 N e a)(q:kX N o.dst=s2):
  o.wpIn (eV r) 0 P a w (fJ N free K o a w) Q:=by
 unfold qf at h;cases s:lD o with
 |false=>grind [HB]
 |true=>
  rw[s]at h;have h:ni P o e w (λf _=>K f w):=h;obtain⟨v,st,x,⟨f,y,z⟩,A,_⟩:=zO h j q;refine⟨λ_ _=>trivial,?_⟩;rw[U9.semAt_eq _ _ _ A,x w (Ext.refl _),U9.uponIn_value];exact⟨f,v,y,z,rfl,λ_=>cP.refl _ _⟩
end
section
variable{P:X8}
def Still{α:Type}(P:X8)(s:Sem α):Prop:=∀w v U,s.run P w= .ok v U->U=w/\∀I,s.run P I= .ok v I
theorem Still.pure{α:Type}(a:α):Still P (Pure.pure a:Sem α):=λw v U h=>by
 rw[V2]at h;cases h;exact⟨rfl,λI=>by rw[V2]⟩
theorem Still.bind{α β:Type}{s:Sem α}{f:α->Sem β}(V:Still P s)(ah:∀a,Still P (f a)):Still P (s >>= f):=λw v U h=>by
 rw[W5]at h;cases e:s.run P w with
 |halt x ab=>grind [W8]
 |ok a ab=>
  rw[e]at h;obtain⟨rfl,j⟩:=V w a ab e;obtain⟨rfl,q⟩:=ah a _ v U h;exact⟨rfl,λI=>by rw[W5,j I];exact q I⟩
theorem Still.never{α:Type}{s:Sem α}(h:∀w v U,s.run P w≠ .ok v U):Still P s:=λw v U be=>m6 be (h w v U)
theorem Still.stuck{α:Type}(m:String):Still P (stuck m:Sem α):=.never λw v U h=>by simp[Go.stuck]at h
theorem Still.unsupported{α:Type}(m):Still P (unsupported m:Sem α):=.never λw v U h=>by simp[Go.unsupported]at h
theorem Still.program:Still P program:=λw v U h=>by cases h;exact⟨rfl,λ_=>rfl⟩
theorem Still.underlying(t:o4):Still P (underlying t):=Still.bind .program (by grind [Still.pure,Still.stuck])
theorem Still.typeInfo(t:o4):Still P (typeInfo t):=Still.bind .program λp=>by
 grind [Still.pure,Still.stuck]
theorem Still.sizeOf(t:o4):Still P (sizeOf t):=Still.bind (.typeInfo t) λ_=>Still.pure _
theorem Still.boundsPanic{α:Type}(k:o8)(x y:Int)(c:BoundsCode):Still P (boundsPanic k x y c:Sem α):=.never λw v U h=>by
 have e:∀(s:Sem Bool)(w:x5)(v:α)(U:x5),(s >>= λb=>(runtimePanic (.bounds (X4.wrap x) y b c):Sem α)).run P w≠ .ok v U:=by
  intro s w v U h;rw[W5]at h;cases f:s.run P w with
  |halt x ab=>rw[f]at h;simp[W8]at h
  |ok a ab=>rw[f]at h;simp[W8,Go.runtimePanic,Go.goPanic]at h
 unfold Go.boundsPanic at h;dsimp only at h;split at h
 .exact e _ _ _ _ h
 .exact e _ _ _ _ h
theorem Still.asIntOf(v:x4):Still P (asIntOf v):=by
 unfold Go.asIntOf;split
 .exact Still.pure _
 .exact Still.unsupported _
 .exact Still.stuck _
theorem Still.sureAddr(v:x4):Still P (Instr.sureAddr v):=by
 unfold Instr.sureAddr
 grind [Still.pure,Still.stuck]
theorem Still.extract(v:x4)(i:Nat):Still P (Z7 v i):=by
 unfold Z7
 grind [Still.pure,Still.stuck]
theorem Still.indexAt(t:o4)(x i:x4):Still P (n9 t x i):=by
 have tail:∀(t:o4)(k:o8)(i:Int)(base:Option Addr)(len:Nat)(e:o4),Still P (do
   let f:=len<=1&&(match <-Go.underlying t with| .array ..=>s2|_=>sp)
   match base with
   |some a=>
    if 0<=i/\i<len then Pure.pure (x4.pointer (σ (a.add (i.toNat*(<-Go.sizeOf e)))))
    else if f then Go.unsupported (.noEntry "op/indexAddr.an index out of range at an array of length 0 or 1 (ledger 616)")
    else Go.boundsPanic k i len .index
   |none=>Go.boundsPanic k i 0 .index):=by
  intro t k i base len e;refine .bind (.underlying t) λd=>?_;cases base with
  |none=>grind [Still.boundsPanic]
  |some a=>
   dsimp only;split
   .exact .bind (.sizeOf e) λ_=>.pure _
   grind [Still.unsupported,Still.boundsPanic]
 unfold n9;refine .bind (.asIntOf i) λh=>?_;refine .bind (.underlying t) λd=>?_;split
 .refine .bind (.sureAddr _) λb=>?_;refine .bind (.pure _) λy=>?_;exact tail _ _ _ _ _ _
 .refine .bind (.pure _) λy=>?_;exact tail _ _ _ _ _ _
 .refine .bind (.stuck _) λy=>?_;exact tail _ _ _ _ _ _
end
section
variable(P:X8)
def th(free:fY)(ops:Array U9)(o:U9)(e:Env)(w:x5)(K:Env->x5->Prop):Prop:=
 match o.guard with
 |none=>qf P free o e w K
 |some (j,b)=>
  match(ops[j]?).bind (·.dst)with
  |none=>False
  |some s=>
   match look e s with
   |some (.b c)=>bif xor c b then K (er e o.dst .u) w else qf P free o e w K
   |some (.v x)=>
    Split x (bif b then qf P free o ((s,.b s2)::e) w K else K (er ((s,.b s2)::e) o.dst .u) w)
     (bif b then K (er ((s,.b sp)::e) o.dst .u) w else qf P free o ((s,.b sp)::e) w K)
   |some .u=>K (er e o.dst .u) w
   |none=>False
def qg(free:fY)(ops:Array U9):List U9->Env->x5->(Env->x5->Prop)->Prop
 |[],e,w,K=>K e w
 |o::l,e,w,K=>th P free ops o e w λa I=>qg free ops l a I K
def wc(ops:Array U9)(o:U9)(e:Env)(w:x5)(K:Env->(x5->Prop)->Prop):Prop:=
 match o.guard with
 |none=>ni P o e w K
 |some (j,b)=>
  match(ops[j]?).bind (·.dst)with
  |none=>False
  |some s=>
   match look e s with
   |some (.b c)=>bif xor c b then K (er e o.dst .u) (λ_=>True)else ni P o e w K
   |some (.v x)=>
    Split x (bif b then ni P o ((s,.b s2)::e) w K else K (er ((s,.b s2)::e) o.dst .u) (λ_=>True))
     (bif b then K (er ((s,.b sp)::e) o.dst .u) (λ_=>True)else ni P o ((s,.b sp)::e) w K)
   |some .u=>K (er e o.dst .u) (λ_=>True)
   |none=>False
def nk(o:U9):Bool:=
 match o.op with
 | .move _| .assign _| .extract .. | .indexAddr ..=>s2
 |_=>sp
def n1(ops:Array U9):List Nat->Option Nat
 |[]=>ν
 |i::r=>match ops[i]? with
  |some o=>bif lD o then σ i else n1 ops r
  |none=>n1 ops r
def we(p:Nat->Prop):List Nat->Prop
 |[]=>True
 |[i]=>p i
 |i::r=>p i/\we p r
def me(a:Array Nat)(j k:Nat):Bool:=!(S5 k j)&&(!((a.getD j 0).testBit k)&& !((a.getD k 0).testBit j))
def ti(same:Bool)(q:Nat)(w:x5)(st:x5->Prop)(a:List (x5×List (Nat×(x5->Prop)))):List (x5×List (Nat×(x5->Prop))):=
 match same,a with
 |true,g::r=>(g.1,(q,st)::g.2)::r
 |_,a=>(w,[(q,st)])::a
def ru(a:Array Nat)(j:Nat):List (Nat×(x5->Prop))->Bool
 |[]=>sp
 |x::r=>me a j x.1||ru a j r
def rv(a:Array Nat)(j:Nat)(I:x5):List (Nat×(x5->Prop))->Prop
 |[]=>True
 |x::r=>bif me a j x.1 then x.2 I/\rv a j I r else rv a j I r
def oX(a:Array Nat)(j:Nat)(I:x5)(C:Prop):List (x5×List (Nat×(x5->Prop)))->Prop
 |[]=>C
 |g::r=>bif ru a j g.2 then(Ext g.1 I\/rv a j I g.2)/\oX a j I C r else oX a j I C r
def n2(free:fY)(ops:Array U9)(f:Array Nat):Nat->Array Bool->Bool->List (x5×List (Nat×(x5->Prop)))->Env->x5->(Env->x5->Prop)->Prop
 |0,a,_,_,e,w,K=>match Region.ready .any ops a with|[]=>K e w|_=>False
 |fuel+1,a,same,h,e,w,K=>
  match Region.ready .any ops a with
  |[]=>K e w
  |i::r=>
   match n1 ops (i::r)with
   |some q=>
    bif Region.free .any ops a q then
     match ops[q]? with
     |some o=>wc P ops o e w λs st=>
       bif nk o then n2 free ops f fuel (a.setIfInBounds q s2) same h s w K
       else n2 free ops f fuel (a.setIfInBounds q s2) s2 (ti same q w st h) s w K
     |none=>False
    else False
   |none=>
    we (λj=>match ops[j]? with
     |some o=>th P free ops o e w λs I=>oX f j I (n2 free ops f fuel (a.setIfInBounds j s2) sp h s I K) h
     |none=>False) (i::r)
def wg(free:fY)(ops:Array U9)(e:Env)(w:x5)(K:Env->x5->Prop):Prop:=
 bif Region.noSelect ops then n2 P free ops (Region.before ops) ops.size (Array.replicate ops.size sp) sp [] e w K else False
end
section
variable{P:X8}{N:Nat}{r:Option Nat}{free:fY}{ops:Array U9}
theorem HC{e:Env}{a:Act}(f:S2 N e a){s:Nat}{c:Bool}(q:(ops[j]?).bind (·.dst)=σ s){x:eU}(V:look e s=σ x)(J:x.val= .bool c):
  yielded ops a.tmps j=σ c:=by
 have h:=f.2 s x V;rw[J]at h;have r:a.tmps[s]?=σ (.bool c):=by
  rw[Array.getD_eq_getD_getElem?]at h
  grind [undef]
 grind [yielded]
theorem tj{e:Env}{a:Act}(f:S2 N e a){o:U9}{s:Nat}{b c:Bool}(h:o.guard=σ (j,b))(q:(ops[j]?).bind (·.dst)=σ s){x:eU}(V:look e s=σ x)(J:x.val= .bool c):Region.wanted o (yielded ops a.tmps)= !(xor c b):=by
 simp only[Region.wanted,h,HC f q V J]
 grind
theorem zP{e:Env}{a:Act}(f:S2 N e a){o:U9}{s:Nat}{b:Bool}(q:o.guard=σ (j,b))(r:(ops[j]?).bind (·.dst)=σ s)(V:look e s=σ .u):Region.wanted o (yielded ops a.tmps)=sp:=by
 have h:=f.2 s .u V;have w:yielded ops a.tmps j=ν:=by
  rw[Array.getD_eq_getD_getElem?]at h
  grind [yielded,eU.val,undef]
 grind [Region.wanted]
theorem S2.lit{e:Env}{a:Act}(h:S2 N e a){s:Nat}{x:eU}{c:Bool}(V:look e s=σ x)(J:x.val= .bool c):S2 N ((s,.b c)::e) a:=by
 refine⟨h.1,λt y f=>?_⟩;simp only[look]at f;cases j:S5 s t with
 |true=>
  have:s=t:=Nat.eq_of_beq_eq_true j;subst this;simp only[j,cond_true,W6]at f;subst f;rw[h.2 s x V,J];rfl
 |false=>simp only[j,cond_false]at f;exact h.2 t y f
theorem zQ{o:U9}{e:Env}{a:Act}{K:Env->x5->Prop}{Q:Exit->Act->x5->Prop}(h:th P free ops o e w K)(f:S2 N e a)(q:kX N o.dst=s2):
  (Region.wanted o (yielded ops a.tmps)=s2/\o.wpIn (eV r) 0 P a w (fJ N free K o a w) Q)\/
  (Region.wanted o (yielded ops a.tmps)=sp/\fJ N free K o a w (a.put o.dst undef) w):=by
 unfold th at h;cases z:o.guard with
 |none=>grind [Region.wanted,tg]
 |some E=>
  obtain⟨j,b⟩:=E;rw[z]at h;simp only at h;cases A:(ops[j]?).bind (·.dst)with
  |none=>grind
  |some s=>
   rw[A]at h;simp only at h;cases V:look e s with
   |none=>grind
   |some x=>
    rw[V]at h;cases x with
    |b c=>
     simp only at h;have hw:=tj f z A V rfl;cases J:xor c b with
     |true=>
      rw[J]at h hw;exact .inr ⟨hw,fJ.of h f q rfl λ_=>cP.refl _ _⟩
     |false=>
      grind [tg]
    |v y=>
     simp only at h;obtain⟨c,rfl,B,ah⟩:=h;have hw:=tj f z A V rfl;have C:=f.lit V rfl;cases c with
     |true=>
      have B:=B rfl;cases b with
      |true=>grind [tg]
      |false=>exact .inr ⟨hw,fJ.of B C q rfl λ_=>cP.refl _ _⟩
     |false=>
      have ah:=ah rfl;cases b with
      |true=>exact .inr ⟨hw,fJ.of ah C q rfl λ_=>cP.refl _ _⟩
      |false=>grind [tg]
    |u=>exact .inr ⟨zP f z A V,fJ.of h f q rfl λ_=>cP.refl _ _⟩
def ie(D:List Nat)(a a':Act):Prop:=a'.defers=a.defers/\∀t,t∉D->a'.tmps.getD t undef=a.tmps.getD t undef
theorem ie.refl(D:List Nat)(a:Act):ie D a a:=⟨rfl,λ_ _=>rfl⟩
theorem ie.F{a b c:Act}(h:ie D a b)(k:ie D b c):ie D a c:=⟨k.1.F h.1,λt e=>(k.2 t e).F (h.2 t e)⟩
theorem ie.put(a:Act){d:Option Tmp}(v:x4)(e:∀t,d=σ t->t∈D):ie D a (a.put d v):=by
 cases d with
 |none=>exact ie.refl _ _
 |some s=>
  refine⟨rfl,λt f=>?_⟩;have h:s≠t:=by grind
  simp only[Act.put,Array.getD_eq_getD_getElem?]
  grind
def n3(N:Nat)(free:fY)(K:Env->x5->Prop)(D:List Nat)(a:Act)(w:x5)(a':Act)(I:x5):Prop:=
 ∃e,K e I/\S2 N e a'/\ie D a a'/\(free.1=sp->cP free.2 w I)
theorem n3.step{K:Env->x5->Prop}{a e a':Act}{U:x5}(h:n3 N free K D e U a' I)(hk:ie D a e)(f:free.1=sp->cP free.2 w U):
  n3 N free K D a w a' I:=by
 obtain⟨j,h1,q,r,s⟩:=h;exact⟨j,h1,q,hk.F r,λah=>(f ah).F (s ah)⟩
def oY(N:Nat)(l:List U9):Bool:=l.all λo=>kX N o.dst
theorem HD{K:Env->x5->Prop}{Q:Exit->Act->x5->Prop}(L:∀o∈ops.toList,∀t,o.dst=σ t->t∈D)(M:oY N ops.toList=s2):
  ∀(l:List U9)(k:Nat)(e:Env)(a:Act)(w:x5),(∀j,l[j]?=ops[k+j]?)->qg P free ops l e w K->S2 N e a->
   (∀a' I,n3 N free K D a w a' I->Q .normal a' I)->wpOpsIn (eV r) 0 P ops Q (List.range' k l.length) a w:=by
 intro l;induction l with
 |nil=>
  intro k e a w _ h f q;exact q a w ⟨e,h,f,ie.refl _ _,λ_=>cP.refl _ _⟩
 |cons o l z=>
  intro k e a w x h f q;have y:=x 0;simp only[List.getElem?_cons_zero,Nat.add_zero]at y;have O:o∈ops.toList:=by
   grind
  have A:kX N o.dst=s2:=by
   grind [oY]
  have B:∀j,l[j]?=ops[k+1+j]?:=λj=>by
   have:=x (j+1)
   grind
  have next:∀s U,fJ N free (λC I=>qg P free ops l C I K) o a w s U->wpOpsIn (eV r) 0 P ops Q (List.range' (k+1) l.length) s U:=by
   rintro s U ⟨E,v,F,G,rfl,H⟩;refine z (k+1) E _ U B F G λa' I ae=>q a' I (ae.step (by grind [ie.put]) H)
  simp only[qg]at h;show wpOpsIn (eV r) 0 P ops Q (k::List.range' (k+1) l.length) a w;unfold wpOpsIn;rw[<-y];simp only;rcases zQ h f A with⟨hw,J⟩|⟨hw,J⟩
  .rw[m3 hw];exact U9.wpIn_mono next J
  .rw[hw];exact⟨λ_ _=>trivial,next _ _ J⟩
theorem HE{K:Env->x5->Prop}{Q:Exit->Act->x5->Prop}{id:Nat}{e:Env}{a:Act}(f:∀o∈ops.toList,∀t,o.dst=σ t->t∈D)(j:oY N ops.toList=s2)(h:qg P free ops ops.toList e w K)(q:S2 N e a)(s:∀a' I,n3 N free K D a w a' I->Q .normal a' I):
  (Code.region id ops sp).wpIn (eV r) 0 P Q a w:=by
 refine wpIn_region ?_;have:=HD (r:=r) f j ops.toList 0 e a w (by grind) h q s
 grind [List.range_eq_range']
end
section
variable{P:X8}{N:Nat}{r:Option Nat}{free:fY}{ops:Array U9}{Q:Exit->Act->x5->Prop}
theorem HF(e:Option Nat)(o:U9)(V:∀cs b,o.op≠ .select cs b)(a:Act)(d:Option Tmp)(v:x4)(h:∀t,d=σ t->t∉o.looksAt ops):
  o.semAt e (a.put d v).eval=o.semAt e a.eval:=by
 have he:=execOp_put o V a d v h;unfold U9.semAt;split
 .rename_i l c q;have:resolve (a.put d v).eval c o.type=resolve a.eval c o.type:=resolve_congr c o.type λx J=>Act.eval_put λt f j=>h t f (by
   subst j;refine List.mem_append_left _ (List.mem_filterMap.2 ⟨.tmp t,?_,rfl⟩)
   grind [Op.operands])
  rw[this]
 .exact he
def n4(o:U9)(w0:x5)(st:x5->Prop)(I:x5):Prop:=nk o=s2\/Ext w0 I\/∃U,st U/\Ext U I
theorem n4.W{o:U9}{w0:x5}{st:x5->Prop}(h:n4 o w0 st w)(k:Ext w I):n4 o w0 st I:=by
 rcases h with h|h|⟨U,h1,a⟩
 .exact .inl h
 .exact .inr (.inl (h.F k))
 .exact .inr (.inr ⟨U,h1,a.F k⟩)
theorem HG{o:U9}(hm:nk o=s2){a:S1->x4}(h:(execOp a o).run P w= .ok (.value v) w):(execOp a o).run P I= .ok (.value v) I:=by
 unfold nk at hm;split at hm
 .grind [execOp,V2]
 .grind [execOp,V2]
 .rename_i x i J;unfold execOp at h ⊢;simp only[J]at h ⊢;exact((Still.bind (Still.extract _ _) λ_=>Still.pure _) _ _ _ h).2 _
 .rename_i t x i J;unfold execOp at h ⊢;simp only[J]at h ⊢;exact((Still.bind (Still.indexAt _ _ _) λ_=>Still.pure _) _ _ _ h).2 _
 .cases hm
def jD(P:X8)(ops:Array U9)(o:U9)(v:x4)(a:Act)(w0:x5->Prop):Prop:=
 (Region.wanted o (yielded ops a.tmps)=s2/\(∀c,o.op≠ .defer c)/\∀I,w0 I->(execOp a.eval o).run P I= .ok (.value v) I)\/
 (Region.wanted o (yielded ops a.tmps)=sp/\v=undef)
theorem jD.put{o e:U9}{a:Act}{w0:x5->Prop}(f:jD P ops o v a w0)(V:∀cs b,o.op≠ .select cs b)(h:∀t,e.dst=σ t->t∉o.looksAt ops)(u:x4):
  jD P ops o v (a.put e.dst u) w0:=by
 unfold jD at*;rw[execOp_put o V a e.dst u h,wanted_put o a e.dst u h];exact f
theorem jD.go{i:Nat}{e:U9}{a:Act}{w0:x5->Prop}(hi:ops[i]?=σ e)(f:jD P ops e v a w0)(hw:w0 w){K:Act->x5->Prop}(h:K (a.put e.dst v) w):
  wpOpIn (eV r) 0 P ops Q i K a w:=by
 unfold wpOpIn;simp only[hi];rcases f with⟨h1,j,q⟩|⟨h1,rfl⟩
 .rw[m3 h1];refine⟨λ_ _=>trivial,?_⟩
  grind [U9.semAt_eq,U9.uponIn_value]
 .rw[h1];exact⟨λ_ _=>trivial,h⟩
theorem HH{e f:U9}(s:ops[j]?=σ f)(y:e.apart ops f=s2)(z:∀cs b,e.op≠ .select cs b)(A:∀cs b,f.op≠ .select cs b)(E:∀c a w,¬Q (.panic c) a w){K:Act->x5->Prop}{a:Act}{w:x5}{w0:x5->Prop}(q:jD P ops e v a w0)(h:wpOpIn (eV r) 0 P ops Q j K (a.put e.dst v) w):
  wpOpIn (eV r) 0 P ops Q j (λa' I=>jD P ops e v a' w0/\K (a'.put e.dst v) I) a w:=by
 obtain⟨h1,F,B⟩:=U9.apart_spec y;have a8:∀(a:Act),jD P ops e v a w0->∀u,jD P ops e v (a.put f.dst u) w0:=λa q u=>q.put z B u;have G:∀d,jD P ops e v {a with defers:=d::a.defers} w0:=λd=>q;unfold wpOpIn at*;simp only[s]at*;rw[wanted_put f a e.dst v h1]at h;split
 .rename_i hw;simp only[hw,if_true]at h;obtain⟨_,h⟩:=h;refine⟨λ_ _=>trivial,?_⟩;rw[HF _ f A a e.dst v h1]at h;generalize (f.semAt (eV r).round a.eval).run P w=C at*;cases C with
  |ok n I=>
   cases n<;>simp only[U9.uponIn]at h ⊢
   all_goals grind [Act.put_comm,Act.put_defers]
  |halt x I=>
   cases x<;>simp only[U9.uponIn]at h ⊢
   grind
 .rename_i hw;simp only[hw]at h;exact⟨λ_ _=>trivial,a8 a q _,by grind [Act.put_comm]⟩
def nl(ops:Array U9)(a:Array Nat):Bool:=
 (Y9 ops.size).all λj=>(Y9 ops.size).all λk=>!((a.getD j 0).testBit k)||
  (match ops[j]? with
   |some o=>o.after.any λe=>Region.binds .any e&&Nat.blt e.on j&&(S5 e.on k||(a.getD e.on 0).testBit k)
   |none=>sp)
def Down(ops:Array U9)(a:Array Bool):Prop:=
 ∀(x:Nat)(o:U9),ops[x]?=σ o->a.getD x sp=s2->∀e∈o.after,Region.binds .any e=s2->a.getD e.on sp=s2
theorem zR{a:Array Nat}(f:nl ops a=s2){k:Nat}(q:j<ops.size)(hk:k<ops.size)(h:(a.getD j 0).testBit k=s2):
  ∃o,ops[j]?=σ o/\∃e∈o.after,Region.binds .any e=s2/\e.on<j/\(e.on=k\/(a.getD e.on 0).testBit k=s2):=by
 simp only[nl,List.all_eq_true,List.mem_range]at f
 grind [Nat.blt_eq,Nat.eq_of_beq_eq_true]
theorem HI{f:Array Nat}{a:Array Bool}(q:nl ops f=s2)(r:Down ops a):∀(j k:Nat),j<ops.size->k<ops.size->a.getD j sp=s2->
  (f.getD j 0).testBit k=s2->a.getD k sp=s2:=by
 intro j;induction j using Nat.strongRecOn with
 |_ j y=>
  intro k s hk w h;obtain⟨o,aC,e,he,x,z,h⟩:=zR q s hk h;have A:=r j o aC w e he x
  grind
theorem HJ{e:Array Nat}{a:Array Bool}(q:nl ops e=s2)(r:Down ops a){k:Nat}(hk:k<ops.size)(f:j∈Region.ready .any ops a)(h:(e.getD j 0).testBit k=s2):a.getD k sp=s2:=by
 obtain⟨_,o,aC,s⟩:=mem_ready.1 f
 grind [zR,HI]
theorem Down.set{a:Array Bool}(h:Down ops a){i:Nat}(r:i∈Region.ready .any ops a):Down ops (a.setIfInBounds i s2):=by
 intro x o J f e he j;by_cases q:x=i
 .grind [mem_ready,getD_set_true]
 .rw[getD_set_ne sp (Ne.symm q)]at f;exact getD_set_true (h x o J f e he j)
def oZ(ops:Array U9)(i:Nat):Bool:=match ops[i]? with
 |some o=>lD o
 |none=>sp
def n5(a:Array Nat)(e:List (x5×List (Nat×(x5->Prop))))(j:Nat)(I:x5):Prop:=∀g∈e,∀x∈g.2,me a j x.1=s2->Ext g.1 I\/x.2 I
theorem wh{a:Array Nat}{j:Nat}{I:x5}:∀{l:List (Nat×(x5->Prop))},rv a j I l->∀x∈l,me a j x.1=s2->x.2 I
 |[],_,_,h,_=>by cases h
 |y::l,h,x,J,hu=>by
  unfold rv at h;cases e:me a j y.1 with
  |true=>
   rw[e]at h;cases J with
   |head=>exact h.1
   |tail _ J=>exact wh h.2 x J hu
  |false=>
   rw[e]at h;cases J with
   |head=>grind
   |tail _ J=>exact wh (by grind) x J hu
theorem HK{e:Array Nat}:∀{l:List (Nat×(x5->Prop))},ru e j l=sp->∀x∈l,me e j x.1=sp
 :=by
 intro a;induction a<;>grind [ru]
theorem wi{e:Array Nat}{j:Nat}{I:x5}{C:Prop}:∀{w:List (x5×List (Nat×(x5->Prop)))},oX e j I C w->C/\n5 e w j I
 |[],h=>⟨h,λg y=>by cases y⟩
 |g::r,h=>by
  unfold oX at h;cases hu:ru e j g.2 with
  |true=>
   rw[hu]at h;obtain⟨h1,f⟩:=wi h.2;refine⟨h1,λq a x J s=>?_⟩;cases a with
   |head=>grind [wh]
   |tail _ a=>exact f q a x J s
  |false=>
   rw[hu]at h;obtain⟨h1,f⟩:=wi (show oX e j I C r from h);refine⟨h1,λq a x J s=>?_⟩;cases a with
   |head=>grind [HK]
   |tail _ a=>exact f q a x J s
def wj(ops:Array U9)(a:Array Nat)(e:List (x5×List (Nat×(x5->Prop))))(j:Nat)(w I:x5):Prop:=(oZ ops j=s2->Ext w I)/\(oZ ops j=sp->n5 a e j I)
def j7(r:Option Nat)(P:X8)(ops:Array U9)(f:Array Nat)(Q:Exit->Act->x5->Prop):Nat->Array Bool->List (x5×List (Nat×(x5->Prop)))->Act->x5->Prop
 |0,e,_,a,w=>Region.ready .any ops e=[]/\Q .normal a w
 |fuel+1,e,h,a,w=>(Region.ready .any ops e=[]->Q .normal a w)/\
  ∀i∈Region.ready .any ops e,wpOpIn (eV r) 0 P ops Q i (λa' I=>wj ops f h i w I/\j7 r P ops f Q fuel (e.setIfInBounds i s2) h a' I) a w
theorem j7.any{f:Array Nat}:∀(fuel:Nat)(e:Array Bool)(h:List (x5×List (Nat×(x5->Prop))))(a:Act)(w:x5),j7 r P ops f Q fuel e h a w->wpAnyIn (eV r) 0 P .any ops Q fuel e a w
 :=by
 intro a;induction a<;>grind [wpOpIn_mono,j7,wpAnyIn]
theorem HL{e:Array Nat}{a:Array Bool}(h:nl ops e=s2)(q:Down ops a){i:Nat}{f:U9}(hi:ops[i]?=σ f)(r:i∈Region.ready .any ops a)(s:j∈Region.ready .any ops a)(w:j≠i):me e j i=s2:=by
 grind [mem_ready,me,Nat.eq_of_beq_eq_true,HJ]
theorem j7.take{q:Array Nat}(O:nl ops q=s2)(R:Region.noSelect ops=s2)(S:∀c a w,¬Q (.panic c) a w){i:Nat}{s:U9}(hi:ops[i]?=σ s)(ac:lD s=s2){w0:x5}{B C:List (x5×List (Nat×(x5->Prop)))}(G:∀j I,n5 q C j I->n5 q B j I){st:x5->Prop}(T:nk s=sp->∀j I,me q j i=s2->n5 q C j I->Ext w0 I\/st I):
  ∀(fuel:Nat)(f:Array Bool)(a:Act)(w:x5),Down ops f->
   (∀j z,ops[j]?=σ z->j≠i->f.getD j s2=sp->(∀e∈z.after,Region.binds .any e=s2->e.on≠i)->s.apart ops z=s2)->
   i∈Region.ready .any ops f->jD P ops s v a (n4 s w0 st)->n4 s w0 st w->
   j7 r P ops q Q fuel (f.setIfInBounds i s2) C (a.put s.dst v) w->j7 r P ops q Q (fuel+1) f B a w:=by
 have ad:=Region.noSelect_spec R;have U:oZ ops i=s2:=by grind [oZ]
 have j8:∀(fuel:Nat)(f:Array Bool)(a:Act)(w:x5),j7 r P ops q Q fuel f C a w->j7 r P ops q Q fuel f B a w:=by
  intro fuel;induction fuel with
  |zero=>intro f a w h;exact h
  |succ fuel J=>intro f a w h;exact⟨h.1,λj x=>wpOpIn_mono (λa' I be=>⟨⟨be.1.1,λF=>G _ _ (be.1.2 F)⟩,by grind⟩) (h.2 j x)⟩
 have ae:∀w,wj ops q B i w w:=λw=>⟨λ_=>Ext.refl _,λh=>by rw[U]at h;cases h⟩;intro fuel;induction fuel with
 |zero=>
  intro f a w _ _ K E hw H;refine⟨by grind,λj x=>?_⟩;by_cases y:j=i
  .subst y;exact E.go hi hw (by grind)
  .have:=ready_mono x y;rw[H.1]at this;cases this
 |succ fuel J=>
  intro f a w L V K E hw H;refine⟨by grind,λj x=>?_⟩;by_cases y:j=i
  .subst y;exact E.go hi hw (by grind)
  .have h1:=H.2 j (ready_mono x y);have hu:=HL O L hi K x y;obtain⟨af,z,W,ag⟩:=mem_ready.1 x;have ah:∀e∈z.after,Region.binds .any e=s2->e.on≠i:=by grind [mem_ready]
   have X:=HH W (by grind) (by grind) (by grind) S E h1;have Y:∀k ok,ops[k]?=σ ok->k≠i->(f.setIfInBounds j s2).getD k s2=sp->
     (∀e∈ok.after,Region.binds .any e=s2->e.on≠i)->s.apart ops ok=s2:=λk ok hk Z M aa=>by
    refine V k ok hk Z ?_ aa;by_cases ab:j=k
    .grind
    .rw[getD_set_ne s2 ab]at M;exact M
   refine wpOpIn_mono (λa' I A=>⟨⟨A.2.1.1,λF=>G _ _ (A.2.1.2 F)⟩,J (f.setIfInBounds j s2) a' I (L.set x) Y (by grind [ready_mono]) A.1 ?_ ?_⟩) X
   .cases hm:nk s with
    |true=>exact .inl hm
    |false=>
     cases N:oZ ops j with
     |true=>exact hw.W (A.2.1.1 N)
     |false=>exact .inr ((T hm j I hu (A.2.1.2 N)).imp id (by grind [Ext.refl]))
   grind [Array.setIfInBounds_comm]
theorem zS{p:Nat->Prop}:∀{l:List Nat},we p l->∀i∈l,p i
 |[],_,_,h=>by cases h
 |[i],h,j,a=>by cases a with
  |head=>exact h
  |tail _ h=>cases h
 |i::k::l,h,j,a=>by
  obtain⟨h1,e⟩:=h;cases a with
  |head=>exact h1
  |tail _ a=>exact zS e j a
theorem HM:∀{l:List Nat}{q:Nat},n1 ops l=σ q->q∈l/\∃o,ops[q]?=σ o/\lD o=s2
 :=by
 intro a;induction a<;>grind [n1]
theorem HN{o:U9}{e:Env}{a:Act}{K:Env->(x5->Prop)->Prop}(h:wc P ops o e w K)(q:S2 N e a)(A:kX N o.dst=s2):
  ∃v st,jD P ops o v a (n4 o w st)/\∃f,K f st/\S2 N f (a.put o.dst v):=by
 unfold wc at h;have F:∀{e:Env},S2 N e a->ni P o e w K->Region.wanted o (yielded ops a.tmps)=s2->∃v st,jD P ops o v a (n4 o w st)/\∃f,K f st/\S2 N f (a.put o.dst v):=λq h hw=>by
  obtain⟨v,st,h1,B,C,G⟩:=zO h q A;exact⟨v,st,.inl ⟨hw,C,λI J=>J.elim (λhm=>HG hm (h1 w (Ext.refl w))) (by grind)⟩,B⟩
 have skip:∀{e:Env},S2 N e a->K (er e o.dst .u) (λ_=>True)->Region.wanted o (yielded ops a.tmps)=sp->∃v st,jD P ops o v a (n4 o w st)/\∃f,K f st/\S2 N f (a.put o.dst v):=λq h hw=>
  ⟨undef,_,.inr ⟨hw,rfl⟩,_,h,q.put A rfl⟩
 cases r:o.guard with
 |none=>grind [Region.wanted]
 |some E=>
  obtain⟨j,b⟩:=E;rw[r]at h;simp only at h;cases z:(ops[j]?).bind (·.dst)with
  |none=>grind
  |some s=>
   rw[z]at h;simp only at h;cases V:look e s with
   |none=>grind
   |some x=>
    rw[V]at h;cases x with
    |b c=>
     simp only at h;have hw:=tj q r z V rfl
     grind
    |v y=>
     simp only at h;obtain⟨c,rfl,H,ah⟩:=h;have hw:=tj q r z V rfl;have L:=q.lit V rfl
     grind
    |u=>grind [zP]
theorem HO:∀{l:List Nat},n1 ops l=ν->∀j∈l,oZ ops j=sp
 :=by
 intro a;induction a<;>grind [n1,oZ]
theorem HP{s:Array Nat}{same:Bool}{q:Nat}{st:x5->Prop}{e:List (x5×List (Nat×(x5->Prop)))}(V:same=s2->∃a r,e=(w,a)::r):
  (∀j I,n5 s (ti same q w st e) j I->n5 s e j I)/\(∀j I,me s j q=s2->n5 s (ti same q w st e) j I->Ext w I\/st I)/\∃a r,ti same q w st e=(w,a)::r:=by
 cases same with
 |true=>
  obtain⟨a,r,rfl⟩:=V rfl;refine⟨λj I h g f x J hu=>?_,λj I hu h=>h (w,(q,st)::a) (.head _) (q,st) (.head _) hu,_,_,rfl⟩;cases f with
  |head=>exact h (w,(q,st)::a) (.head _) x (.tail _ J) hu
  |tail _ f=>exact h g (.tail _ f) x J hu
 |false=>
  refine⟨λj I h g f x J hu=>h g (.tail _ f) x J hu,λj I hu h=>h (w,[(q,st)]) (.head _) (q,st) (.head _) hu,_,_,rfl⟩
theorem HQ{K:Env->x5->Prop}{y:Array Nat}(S:nl ops y=s2)(T:Region.noSelect ops=s2)(V:∀c a w,¬Q (.panic c) a w)(aj:∀o∈ops.toList,∀t,o.dst=σ t->t∈D)(ak:oY N ops.toList=s2):
  ∀(fuel:Nat)(f:Array Bool)(same:Bool)(s:List (x5×List (Nat×(x5->Prop))))(e:Env)(a:Act)(w:x5),Down ops f->(same=s2->∃aa r,s=(w,aa)::r)->
   n2 P free ops y fuel f same s e w K->S2 N e a->
   (∀a' I,n3 N free K D a w a' I->Q .normal a' I)->j7 r P ops y Q fuel f s a w:=by
 have al:∀{j:Nat}{o:U9},ops[j]?=σ o->o∈ops.toList:=λh=>by
  grind
 have ok:∀{j:Nat}{o:U9},ops[j]?=σ o->kX N o.dst=s2:=by grind [oY]
 intro fuel;induction fuel with
 |zero=>
  intro f same s e a w A H h C B;unfold n2 at h;cases z:Region.ready .any ops f with
  |nil=>rw[z]at h;exact⟨z,B a w ⟨e,h,C,ie.refl _ _,λ_=>cP.refl _ _⟩⟩
  |cons i l=>grind
 |succ fuel L=>
  intro f same s e a w A H h C B;unfold n2 at h;cases z:Region.ready .any ops f with
  |nil=>
   rw[z]at h;refine⟨λ_=>B a w ⟨e,h,C,ie.refl _ _,λ_=>cP.refl _ _⟩,λi hi=>?_⟩;rw[z]at hi;cases hi
  |cons i l=>
   rw[z]at h;simp only at h;cases E:n1 ops (i::l)with
   |some q=>
    rw[E]at h;simp only at h;obtain⟨am,o,aC,W⟩:=HM E;cases M:Region.free .any ops f q with
    |false=>grind
    |true=>
     rw[M,aC]at h;simp only[cond_true]at h;obtain⟨v,st,X,F,x,Y⟩:=HN h C (ok aC);have G:q∈Region.ready .any ops f:=by grind
     cases hm:nk o with
     |true=>
      rw[hm]at x;refine j7.take S T V aC W (λ_ _ h=>h) (by grind) fuel f a w A (Region.free_spec aC M) G X (.inr (.inl (Ext.refl _))) ?_;exact L _ same s F _ w (A.set G) H x Y λa' I ae=>B a' I (ae.step (by grind [ie.put]) λ_=>cP.refl _ _)
     |false=>
      rw[hm]at x;obtain⟨h1,ab,ac⟩:=HP H;refine j7.take S T V aC W h1 (λ_=>ab) fuel f a w A (Region.free_spec aC M) G X (.inr (.inl (Ext.refl _))) ?_;exact L _ s2 _ F _ w (A.set G) (λ_=>ac) x Y λa' I ae=>B a' I (ae.step (by grind [ie.put]) λ_=>cP.refl _ _)
   |none=>
    rw[E]at h;simp only at h;refine⟨by grind,λj Z=>?_⟩;have O:=Z;rw[z]at O;have ad:=HO E j O;have ae:=zS h j O;cases aC:ops[j]? with
    |none=>rw[aC]at ae;exact ae.elim
    |some o=>
     rw[aC]at ae;simp only at ae;unfold wpOpIn;simp only[aC];have next:∀R U,fJ N free (λF I=>oX y j I (n2 P free ops y fuel (f.setIfInBounds j s2) sp s F I K) s) o a w R U->
       wj ops y s j w U/\j7 r P ops y Q fuel (f.setIfInBounds j s2) s R U:=by
      rintro R U ⟨af,v,x,ag,rfl,ah⟩;obtain⟨x,ai⟩:=wi x;exact⟨⟨λh=>(by rw[ad]at h;cases h),λ_=>ai⟩,
       L _ sp s af _ U (A.set Z) (by grind) x ag λa' I ae=>B a' I (ae.step (by grind [ie.put]) ah)⟩
     rcases zQ ae C (ok aC)with⟨hw,J⟩|⟨hw,J⟩
     .rw[m3 hw];exact U9.wpIn_mono next J
     .rw[hw];exact⟨λ_ _=>trivial,next _ _ J⟩
theorem HR(hm:P.follows .mixedOrders=s2){K:Env->x5->Prop}{id:Nat}{e:Env}{a:Act}(j:nl ops (Region.before ops)=s2)(q:∀c a w,¬Q (.panic c) a w)(s:∀o∈ops.toList,∀t,o.dst=σ t->t∈D)(y:oY N ops.toList=s2)(h:∀I,Ext w I->Ext I w->cS w I->wg P free ops e I K)(z:S2 N e a)(A:∀a' I,n3 N free K D a w a' I->Q .normal a' I):
  (Code.region id ops s2).wpIn (eV r) 0 P Q a w:=by
 refine wpIn_region_any hm ?_;have h:=h {w with drawn:=w.drawn+1} (tb w _) ⟨o6 _,λ_ _ h _=>h⟩ (by grind [rn]);unfold wg at h;cases f:Region.noSelect ops with
 |false=>grind
 |true=>
  rw[f]at h;refine j7.any _ _ _ _ _ (HQ j f q s y ops.size _ sp [] e a _ ?_ (by grind) h z λa' I ae=>A a' I (ae.step (ie.refl _ _) λ_=>(rn w _ (Nat.le_succ _)).b));intro x o _ B;rcases Nat.lt_or_ge x ops.size with be|be
  .simp[be]at B
  grind
end
def lF(t:Nat):List Nat->Bool
 |[]=>sp
 |s::r=>bif S5 s t then s2 else lF t r
theorem HS{t:Nat}:∀{l:List Nat},lF t l=s2↔t∈l
 :=by
 intro a;induction a<;>grind [lF,Nat.eq_of_beq_eq_true,Nat.ne_of_beq_eq_false]
def o0:List U9->List Nat
 |[]=>[]
 |o::l=>match o.dst with
  |some d=>d::o0 l
  |none=>o0 l
def tmpsOf:List S1->List Nat
 |[]=>[]
 | .tmp t::l=>t::tmpsOf l
 |_::l=>tmpsOf l
def HT(ops:Array U9)(o:U9):List Nat:=
 match o.guard with
 |some (j,_)=>match(ops[j]?).bind (·.dst)with
  |some s=>[s]
  |none=>[]
 |none=>[]
def tk(D:List Nat):List Nat->List Nat
 |[]=>[]
 |t::r=>bif lF t D then tk D r else t::tk D r
def wk(D:List Nat):List Nat->List Nat
 |[]=>[]
 |t::r=>bif lF t D then t::wk D r else wk D r
def zT(ops:Array U9):List U9->List Nat->List Nat
 |[],_=>[]
 |o::l,D=>tk D (tmpsOf (opsOf o.op)++HT ops o)++zT ops l (match o.dst with
  |some d=>d::D
  |none=>D)
def dO:Code->List Nat
 | .region _ ops _=>o0 ops.toList
 | .seq a b=>dO a++dO b
 | .cond _ a b=>dO a++dO b
 | .block _ c=>dO c
 | .loop c=>dO c
 | .scope c=>dO c
 |_=>[]
def kY(id:Nat):Code->Nat
 | .seq a b=>kY id a+kY id b
 | .cond _ a b=>kY id a+kY id b
 | .block _ c=>kY id c
 | .loop c=>kY id c
 | .scope c=>kY id c
 | .exit i=>bif S5 i id then 1 else 0
 | .rangeFunc _ _ _ b=>kY id b
 |_=>0
def HU(ops:Array U9):Bool:=
 let a:=Region.before ops;let e:=λ(i:Nat)=>match ops[i]? with|some o=>!(lD o)|none=>sp
 (Y9 ops.size).any λj=>e j&&((Y9 j).any λi=>e i&&(!((a.getD j 0).testBit i)&& !((a.getD i 0).testBit j)))
def mf:Code->Nat
 | .region _ ops e=>bif (e&&HU ops)||ops.any (·.guard.isSome)then 2 else 1
 | .seq a b=>bif S5 (mf a) 0 then 0 else mf b
 | .cond _ a b=>mf a+mf b
 | .block id c=>mf c+kY id c
 | .loop _=>0
 | .scope c=>mf c
 | .exit _=>0
 | .goto _=>0
 | .ret=>0
 | .refuse _=>0
 |_=>1
def nn:Code->List Nat
 | .region _ ops _=>o0 ops.toList
 | .seq a b=>nn a++nn b
 | .cond _ a b=>bif S5 (mf a) 0 then nn b else bif S5 (mf b) 0 then nn a else wk (nn a) (nn b)
 | .block id c=>bif S5 (kY id c) 0 then nn c else[]
 | .scope c=>nn c
 |_=>[]
def reads:Code->List Nat
 | .region _ ops _=>zT ops ops.toList []
 | .seq a b=>reads a++tk (nn a) (reads b)
 | .cond c a b=>tmpsOf [c]++(reads a++reads b)
 | .block _ c=>reads c
 | .loop c=>reads c
 | .scope c=>reads c
 | .rangeFunc f _ a b=>tmpsOf [f]++(reads a++reads b)
 |_=>[]
def lG:Code->Bool
 | .seq a b=>lG a||lG b
 | .cond _ a b=>lG a||lG b
 | .block _ c=>lG c
 | .loop c=>lG c
 | .scope c=>lG c
 | .rangeFunc ..=>s2
 |_=>sp
def wf(N:Nat):Code->Bool
 | .region _ ops e=>oY N ops.toList&&(!e||nl ops (Region.before ops))
 | .seq a b=>wf N a&&wf N b
 | .cond _ a b=>wf N a&&wf N b
 | .block _ c=>wf N c
 | .loop c=>wf N c
 | .scope c=>wf N c
 | .rangeFunc _ f a b=>(f.toList.all λt=>Nat.blt t N)&&(wf N a&&wf N b)
 |_=>s2
def o1:Nat->Type->Type
 |0,β=>β
 |n+1,β=>x4->o1 n β
def app{β:Type}:(n:Nat)->o1 n β->List x4->β
 |0,f,_=>f
 |n+1,f,[]=>app n (f undef) []
 |n+1,f,v::r=>app n (f v) r
def lam{β:Type}:(n:Nat)->(List x4->β)->o1 n β
 |0,f=>f []
 |n+1,f=>λv=>lam n λr=>f (v::r)
def tm:(n:Nat)->o1 n Prop->Prop
 |0,p=>p
 |n+1,p=>∀v,tm n (p v)
theorem wm{β:Type}:∀(n:Nat)(f:List x4->β)(vs:List x4),vs.length=n->app n (lam n f) vs=f vs
 :=by
 intro a b c;induction c generalizing a b<;>grind [app,lam]
theorem tn:∀(n:Nat)(p:o1 n Prop)(vs:List x4),tm n p->app n p vs
 |0,_,_,h=>h
 |n+1,_,[],h=>tn n _ [] (h undef)
 |n+1,_,v::r,h=>tn n _ r (h v)
def HV(n:Nat)(vs:List x4)(w:x5)(B:List x4->x5->(List x4->x5->Prop)->Prop):Prop:=
 ∃(a:o1 n (x5->Prop))(e:o1 n (x5->Nat)),app n a vs w/\
  tm n (lam n λus=>∀I,app n a us I->B us I λf h=>app n a f h/\app n e f h<app n e us I)
def HW(w:x5)(B:x5->(x5->Prop)->Prop):Prop:=
 ∃(a:x5->Prop)(e:x5->Nat),a w/\∀I,a I->B I λf=>a f/\e f<e I
def b3(a:x4)(w:x5)(B:x4->x5->(x4->x5->Prop)->Prop):Prop:=
 ∃(e:x4->x5->Prop)(f:x4->x5->Nat),e a w/\∀a I,e a I->B a I λa' h=>e a' h/\f a' h<f a I
def cp(a b:x4)(w:x5)(B:x4->x4->x5->(x4->x4->x5->Prop)->Prop):Prop:=
 ∃(e:x4->x4->x5->Prop)(f:x4->x4->x5->Nat),e a b w/\∀a b I,e a b I->B a b I λa' h j=>e a' h j/\f a' h j<f a b I
def lH(a b c:x4)(w:x5)(B:x4->x4->x4->x5->(x4->x4->x4->x5->Prop)->Prop):Prop:=
 ∃(e:x4->x4->x4->x5->Prop)(f:x4->x4->x4->x5->Nat),e a b c w/\
  ∀a b c I,e a b c I->B a b c I λa' h j q=>e a' h j q/\f a' h j q<f a b c I
def rx(a b c d:x4)(w:x5)(B:x4->x4->x4->x4->x5->(x4->x4->x4->x4->x5->Prop)->Prop):Prop:=
 ∃(e:x4->x4->x4->x4->x5->Prop)(f:x4->x4->x4->x4->x5->Nat),e a b c d w/\
  ∀a b c d I,e a b c d I->B a b c d I λa' h j q r=>e a' h j q r/\f a' h j q r<f a b c d I
def ry(a b c d e:x4)(w:x5)(B:x4->x4->x4->x4->x4->x5->(x4->x4->x4->x4->x4->x5->Prop)->Prop):Prop:=
 ∃(f:x4->x4->x4->x4->x4->x5->Prop)(h:x4->x4->x4->x4->x4->x5->Nat),f a b c d e w/\∀a b c d e I,f a b c d e I->B a b c d e I λa' j q r s x=>f a' j q r s x/\h a' j q r s x<h a b c d e I
def HX(a b c d e f:x4)(w:x5)(B:x4->x4->x4->x4->x4->x4->x5->(x4->x4->x4->x4->x4->x4->x5->Prop)->Prop):Prop:=
 ∃(h:x4->x4->x4->x4->x4->x4->x5->Prop)(j:x4->x4->x4->x4->x4->x4->x5->Nat),h a b c d e f w/\∀a b c d e f I,h a b c d e f I->B a b c d e f I λa' q r s x y z=>h a' q r s x y z/\j a' q r s x y z<j a b c d e f I
def cG{α:Type}(az:α)(B:α->Prop):Prop:=B az
def wn(n:Nat)(w:x5)(K:x5->Prop):Prop:=∀I,Ext w I->Ext I w/\fX n w I->K I
def Over(n:Nat)(w:x5)(K:x5->Prop):Prop:=∀I,Ext w I->Ext I w/\fX n w I->fj w I->K I
def et(w:x5)(K:x5->Prop):Prop:=∀I,Ext w I->Ext I w->cS w I->K I
def lI(e:Env):List Nat->Option (List x4)
 |[]=>σ []
 |t::r=>match look e t with
  |some x=>match lI e r with
   |some vs=>σ (x.val::vs)
   |none=>ν
  |none=>ν
def kw:List Nat->List x4->Env->Env
 |t::r,v::vs,e=>(t,.v v)::kw r vs e
 |_,_,e=>e
def n7(D:List Nat):Env->Env
 |[]=>[]
 |(t,x)::r=>bif lF t D then n7 D r else(t,x)::n7 D r
def rz(N:Nat)(D R:List Nat):List Nat:=(Y9 N).filter λt=>lF t D&&lF t R
def rA(N:Nat)(D R:List Nat)(e:Env):List Nat:=(Y9 N).filter λt=>lF t D&&((look e t).isSome&&lF t R)
def kx:Code->Bool
 | .seq a b=>kx a||kx b
 | .cond _ a b=>kx a||kx b
 | .block _ c=>kx c
 | .loop c=>kx c
 | .scope c=>kx c
 | .rangeFunc _ _ a b=>kx a||kx b
 | .ret=>s2
 |_=>sp
def HY(i:Nat)(l:List Nat):List Nat:=bif lF i l then l else i::l
def tp:List Nat->List Nat->List Nat
 |[],l=>l
 |i::r,l=>HY i (tp r l)
def wo(i:Nat):List Nat->List Nat
 |[]=>[]
 |j::r=>bif S5 i j then wo i r else j::wo i r
def kZ:Code->List Nat
 | .seq a b=>tp (kZ a) (kZ b)
 | .cond _ a b=>tp (kZ a) (kZ b)
 | .block id c=>wo id (kZ c)
 | .loop c=>kZ c
 | .scope c=>kZ c
 | .rangeFunc _ _ a b=>tp (kZ a) (kZ b)
 | .exit i=>[i]
 |_=>[]
def n8:List (Nat×(x5->Prop))->Nat->x5->Prop
 |[],_,_=>False
 |(j,k)::r,i,w=>(i=j/\k w)\/n8 r i w
def tq(K:Nat->x5->Prop):List Nat->List (Nat×(x5->Prop))
 |[]=>[]
 |i::r=>(i,λw=>K i w)::tq K r
theorem HZ{K:Nat->x5->Prop}:∀{l:List Nat}{i:Nat}{w:x5},n8 (tq K l) i w->K i w
 :=by
 intro a;induction a<;>grind [n8,tq]
section
variable(P:X8)
def qh{a:Type}(G:Bool)(g:S8)(cap:List x4)(q:a)(r:a->Prop)(s:a->List x4->a->x5->Prop)(h:x5->Prop):Prop:=
 Enters P g/\∀(l:Nat)(az e:a->x5->Prop)(w:x5),
  (∀k U ab,Ext U ab->cP w.heap.size U ab->az k U->az k ab)->(∀k U ab,Ext U ab->cP w.heap.size U ab->e k U->e k ab)->
  (∀k j vs I,h I->s k vs j I->az k I->je P l vs I λv f=>(v= .bool s2/\h f/\az j f/\(G=s2->cS I f))\/(v= .bool sp/\e k f))->
  h w->az q w->ic P g (.func (.yield l) #[] #[]::cap) w λ_ I=>(∃k,r k/\az k I)\/∃k,e k I
def wp(G:Bool)(g:S8)(cap:List x4)(n:Nat)(h:Nat->List x4->x5->Prop)(f:x5->Prop):Prop:=
 Enters P g/\∀(l:Nat)(az a:Nat->x5->Prop)(w:x5),
  (∀k U ab,Ext U ab->cP w.heap.size U ab->az k U->az k ab)->(∀k U ab,Ext U ab->cP w.heap.size U ab->a k U->a k ab)->
  (∀k vs I,k<n->f I->h k vs I->az k I->je P l vs I λv e=>(v= .bool s2/\f e/\az (k+1) e/\(G=s2->cS I e))\/(v= .bool sp/\a k e))->
  f w->az 0 w->ic P g (.func (.yield l) #[] #[]::cap) w λ_ I=>az n I\/∃k,k<n/\a k I
def rB{e:Type}(o G:Bool)(g:S8)(cap:List x4)(q:e)(s:e->Prop)(x:e->List x4->e->x5->Prop)(h:(Nat->Prop)->x5->Prop):Prop:=
 Enters P g/\∀(l:Nat)(az f:(Nat->Prop)->e->x5->Prop)(w:x5),
  (∀D k U ab,ai (λr=>o=s2/\w.heap.size<=r/\¬D r) U ab->fX w.heap.size U ab->az D k U->az D k ab)->
  (∀D k U ab,ai (λr=>o=s2/\w.heap.size<=r/\¬D r) U ab->fX w.heap.size U ab->f D k U->f D k ab)->
  (∀D k j vs I,(∀r,D r->w.heap.size<=r/\r<I.heap.size)->w.heap.size<=I.heap.size->h D I->x k vs j I->az D k I->je P l vs I λv a=>
   (v= .bool s2/\(∃D',(∀r,D' r->D r\/I.heap.size<=r/\r<a.heap.size)/\(∀r,D r->D' r)/\h D' a/\az D' j a)/\(G=s2\/o=s2->cS I a)/\I.heap.size<=a.heap.size/\(o=s2->ai (λr=>r<w.heap.size\/D r) I a))\/(o=sp/\v= .bool sp/\f D k a))->
  (h (λ_=>False) w)->az (λ_=>False) q w->ic P g (.func (.yield l) #[] #[]::cap) w λ_ I=>(∃D k,s k/\az D k I)\/∃D k,f D k I
abbrev qi(g:S8)(cap:List x4)(n:Nat)(a:Nat->List x4->x5->Prop)(e:x5->Prop):Prop:=wp P sp g cap n a e
def H0(A:x4)(s:Nat)(w:x5)(B:List x4->x5->(Exit->x5->Prop)->Prop)(C E:x5->Prop)(F:List (Nat×(x5->Prop))):Prop:=
 ∃(h:Type)(o G:Bool)(g:S8)(cap:Array x4)(y:h)(z:h->Prop)(x:h->List x4->h->x5->Prop)(e:(Nat->Prop)->x5->Prop)(f:(Nat->Prop)->h->x5->Prop)(j:(Nat->Prop)->h->Exit->x5->Prop),
  A= .func (.func g) #[] cap/\rB P o G g cap.toList y z x e/\(∀k vs q w,x k vs q w->vs.length=s)/\
  (∀m w I,Ext w I->e m w->e m I)/\(∀m k U ab,ai (λr=>o=s2/\w.heap.size<=r/\¬m r) U ab->fX w.heap.size U ab->f m k U->f m k ab)/\(∀m k ex U ab,ai (λr=>o=s2/\w.heap.size<=r/\¬m r) U ab->fX w.heap.size U ab->j m k ex U->j m k ex ab)/\
  e (λ_=>False) w/\f (λ_=>False) y w/\
  tm s (lam s λvs=>∀m k q I,(∀r,m r->w.heap.size<=r/\r<I.heap.size)->w.heap.size<=I.heap.size->e m I->x k vs q I->f m k I->B vs I λex a=>match ex with
   | .normal=>bif o then(∃bV,(∀r,bV r->m r\/I.heap.size<=r/\r<a.heap.size)/\(∀r,m r->bV r)/\e bV a/\f bV q a)/\fj I a/\ai (λr=>r<w.heap.size\/m r) I a else e m a/\f m q a/\(G=s2->fj I a)
   |ex=>bif o then False else j m k ex a)/\
  (∀m k I,z k->f m k I->C I)/\(∀m k I,j m k .ret I->E I)/\(∀m k i I,j m k (.exit i) I->n8 F i I)
def ky(A:x4)(w:x5)(B:x4->x5->(Exit->x5->Prop)->Prop)(C E:x5->Prop)(F:List (Nat×(x5->Prop))):Prop:=
 ∃(j:Type)(o G:Bool)(g:S8)(cap:Array x4)(y:j)(z:j->Prop)(x:j->List x4->j->x5->Prop)(f:(Nat->Prop)->x5->Prop)(h:(Nat->Prop)->j->x5->Prop)(q:(Nat->Prop)->j->Exit->x5->Prop),
  A= .func (.func g) #[] cap/\rB P o G g cap.toList y z x f/\(∀k vs s w,x k vs s w->vs.length=1)/\
  (∀m w I,Ext w I->f m w->f m I)/\(∀m k U ab,ai (λr=>o=s2/\w.heap.size<=r/\¬m r) U ab->fX w.heap.size U ab->h m k U->h m k ab)/\(∀m k ex U ab,ai (λr=>o=s2/\w.heap.size<=r/\¬m r) U ab->fX w.heap.size U ab->q m k ex U->q m k ex ab)/\
  f (λ_=>False) w/\h (λ_=>False) y w/\
  (∀a,∀m k s I,(∀r,m r->w.heap.size<=r/\r<I.heap.size)->w.heap.size<=I.heap.size->f m I->x k [a] s I->h m k I->B a I λex e=>match ex with
   | .normal=>bif o then(∃bV,(∀r,bV r->m r\/I.heap.size<=r/\r<e.heap.size)/\(∀r,m r->bV r)/\f bV e/\h bV s e)/\fj I e/\ai (λr=>r<w.heap.size\/m r) I e else f m e/\h m s e/\(G=s2->fj I e)
   |ex=>bif o then False else q m k ex e)/\
  (∀m k I,z k->h m k I->C I)/\(∀m k I,q m k .ret I->E I)/\(∀m k i I,q m k (.exit i) I->n8 F i I)
def qj(A:x4)(w:x5)(B:x4->x4->x5->(Exit->x5->Prop)->Prop)(C E:x5->Prop)(F:List (Nat×(x5->Prop))):Prop:=
 ∃(j:Type)(o G:Bool)(g:S8)(cap:Array x4)(y:j)(z:j->Prop)(x:j->List x4->j->x5->Prop)(f:(Nat->Prop)->x5->Prop)(h:(Nat->Prop)->j->x5->Prop)(q:(Nat->Prop)->j->Exit->x5->Prop),
  A= .func (.func g) #[] cap/\rB P o G g cap.toList y z x f/\(∀k vs s w,x k vs s w->vs.length=2)/\
  (∀m w I,Ext w I->f m w->f m I)/\(∀m k U ab,ai (λr=>o=s2/\w.heap.size<=r/\¬m r) U ab->fX w.heap.size U ab->h m k U->h m k ab)/\(∀m k ex U ab,ai (λr=>o=s2/\w.heap.size<=r/\¬m r) U ab->fX w.heap.size U ab->q m k ex U->q m k ex ab)/\
  f (λ_=>False) w/\h (λ_=>False) y w/\
  (∀a b,∀m k s I,(∀r,m r->w.heap.size<=r/\r<I.heap.size)->w.heap.size<=I.heap.size->f m I->x k [a,b] s I->h m k I->B a b I λex e=>match ex with
   | .normal=>bif o then(∃bV,(∀r,bV r->m r\/I.heap.size<=r/\r<e.heap.size)/\(∀r,m r->bV r)/\f bV e/\h bV s e)/\fj I e/\ai (λr=>r<w.heap.size\/m r) I e else f m e/\h m s e/\(G=s2->fj I e)
   |ex=>bif o then False else q m k ex e)/\
  (∀m k I,z k->h m k I->C I)/\(∀m k I,q m k .ret I->E I)/\(∀m k i I,q m k (.exit i) I->n8 F i I)
theorem wp.s{P:X8}{G:Bool}{g:S8}{cap:List x4}{e:Nat->List x4->x5->Prop}{a:x5->Prop}(h:wp P G g cap n e a):
  qh P G g cap 0 (λk=>k=n) (λk vs f w=>k<n/\f=k+1/\e k vs w) a:=by
 refine⟨h.1,λl az j w q r x ha y=>?_⟩;have:=h.2 l az (λk w=>j k w) w q r (λk vs I hk hz C A=>x k (k+1) vs I hz (by grind) A) ha y;cases this with
 |code h1 B=>exact .code h1 (B.Y (by grind))
 |ext v I h1 E=>exact .ext v I h1 (by grind)
theorem qh.x{P:X8}{e:Type}{G:Bool}{g:S8}{cap:List x4}{s:e}{y:e->Prop}{z:e->List x4->e->x5->Prop}{f:x5->Prop}(h:qh P G g cap s y z f):rB P sp G g cap s y z λ_=>f:=by
 refine⟨h.1,λl az B w C E F hf N=>?_⟩;have:=h.2 l (λk I=>w.heap.size<=I.heap.size/\∃D,(∀r,D r->w.heap.size<=r/\r<I.heap.size)/\az D k I) (λk I=>∃D,B D k I) w
  (λk U ab J q ⟨V,D,j,a⟩=>⟨X0 V J.size,D,λr A=>⟨(j r A).1,Nat.lt_of_lt_of_le (j r A).2 J.size⟩,C D k U ab (J.aa _) q.o a⟩) (λk U ab J q ⟨D,a⟩=>⟨D,E D k U ab (J.aa _) q.o a⟩)
  (λk H vs I hK L ⟨V,D,j,a⟩=>je.Y (F D k H vs I j V hK L a) (by grind)) hf (by grind)
 cases this with
 |code h1 M=>exact .code h1 (M.Y (by grind))
 |ext v I h1 O=>exact .ext v I h1 (by grind)
theorem ky.old{P:X8}{E:x4}{B:x4->x5->(Exit->x5->Prop)->Prop}{F H:x5->Prop}{J:List (Nat×(x5->Prop))}(h:∃(e:Type)(G:Bool)(g:S8)(cap:Array x4)(s:e)(y:e->Prop)(r:e->List x4->e->x5->Prop)(f:x5->Prop)(j:e->x5->Prop)(q:e->Exit->x5->Prop),
  E= .func (.func g) #[] cap/\qh P G g cap.toList s y r f/\(∀k vs z w,r k vs z w->vs.length=1)/\
  (∀w I,Ext w I->f w->f I)/\(∀k w I,Ext w I->j k w->j k I)/\(∀k ex w I,Ext w I->q k ex w->q k ex I)/\
  f w/\j s w/\
  (∀a,∀k z I,f I->r k [a] z I->j k I->B a I λex A=>match ex with
   | .normal=>f A/\j z A/\(G=s2->fj I A)
   |ex=>q k ex A)/\
  (∀k I,y k->j k I->F I)/\(∀k I,q k .ret I->H I)/\(∀k i I,q k (.exit i) I->n8 J i I)):ky P E w B F H J:=by
 obtain⟨e,G,g,cap,s,y,r,f,j,q,h1,K,L,M,N,O,Q,R,W,S,T,V⟩:=h;exact⟨e,sp,G,g,cap,s,y,r,λ_=>f,λ_=>j,λ_=>q,h1,K.x,L,λ_=>M,λ_ k U ab C _=>N k U ab (C.W (by grind)),λ_ k ex U ab C _=>O k ex U ab (C.W (by grind)),Q,R,
  by grind,λ_=>S,λ_=>T,λ_=>V⟩
theorem qj.old{P:X8}{E:x4}{B:x4->x4->x5->(Exit->x5->Prop)->Prop}{F H:x5->Prop}{J:List (Nat×(x5->Prop))}(h:∃(e:Type)(G:Bool)(g:S8)(cap:Array x4)(s:e)(y:e->Prop)(r:e->List x4->e->x5->Prop)(f:x5->Prop)(j:e->x5->Prop)(q:e->Exit->x5->Prop),
  E= .func (.func g) #[] cap/\qh P G g cap.toList s y r f/\(∀k vs z w,r k vs z w->vs.length=2)/\
  (∀w I,Ext w I->f w->f I)/\(∀k w I,Ext w I->j k w->j k I)/\(∀k ex w I,Ext w I->q k ex w->q k ex I)/\
  f w/\j s w/\
  (∀a b,∀k z I,f I->r k [a,b] z I->j k I->B a b I λex A=>match ex with
   | .normal=>f A/\j z A/\(G=s2->fj I A)
   |ex=>q k ex A)/\
  (∀k I,y k->j k I->F I)/\(∀k I,q k .ret I->H I)/\(∀k i I,q k (.exit i) I->n8 J i I)):qj P E w B F H J:=by
 obtain⟨e,G,g,cap,s,y,r,f,j,q,h1,K,L,M,N,O,Q,R,W,S,T,V⟩:=h;exact⟨e,sp,G,g,cap,s,y,r,λ_=>f,λ_=>j,λ_=>q,h1,K.x,L,λ_=>M,λ_ k U ab C _=>N k U ab (C.W (by grind)),λ_ k ex U ab C _=>O k ex U ab (C.W (by grind)),Q,R,
  by grind,λ_=>S,λ_=>T,λ_=>V⟩
def eW(N:Nat)(free:fY):Code->List Nat->Env->x5->(Exit->Env->x5->Prop)->Prop
 | .skip,_,e,w,K=>K .normal e w
 | .label _,_,e,w,K=>K .normal e w
 | .ret,_,e,w,K=>K .ret e w
 | .exit i,_,e,w,K=>K (.exit i) e w
 | .region _ ops q,_,e,w,K=>
  bif q then et w λI=>wg P free ops e I (K .normal)
  else qg P free ops ops.toList e w (K .normal)
 | .seq x y,rd,e,w,K=>
  bif Nat.ble 2 (mf x)then
   cG (lam (rz N (dO x) (reads y++rd)).length λvs=>λI=>eW N free y rd (kw (rz N (dO x) (reads y++rd)) vs (n7 (dO x) e)) I K)
    λaz=>eW N free x (reads y++rd) e w λex a I=>match ex with
     | .normal=>match lI a (rz N (dO x) (reads y++rd))with
      |some vs=>app (rz N (dO x) (reads y++rd)).length az vs I
      |none=>False
     |ex=>K ex a I
  else eW N free x (reads y++rd) e w λex a I=>match ex with
   | .normal=>eW N free y rd a I K
   |ex=>K ex a I
 | .cond c x y,rd,e,w,K=>
  match e1 e c with
  |some (.b s2)=>eW N free x rd e w K
  |some (.b sp)=>eW N free y rd e w K
  |some (.v v)=>Split v (eW N free x rd e w K) (eW N free y rd e w K)
  |some .u=>False
  |none=>False
 | .block id c,rd,e,w,K=>eW N free c rd e w λex a I=>match ex with
  | .exit i=>bif S5 i id then K .normal a I else K (.exit i) a I
  |ex=>K ex a I
 | .loop c,rd,e,w,K=>
  match lI e (rA N (dO c) (reads c++rd) e)with
  |some vs=>
   HV (rA N (dO c) (reads c++rd) e).length vs w λus I k=>
    eW N free c (reads c++rd) (kw (rA N (dO c) (reads c++rd) e) us (n7 (dO c) e)) I λex a h=>match ex with
     | .normal=>match lI a (rA N (dO c) (reads c++rd) e)with
      |some r=>k r h
      |none=>False
     |ex=>K ex a h
  |none=>False
 | .scope c,rd,e,w,K=>eW N free c rd e w K
 | .rangeFunc f j s body,_,e,w,K=>
  bif free.1 then False else
  match e1 e f with
  |some z=>
   H0 P z.val j.size w
    (λvs I k=>eW N free s (reads body) (kw j.toList.reverse vs.reverse e) I λex a h=>match ex with
     | .normal=>Over w.heap.size h λA=>eW N free body [] a A λex _ B=>k ex B
     |_=>False)
    (λI=>K .normal e I) (bif kx body then λI=>K .ret e I else λ_=>False) (tq (λi I=>K (.exit i) e I) (kZ body))
  |none=>False
 | .goto _,_,_,_,_=>False
 | .refuse _,_,_,_,_=>False
end
theorem tr{w0:x5}(h:cP n w0 w){l:Nat}(j:w0.heap.size<=l)(o:Obj):cP n w0 (w.putObj l o):=
 ⟨h.os,h.tape,h.output,by simpa using h.size,λr x a V=>by
  have e:=(Y1.1 a).1;rw[S9 Ω];exact h.a8 r x a V,λr x f a V=>by
  have e:=(Y1.1 a).1;rw[S9 Ω];exact h.old r x f a V⟩
theorem H2{w0:x5}(h:fj w0 w){l:Nat}{a:Obj}(f:w.heap[l]?=σ a)(j:ta a=sp)(o:Obj):fj w0 (w.putObj l o):=λr x e V=>by
 have h1:=h r x e V
 grind [S9]
theorem rC{l:Nat}{a:Obj}(e:w.heap[l]?=σ a)(f:fW a=sp)(o:Obj):Ext w (w.putObj l o):=
 ⟨Ξ,by grind [S9]⟩
theorem zU{l:Nat}{o:Obj}(aC:fW o=sp):Ext (w.putObj l o) w:=
 ⟨Ξ,λr x a V=>by
  by_cases e:r=l
  .subst e;rcases Nat.lt_or_ge r w.heap.size with h|h
   .grind [x5.putObj_heap_same]
   .rw[Array.getElem?_eq_none (by simpa using h)]at a;cases a
  grind [S9]⟩
theorem qk(w:x5)(o:Obj):Ext w (w.alloc o):=rp w o
theorem ql(w:x5)(o:Obj):cS w (w.alloc o):=rq w o
def np(D:Nat):Deferred:={target:=.collected D,args:=#[]}
def nq(w:x5)(e:List Deferred):Prop:=∃a:List Nat,e=a.map np/\a.Nodup/\∀D∈a,w.heap[D]?=σ (.deferred (σ []))
theorem nq.cQ{a:List Deferred}(h:nq w a)(e:cP n w I):nq I a:=by
 obtain⟨f,h1,j,q⟩:=h;exact⟨f,h1,j,λD r=>e.a8 D _ (q D r) rfl⟩
section
variable{P:X8}{N:Nat}
def H3(w:x5)(e f:List Deferred):Prop:=∃a:List Nat,f=a.map np++e/\∀D∈a,w.heap.size<=D
def ig(n:Nat)(w:x5)(e:List Deferred)(I:x5)(a:List Deferred):Prop:=cP n w I/\nq I a/\H3 w e a
theorem ig.refl{a:List Deferred}(h:nq w a):ig n w a w a:=⟨cP.refl _ _,h,[],rfl,by grind⟩
theorem ig.F{U:x5}{a e f:List Deferred}(h:ig n w a U e)(k:ig n U e I f):ig n w a I f:=by
 obtain⟨j,A,q,a3,a4⟩:=h;obtain⟨r,s,x,B,y⟩:=k;refine⟨j.F r,s,x++q,by grind,λD z=>?_⟩;rcases j9.1 z with h|h
 .exact X0 j.size (y D h)
 grind
theorem ig.same{a:List Deferred}(h:nq w a)(e:cP n w I):ig n w a I a:=⟨e,h.cQ e,[],rfl,by grind⟩
def mg:Exit->Bool
 | .panic _=>sp
 | .outgrown=>sp
 | .goto _=>sp
 |_=>s2
def oa(N:Nat)(free:fY)(f:Bool)(K:Exit->Env->x5->Prop)(D:List Nat)(a:Act)(w:x5)(ex:Exit)(a':Act)(I:x5):Prop:=
 mg ex=s2/\∃e,K ex e I/\S2 N e a'/\(∀t,t∉D->a'.tmps.getD t undef=a.tmps.getD t undef)/\(f=s2->a'.defers=a.defers)/\
  (free.1=sp->ig free.2 w a.defers I a'.defers)
theorem oa.step{free:fY}{f j:Bool}{K:Exit->Env->x5->Prop}{D':List Nat}{a e a':Act}{U:x5}{ex:Exit}(h:oa N free j K D' e U ex a' I)(z:∀t,t∈D'->t∈D)(hk:∀t,t∉D->e.tmps.getD t undef=a.tmps.getD t undef)(A:f=s2->j=s2)(ah:f=s2->e.defers=a.defers)(q:free.1=sp->ig free.2 w a.defers U e.defers):oa N free f K D a w ex a' I:=by
 obtain⟨r,s,h1,x,B,C,y⟩:=h;exact⟨r,s,h1,x,by grind,by grind,λh=>(q h).F (y h)⟩
theorem zV{t:Nat}{x:eU}:∀{e:Env},look (n7 D e) t=σ x->look e t=σ x/\t∉D
 :=by
 intro a;induction a<;>grind [n7,look,HS,Nat.eq_of_beq_eq_true]
theorem wq{a:Act}{e:Env}:∀{S:List Nat}{vs:List x4},S2 N e a->(∀p∈S.zip vs,a.tmps.getD p.1 undef=p.2)->S2 N (kw S vs e) a
 |[],_,h,_=>by grind [kw]
 |t::r,[],h,_=>by grind [kw]
 |t::r,v::vs,h,j=>by
  have q:=wq (S:=r) (vs:=vs) h λp ae=>j p (by simp[ae]);refine⟨q.1,λs x V=>?_⟩;simp only[kw,look]at V;cases f:S5 t s with
  |true=>
   rw[f]at V;simp only[cond_true,W6]at V;subst V;rw[<-Nat.eq_of_beq_eq_true f];exact j (t,v) Ξ
  |false=>rw[f]at V;exact q.2 s x V
theorem ts{e:Env}{a:Act}(f:S2 N e a):∀{S:List Nat}{vs:List x4},lI e S=σ vs->vs.length=S.length/\∀p∈S.zip vs,a.tmps.getD p.1 undef=p.2
 |[],vs,h=>by simp[lI]at h;subst h;simp
 |t::r,vs,h=>by
  simp only[lI]at h;cases j:look e t with
  |none=>grind
  |some x=>
   rw[j]at h;simp only at h;cases ac:lI e r with
   |none=>grind
   |some us=>
    rw[ac]at h;simp only[W6]at h;subst h;obtain⟨h1,q⟩:=ts f ac;refine⟨by simp[h1],λp ae=>?_⟩;simp only[List.zip_cons_cons,List.mem_cons]at ae;rcases ae with rfl|ae
    .exact f.2 t x j
    grind
theorem H4{a a':Act}{e f:Env}(j:S2 N e a)(q:S2 N f a')(hk:∀t,t∉D->a'.tmps.getD t undef=a.tmps.getD t undef):S2 N (n7 D e) a':=
 ⟨q.1,λt x h=>by
  obtain⟨h1,r⟩:=zV h;rw[hk t r];exact j.2 t x h1⟩
theorem H5{o:U9}{t:Nat}(a:o.dst=σ t)(l:List U9)(hm:o∈l):t∈o0 l:=by
 induction l<;>grind [o0]
theorem zW{free:fY}{f:Bool}{K:Exit->Env->x5->Prop}{a a':Act}(r:free.1=sp->nq w a.defers)(h:n3 N free (K .normal) D a w a' I):
  oa N free f K D a w .normal a' I:=by
 obtain⟨j,h1,q,e,s⟩:=h;exact⟨rfl,j,h1,q,e.2,λ_=>e.1,λah=>by rw[e.1];grind [ig.same]⟩
theorem zX:∀(a:List Nat)(vs:List x4)(p:Nat)(v:x4)(e:Env),a.length=vs.length->kw (a++[p]) (vs++[v]) e=kw a vs ((p,.v v)::e)
 |[],[],_,_,_,_=>rfl
 |[],_::_,_,_,_,h=>by simp at h
 |_::_,[],_,_,_,h=>by simp at h
 |q::a,u::vs,p,v,e,h=>by
  simp only[List.cons_append,kw];rw[zX a vs p v e (by grind)]
theorem zY:∀(a:List Nat)(vs:List x4)(ka:Array x4)(e:Env),a.length=vs.length->(a.all λt=>Nat.blt t N)=s2->S2 N e {tmps:=ka,defers:=[]}->
  S2 N (kw a.reverse vs.reverse e) {tmps:=(a.zip vs).foldl (λka (p:Nat×x4)=>ka.setIfInBounds p.1 p.2) ka,defers:=[]}
 |[],[],_,_,_,_,h=>h
 |[],_::_,_,_,h,_,_=>by simp at h
 |_::_,[],_,_,h,_,_=>by simp at h
 |p::a,v::vs,ka,e,q,f,h=>by
  have j:a.length=vs.length:=by grind
  simp only[List.all_cons,T9]at f;simp only[List.zip_cons_cons,List.foldl_cons,List.reverse_cons];rw[zX _ _ _ _ _ (by simpa using j)];exact zY a vs _ _ j f.2 (h.put (d:=σ p) (x:=.v v) (v:=v) f.1 rfl)
def kz(free:fY)(c:Code):Bool:=free.1|| !lG c
theorem zZ:∀f a b:Bool,(f|| !(a||b))=s2->(f|| !a)=s2:=Φ
theorem z1:∀f a b:Bool,(f|| !(a||b))=s2->(f|| !b)=s2:=Φ
def exitCode:Exit->Option Code
 | .ret=>σ .ret
 | .exit id=>σ (.exit id)
 |_=>ν
end
section
variable{P:X8}{N:Nat}
def Sound(P:X8)(N:Nat)(c:Code):Prop:=
 ∀(free:fY)(r:Option Nat)(rd:List Nat)(e:Env)(a:Act)(w:x5)(K:Exit->Env->x5->Prop)(Q:Exit->Act->x5->Prop),
  wf N c=s2->(∀l,r=σ l->free.1=sp/\∃f,w.heap[l]?=σ (.loop f))->(free.1=sp->nq w a.defers)->
  eW P N free c rd e w K->S2 N e a->(∀ex a' I,oa N free (kz free c) K (dO c) a w ex a' I->Q ex a' I)->(∀h a w,¬Q (.panic h) a w)->
  c.wpIn (eV r) 0 P Q a w
theorem H6{x y:Code}(J:Sound P N x)(S:Sound P N y):Sound P N (.seq x y):=by
 intro free r rd e a w K Q B G T h H L M;simp only[wf,T9]at B;have V:∀t,t∈dO x->t∈dO (.seq x y):=by grind [dO]
 have W:∀t,t∈dO y->t∈dO (.seq x y):=by grind [dO]
 have X:kz free (.seq x y)=s2->kz free x=s2:=λh=>zZ _ _ _ h;have Y:kz free (.seq x y)=s2->kz free y=s2:=λh=>z1 _ _ _ h;refine wpIn_seq ?_;have Z:∀(j:Env)(f:Act)(U:x5),eW P N free y rd j U K->S2 N j f->(∀t,t∉dO x->f.tmps.getD t undef=a.tmps.getD t undef)->
   (kz free (.seq x y)=s2->f.defers=a.defers)->(free.1=sp->ig free.2 w a.defers U f.defers)->y.wpIn (eV r) 0 P Q f U:=by
  intro j f U h1 z hk ah q;refine S free r rd j f U K Q B.2 ?_ (λh=>(q h).2.1) h1 z ?_ M
  .intro l aa;obtain⟨O,ab,A⟩:=G l aa;exact⟨O,ab,(q O).1.a8 _ _ A rfl⟩
  .intro ex a' I ae;exact L ex a' I (ae.step W (by grind) Y ah q)
 have ad:∀(s:Exit->Env->x5->Prop),eW P N free x (reads y++rd) e w s->
   (∀j f U,oa N free (kz free x) s (dO x) a w .normal f U->S2 N j f->s .normal j U->(∀t,t∉dO x->f.tmps.getD t undef=a.tmps.getD t undef)->
    (kz free (.seq x y)=s2->f.defers=a.defers)->(free.1=sp->ig free.2 w a.defers U f.defers)->y.wpIn (eV r) 0 P Q f U)->
   (∀ex j U,ex≠ .normal->s ex j U->K ex j U)->x.wpIn (eV r) 0 P (Exit.then (y.wpIn (eV r) 0 P Q) Q) a w:=by
  intro s ac q af;refine J free r _ e a w s _ B.1 G T ac H ?_ ?_
  .intro ex f U ae;cases ex with
   |normal=>
    have ag:=ae;obtain⟨A,j,h1,C,E,R,F⟩:=ae;exact q j f U ag C h1 E (by grind) F
   |_=>
    obtain⟨A,j,h1,C,E,R,F⟩:=ae;refine L _ f U ⟨A,j,af _ j U Ξ h1,C,λt ai=>E t λh=>ai (V t h),λh=>R (X h),F⟩
  .intro aj a w ak;exact M aj a w ak
 simp only[eW]at h;cases al:Nat.ble 2 (mf x)with
 |false=>
  grind
 |true=>
  rw[al]at h;refine ad _ h (λj f U _ z h1 hk ah q=>?_) ?_
  .simp only at h1;cases ac:lI j (rz N (dO x) (reads y++rd))with
   |none=>grind
   |some vs=>
    rw[ac]at h1;obtain⟨am,an⟩:=ts z ac;simp only at h1;rw[wm _ _ _ am]at h1;exact Z _ f U h1 (wq (H4 H z hk) an) hk ah q
  grind
theorem H7{c:Code}(X:Sound P N c):Sound P N (.loop c):=by
 intro free r rd e a w K Q G Y av h A Z aa;simp only[wf]at G;simp only[eW]at h;generalize aw:rA N (dO c) (reads c++rd) e=S at h;cases ac:lI e S with
 |none=>grind
 |some vs=>
  rw[ac]at h;simp only at h;obtain⟨ad,af,q,ag⟩:=h;obtain⟨ai,aj⟩:=ts A ac;let Inv:Act->x5->Prop:=λf U=>∃us,us.length=S.length/\app S.length ad us U/\(∀p∈S.zip us,f.tmps.getD p.1 undef=p.2)/\f.tmps.size=N/\
   (∀t,t∉dO c->f.tmps.getD t undef=a.tmps.getD t undef)/\(kz free c=s2->f.defers=a.defers)/\(free.1=sp->ig free.2 w a.defers U f.defers)
  let H:Act->List x4:=λf=>S.map λt=>f.tmps.getD t undef;have I:∀(f:Act)(us:List x4),us.length=S.length->(∀p∈S.zip us,f.tmps.getD p.1 undef=p.2)->H f=us:=by
   intro f us s B;apply List.ext_getElem
   .grind
   .intro i h1 j;have hi:i<S.length:=Ω
    have ax:(S[i],us[i])∈S.zip us:=by
     have:=S3 (l:=S.zip us) (n:=i) (by simp[List.length_zip,s,hi])
     grind
    grind
  refine wpIn_loop Inv (λf U=>app S.length af (H f) U) ⟨vs,ai,q,aj,A.1,λ_ _=>rfl,λ_=>rfl,by grind [ig.refl]⟩ ?_;rintro f U ⟨us,s,ak,B,al,hk,ah,y⟩;have z:=tn S.length _ us ag;rw[wm _ _ _ s]at z;have z:=z U ak;have am:S2 N (kw S us (n7 (dO c) e)) f:=by
   refine wq ⟨al,λt x an=>?_⟩ B;obtain⟨h1,j⟩:=zV an;rw[hk t j];exact A.2 t x h1
  refine X free r _ _ f U _ _ G ?_ (λh=>(y h).2.1) z am ?_ ?_
  .intro l ao;obtain⟨J,ap,q⟩:=Y l ao;exact⟨J,ap,(y J).1.a8 _ _ q rfl⟩
  .intro ex C ab ae;have L:∀t,t∉dO c->C.tmps.getD t undef=a.tmps.getD t undef:=by
    obtain⟨_,_,_,_,M,_,_⟩:=ae
    grind
   cases ex with
   |normal=>
    obtain⟨q,E,h1,j,M,O,F⟩:=ae;simp only at h1;cases R:lI E S with
    |none=>grind
    |some T=>
     rw[R]at h1;obtain⟨V,W⟩:=ts j R;refine⟨⟨T,V,h1.1,W,j.1,L,by grind,λh=>(y h).F (F h)⟩,?_⟩;rw[I f us s B,I C T V W];exact h1.2
   |_=>
    obtain⟨q,E,h1,j,M,O,F⟩:=ae;exact Z _ C ab ⟨q,E,h1,j,L,λh=>(O h).F (ah h),λh=>(y h).F (F h)⟩
  .intro aq a w au;exact aa aq a w au
theorem H8{o:Obj}(h:fW o=sp):book o=s2\/ta o=s2:=by cases o<;>first|exact .inl rfl|exact .inr rfl|cases h
theorem H9{l:Nat}{f q h:x5}{s z:Obj}(B:f.heap[l]?=σ s)(a:cP n f q)(e:cP n (q.putObj l z) h)(C:l<h.heap.size)(hi:fj f h):cS f (h.putObj l s):=
 ⟨e.os.F a.os,kW.F e.tape a.tape,e.output.F a.output,by have h1:=a.size;have A:=e.size;simp at A ⊢;omega,λr x w V=>by
  by_cases y:r=l
  .grind [x5.putObj_heap_same]
  .rw[S9 y];rcases H8 V with j|j
   .exact e.a8 r x (by rw[S9 y];exact a.a8 r x w j) j
   .exact hi r x w j⟩
theorem Ia{f:S1}{U:Array Tmp}{Y body:Code}(a2:Sound P N Y)(ag:Sound P N body):Sound P N (.rangeFunc f U Y body):=by
 intro free r rd e a w K Q aH V a6 h Z a7 bQ;simp only[wf,T9]at aH;obtain⟨ba,bb,bc⟩:=aH;simp only[eW]at h;obtain⟨fr,b⟩:=free;cases fr with
 |true=>exact h.elim
 |false=>
  simp only[cond_false]at h;cases ah:e1 e f with
  |none=>grind
  |some bR=>
   rw[ah]at h;obtain⟨aI,o,G,g,cap,bS,bT,bU,aj,aJ,aq,bd,⟨aK,be⟩,bf,hbW,ak,au,hbX,bg,bh,bi,bj,bY⟩:=h;have bk:∀m k ex I,mg ex=s2->ex≠ .normal->aq m k ex I->K ex e I:=by
    intro m k ex I ab bZ J;cases ex with
    |normal=>grind
    |ret=>
     have:=bj m k I J;cases V:kx body with
     |true=>grind
     |false=>rw[V]at this;grind
    |exit i=>grind [HZ]
    |_=>cases ab
   have bl:a.eval f= .func (.func g) #[] cap:=by rw[Z.e1 ah];exact bd
   refine wpIn_rangeFunc ?_;intro fn _;obtain⟨D,mark,l,s,y,bm,O,aL,bn,S,aM,al⟩:∃(D:Nat)(mark:List Deferred)(l:Nat)(s:x5)(y:LoopState->Option Code->Loop),
     (Instr.enterLoop fn a.tmps U Y body (eV r).round).run P w= .ok (l,mark) s/\
     y=(λst bo=>{state:=st,pending:=bo,fn,tmps:=a.tmps,params:=U,assign:=Y,body,defers:=D})/\
     s.heap[l]?=σ (.loop (y .ready ν))/\(mark=[]\/(mark=[np D]/\s.heap[D]?=σ (.deferred (σ []))/\w.heap.size<=D/\D≠l))/\Ext w s/\cS w s/\w.heap.size<=l:=by
    cases r with
    |none=>
     refine⟨w.heap.size,[np w.heap.size],w.heap.size+1,_,_,run_enterLoop_outer _ _ _ _ _,rfl,?_,.inr ⟨rfl,?_,o6 _,Ω⟩,?_,?_,Ω⟩
     .grind [x5.alloc_heap_new,x5.size_alloc]
     .grind [Below.heap_alloc,x5.alloc_heap_new]
     .exact (qk w _).F (qk _ _)
     .exact (ql w _).F (ql _ _)
    |some bp=>
     obtain⟨_,bq,H⟩:=V bp rfl;exact⟨bq.defers,[],w.heap.size,_,_,run_enterLoop_inner H _ _ _ _ _,rfl,x5.alloc_heap_new w _,.inl rfl,qk _ _,ql _ _,o6 _⟩
   let M:x5->Prop:=λj=>mark=[]\/(mark=[np D]/\j.heap[D]?=σ (.deferred (σ []))/\w.heap.size<=D/\D≠l);have av:∀{m:Nat}{A B:x5},cP m A B->M A->M B:=λC h=>h.imp id λ⟨h1,q,z⟩=>⟨h1,C.a8 _ _ q rfl,z⟩;have am:∀{A:x5}(o:Obj),M A->M (A.putObj l o):=by grind [S9]
   have br:cP b w s:=aM.b;have aN:=(Y1.1 aL).1;have aO:∀{A B:x5},fX s.heap.size A B->M A->M B:=λC h=>h.imp id λ⟨h1,q,z⟩=>⟨h1,C.old _ _ (by
    grind) q rfl,z⟩
   have ac:∀{A:x5}(o:Obj),fX w.heap.size A (A.putObj l o):=λ{A}o=>⟨rfl,.lC,rfl,Ξ,by grind [S9]⟩;let az:(Nat->Prop)->aI->x5->Prop:=λm k j=>aJ m k j/\j.heap[l]?=σ (.loop (y .ready ν))/\cP b w j/\M j;let aP:(Nat->Prop)->aI->x5->Prop:=λm k j=>∃ex c,mg ex=s2/\exitCode ex=σ c/\aq m k ex j/\j.heap[l]?=σ (.loop (y .done (σ c)))/\cP b w j/\M j;have own:∀{m:Nat->Prop}{A B:x5},ai (λr=>o=s2/\s.heap.size<=r/\¬m r) A B->ai (λr=>o=s2/\w.heap.size<=r/\¬m r) A B:=λh=>h.Y (by grind);have aw:=be l az aP s (λm k A B he C ⟨h1,q,z,R⟩=>⟨ak m k A B (own he) (C.Y S.size) h1,C.old _ _ aN q rfl,z.zI C S.size,aO C R⟩)
    (λm k A B he C ⟨ex,c,H,h1,q,z,R,ad⟩=>⟨ex,c,H,h1,au m k ex A B (own he) (C.Y S.size) q,C.old _ _ aN z rfl,R.zI C S.size,aO C ad⟩) ?round (by grind) ⟨ak _ _ _ _ (S.aa _) aM.o bg,aL,br,bn⟩
   case round=>
    intro m k an vs j aQ bs haj aR ⟨hi,ax,bt,bu⟩;have ay:=bf k vs an j aR;have aS:=run_yield (P:=P) (args:=vs.toArray) ax (by rw[O];simp[ay]);rw[O]at aS;refine⟨fn,_,Y,body,aS,roundIn_of_wpIn trivial ?_⟩;have bw:(U.zip vs.toArray).foldl (λtmps x=>match x with|(t,a)=>tmps.setIfInBounds t a) a.tmps=(U.toList.zip vs).foldl (λka (p:Nat×x4)=>ka.setIfInBounds p.1 p.2) a.tmps:=by
     grind [Array.toList_zip]
    have aT:=zY U.toList vs a.tmps e (by simp[ay]) ba (show S2 N e {tmps:=a.tmps,defers:=[]}from⟨Z.1,Z.2⟩);rw[<-bw]at aT;have b0:=ax;refine a2 (sp,b) (σ l) _ _ _ j _ _ bb (by grind) (λ_=>⟨[],rfl,List.nodup_nil,by grind⟩) (by have ag:=tn _ _ vs bh;rw[wm _ _ _ ay]at ag;exact ag m k an j (λr V=>⟨X0 S.size (aQ r V).1,(aQ r V).2⟩) (X0 S.size bs) haj aR hi) aT ?_ (λ_ _ _ h=>h);intro ex aU E ae;obtain⟨H,b1,h1,q,z,R,ad⟩:=ae;obtain⟨W,bx,_⟩:=ad rfl;cases ex with
    |normal=>
     have af:=W.a8 _ _ ax rfl;have bz:=(Y1.1 af).1;refine⟨_,run_beginRound af (by rw[O]),?_⟩;have bA:Ext E (E.putObj l (.loop {y .ready ν with state:=.busy})):=rC af rfl _;have bB:(E.putObj l (.loop {y .ready ν with state:=.busy})).heap[l]?=σ (.loop {y .ready ν with state:=.busy}):=x5.putObj_heap_same bz;have bC:nq (E.putObj l (.loop {y .ready ν with state:=.busy})) aU.defers:=by
      obtain⟨ao,aA,X,aB⟩:=bx;refine⟨ao,aA,X,λD' ap=>?_⟩
      grind [S9]
     have aV:cP b w (E.putObj l (.loop {y .ready ν with state:=.busy})):=tr (bt.F W) al _;have aW:=am (.loop {y .ready ν with state:=.busy}) (av W bu);have bD:=h1 _ bA ⟨zU rfl,ac _⟩ (H2 (fj.refl _) af rfl _);refine ag (sp,b) (σ l) _ _ aU _ _ _ bc (by grind) (λ_=>bC) bD q ?_ (λ_ _ _ h=>h);intro bE b2 F ae;obtain⟨aD,b3,g1,b4,b5,b6,bF⟩:=ae;obtain⟨L,_,_⟩:=bF rfl;have aE:F.heap[l]?=σ (.loop {y .ready ν with state:=.busy}):=L.a8 _ _ bB rfl;have b7:=(Y1.1 aE).1;have aX:=λbG=>run_endRound (P:=P) bG aE;have aF:∀(o:Obj),Ext F (F.putObj l o):=λo=>rC aE rfl o;have aY:∀(ex:Exit)(c:Code),mg ex=s2->exitCode ex=σ c->(bif o then False else aq m k ex F)->
       ∃v I,(Instr.endRound l (σ c)).run P F= .ok v I/\∃aG,Ending.returned v= .returned aG/\((aG= .bool s2/\(∃bV,(∀r,bV r->m r\/j.heap.size<=r/\r<I.heap.size)/\(∀r,m r->bV r)/\aj bV I/\az bV an I)/\(G=s2\/o=s2->cS j I)/\j.heap.size<=I.heap.size/\(o=s2->ai (λr=>r<s.heap.size\/m r) j I))\/(o=sp/\aG= .bool sp/\aP m k I)):=by
      intro ex c ab bH bI;cases o with
      |true=>grind
      |false=>
       refine⟨_,_,aX (σ c),_,rfl,.inr ⟨rfl,rfl,ex,c,ab,bH,au m k ex _ _ ((aF _).aa _) (ac _) bI,?_,tr (aV.F L) al _,am _ (av L aW)⟩⟩
       grind [x5.putObj_heap_same]
     cases bE with
     |normal=>
      have bJ:j.heap.size<=F.heap.size:=by
       have h1:=W.size;have q:=L.size;simp at q;omega
      obtain⟨⟨bV,d1,d2,aA,X⟩,b8,bK⟩:(∃bV,(∀r,bV r->m r\/j.heap.size<=r/\r<F.heap.size)/\(∀r,m r->bV r)/\aj bV F/\aJ bV an F)/\(G=s2\/o=s2->fj j F)/\(o=s2->ai (λr=>r<s.heap.size\/m r) j F):=by
       cases o with
       |true=>exact⟨g1.1,λ_=>g1.2.1,λ_=>g1.2.2.Y (by grind)⟩
       |false=>grind
      refine⟨_,_,aX ν,_,rfl,.inl ⟨rfl,⟨bV,by simpa using d1,d2,by grind,ak _ _ _ _ ((aF _).aa _) (ac _) X,?_,tr (aV.F L) al _,am _ (av L aW)⟩,λb9=>?_,?_,λaC=>(bK aC).F ((aF _).aa _)⟩⟩
      .grind [x5.putObj_heap_same]
      .grind [H9]
      .simpa using bJ
     |ret=>exact aY .ret _ rfl rfl g1
     |exit id=>exact aY (.exit id) _ rfl rfl g1
     |goto t=>cases aD
     |panic bL=>cases aD
     |outgrown=>cases aD
    |_=>grind
   have aw:=ic.calls P aw aK;refine⟨l,mark,s,{target:=.fn (.func g) cap,args:=#[.func (.yield l) #[] #[]]},s,g,#[.func (.yield l) #[] #[]]++cap,s,bm,?_,λ_ _=>trivial,?_,vY _ _,?_⟩
   .simp only[resolve,bl];simp[go_sem]
   .simp only[invoke];exact aK _ _
   .have bM:(#[.func (.yield l) #[] #[]]++cap:Array x4)=(x4.func (.yield l) #[] #[]::cap.toList).toArray:=by grind
    rw[bM];refine CallsIn.mono (zK aw) ?_;rintro ca E ⟨v,rfl,bN⟩;have left:∀(T:Loop)(ex:Exit),mg ex=s2->E.heap[l]?=σ (.loop T)->T.state≠ .busy->cP b w E->M E->K ex e (E.putObj l (.loop {T with state:=.exhausted}))->
      Q ex {a with defers:=mark++a.defers} (E.putObj l (.loop {T with state:=.exhausted})):=by
     intro T ex ab af cb W aZ bO;have L:cP b w (E.putObj l (.loop {T with state:=.exhausted})):=tr W al _;refine a7 ex _ _ ⟨ab,e,bO,⟨Z.1,Z.2⟩,λ_ _=>rfl,by grind [kz,lG],λ_=>⟨L,?_,?_⟩⟩
     case refine_2=>
      rcases aZ with hm|⟨hm,_,bP,_⟩
      .exact⟨[],by simp[hm],by grind⟩
      .exact⟨[D],by simp[hm],by grind⟩
     obtain⟨ao,aA,X,aB⟩:=a6 rfl;have a1:=am (.loop {T with state:=.exhausted}) aZ;rcases a1 with hm|⟨hm,a1,bP,_⟩
     .exact⟨ao,by grind,X,λD' ap=>L.a8 _ _ (aB D' ap) rfl⟩
     .refine⟨D::ao,by grind,List.nodup_cons.2 ⟨λcc=>?_,X⟩,λD' ap=>?_⟩
      .grind
      .rcases List.mem_cons.1 ap with h|h
       .grind
       .exact L.a8 _ _ (aB D' h) rfl
    rcases bN with⟨m,k,hk,h1,q,z,R⟩|⟨m,k,ex,c,H,h1,q,z,R,ad⟩
    .refine⟨ν,_,by have:=run_endLoop (P:=P) q (by rw[O];simp);rw[O]at this;exact this,?_⟩;have:=left (y .ready ν) .normal rfl q (by grind) z R (bi m _ _ hk (ak m _ _ _ ((rC q rfl _).aa _) (ac _) h1))
     grind
    .refine⟨σ c,_,by have:=run_endLoop (P:=P) z (by rw[O];simp);rw[O]at this;exact this,?_⟩;have:=left (y .done (σ c)) ex H z (by grind) R ad (bk m k ex _ H (by intro he;rw[he]at h1;cases h1) (au m _ _ _ _ ((rC z rfl _).aa _) (ac _) q));rw[O]at this;cases ex with
     |normal=>cases h1
     |ret=>cases h1;grind [wpIn_ret]
     |exit id=>cases h1;grind [wpIn_exit]
     |goto t=>cases H
     |panic bL=>cases H
     |outgrown=>cases H
theorem tt{b:Frame}{a:Act}{k:List Item}{cs:List Frame}{c:Code}:
  step P (lone (b.atR a (.code (.scope c)::k)) cs w)= .next (lone (b.atR a (.code c:: .inScope c::k)) cs w):=
 step_lone_go (by simp[stepG,stepG.exec,Frame.atR])
theorem Ib{b:Frame}{a:Act}{k:List Item}{cs:List Frame}{c:Code}:
  step P (lone (b.atR a (.inScope c::k)) cs w)= .next (lone (b.atR a k) cs w):=
 step_lone_go (by simp[stepG,stepG.exec,Frame.atR])
theorem Ic{F:Fence}{c:Code}{Q:Exit->Act->x5->Prop}{a:Act}(h:c.wpIn F n P (λex a' I=>mg ex=s2/\Q ex a' I) a w):
  (Code.scope c).wpIn F n P Q a w:=by
 intro b k cs A q r;have f:(lone (b.atR a (.code (.scope c)::k)) cs w).fenced P F:=fenced_calm q r rfl;obtain⟨e,s,x,⟨y,z⟩,j⟩:=h b (.inScope c::k) cs A q r;have J:∀id,exitTo id (.inScope c::k)=exitTo id k:=by grind [exitTo]
 cases e with
 |normal=>exact⟨.normal,s,x,z,.head f tt (StepsIn.trans j (.one (fenced_calm q r rfl) Ib))⟩
 |exit id=>
  exact⟨.exit id,s,x,z,λB hk=>.head f tt (j.1 B (by grind)),
   λC hk=>let⟨E,h1,G⟩:=j.2 C (by grind);⟨E,h1,.head f tt G⟩⟩
 |ret=>exact⟨_,s,x,z,.of_steps (.one f tt) j⟩
 |goto l=>cases y
 |panic H=>cases y
 |outgrown=>cases y
theorem sound(hm:P.follows .mixedOrders=s2)(c:Code):Sound P N c:=by
 induction c with
 |skip=>exact λfree r rd e a w K Q _ _ A h j q _=>wpIn_skip (q _ _ _ ⟨rfl,e,h,j,λ_ _=>rfl,λ_=>rfl,by grind [ig.refl]⟩)
 |label l=>exact λfree r rd e a w K Q _ _ A h j q _=>wpIn_label (q _ _ _ ⟨rfl,e,h,j,λ_ _=>rfl,λ_=>rfl,by grind [ig.refl]⟩)
 |ret=>exact λfree r rd e a w K Q _ _ A h j q _=>wpIn_ret (q _ _ _ ⟨rfl,e,h,j,λ_ _=>rfl,λ_=>rfl,by grind [ig.refl]⟩)
 |exit i=>exact λfree r rd e a w K Q _ _ A h j q _=>wpIn_exit (q _ _ _ ⟨rfl,e,h,j,λ_ _=>rfl,λ_=>rfl,by grind [ig.refl]⟩)
 |goto l=>exact λfree r rd e a w K Q _ _ A h j q _=>h.elim
 |refuse s=>exact λfree r rd e a w K Q _ _ A h j q _=>h.elim
 |region id ops W=>
  intro free r rd e a w K Q B E A h j q F;simp only[wf,T9]at B;have T:∀o∈ops.toList,∀t,o.dst=σ t->t∈o0 ops.toList:=by grind [H5]
  simp only[eW]at h;cases W with
  |false=>exact HE T B.1 h j λa' I ae=>q _ _ _ (zW A ae)
  |true=>
   simp only[Y7,Bool.false_or]at B;exact HR hm B.2 F T B.1 (λI h1 G H=>h I h1 G H) j λa' I ae=>q _ _ _ (zW A ae)
 |seq x y J R=>grind [H6]
 |cond c x y J R=>
  intro free r rd e a w K Q B E A h j q F;simp only[wf,T9]at B;have U:∀ex a' I,oa N free (kz free x) K (dO x) a w ex a' I->Q ex a' I:=λex a' I ae=>q ex a' I (by
   obtain⟨O,L,h1,G,H,M,S⟩:=ae;exact⟨O,L,h1,G,by grind [dO],(λh=>M (zZ _ _ _ h)),S⟩)
  have V:∀ex a' I,oa N free (kz free y) K (dO y) a w ex a' I->Q ex a' I:=λex a' I ae=>q ex a' I (by
   obtain⟨O,L,h1,G,H,M,S⟩:=ae;exact⟨O,L,h1,G,by grind [dO],(λh=>M (z1 _ _ _ h)),S⟩)
  simp only[eW]at h;cases C:e1 e c with
  |none=>grind
  |some v=>
   rw[C]at h;cases v with
   |b t=>
    cases t with
    |true=>exact wpIn_cond (j.e1 C) (J free r rd e a w K Q B.1 E A h j U F)
    |false=>exact wpIn_cond (j.e1 C) (R free r rd e a w K Q B.2 E A h j V F)
   |v z=>
    obtain⟨t,X,Y,ah⟩:=h;refine wpIn_cond ((j.e1 C).F X) ?_;cases t with
    |true=>exact J free r rd e a w K Q B.1 E A (Y rfl) j U F
    |false=>exact R free r rd e a w K Q B.2 E A (ah rfl) j V F
   |u=>exact h.elim
 |block id c C=>
  intro free r rd e a w K Q B E A h j q F;simp only[wf]at B;simp only[eW]at h;refine wpIn_block (C free r rd e a w _ _ B E A h j ?_ λZ a w aa=>F Z a w aa);intro ex a' I ae;obtain⟨O,L,h1,G,H,M⟩:=ae;cases ex with
  |exit i=>
   simp only[Exit.inBlock];simp only at h1;by_cases hi:i=id
   .rw[m3 hi];rw[hi,Nat.beq_refl]at h1;exact q _ _ _ ⟨rfl,L,h1,G,H,M⟩
   .rw[m5 hi];have:S5 i id=sp:=by
     grind [Nat.eq_of_beq_eq_true]
    rw[this]at h1;exact q _ _ _ ⟨rfl,L,h1,G,H,M⟩
  |_=>exact q _ _ _ ⟨O,L,h1,G,H,M⟩
 |loop c C=>exact H7 C
 |scope c C=>
  intro free r rd e a w K Q B E A h j q F;exact Ic (C free r rd e a w K (λex a' I=>mg ex=s2/\Q ex a' I) B E A h j (λex a' I ae=>⟨ae.1,q ex a' I ae⟩) (by grind))
 |rangeFunc f ab ac body ad af=>grind [Ia]
def mh:Nat->List x4->Env
 |_,[]=>[]
 |i,v::r=>(i,.v v)::mh (i+1) r
def o2(P:X8)(e:Env)(w:x5):List ResultVar->(List x4->Prop)->Prop
 |[],K=>K []
 | .tmp t::r,K=>match look e t with
  |some x=>o2 P e w r λvs=>K (x.val::vs)
  |none=>False
 | .cell a t::r,K=>match look e a with
  |some x=>ad P (do loadVar t (<-asAddr x.val)) w λv=>o2 P e w r λvs=>K (v::vs)
  |none=>False
def tu:List x4->x4
 |[v]=>v
 |vs=>.tuple vs.toArray
def nr(P:X8)(a:List ResultVar)(marks:Bool)(n:Nat)(Q:x4->x5->Prop):Exit->Env->x5->Prop
 | .normal,e,w| .ret,e,w=>o2 P e w a λvs=>bif marks then wn n w λI=>Q (tu vs) I else Q (tu vs) w
 |_,_,_=>False
def ob:List ResultVar->List Nat
 |[]=>[]
 | .tmp t::r=>t::ob r
 | .cell a _::r=>a::ob r
theorem z6:∀(vs:List x4)(i t:Nat)(x:eU),look (mh i vs) t=σ x->∃j v,t=i+j/\vs[j]?=σ v/\x= .v v
 |[],_,_,_,h=>by cases h
 |v::r,i,t,x,h=>by
  simp only[mh,look]at h;cases a:S5 i t with
  |true=>
   rw[a]at h;simp only[cond_true,W6]at h;exact⟨0,v,by grind [Nat.eq_of_beq_eq_true],rfl,h.symm⟩
  |false=>
   rw[a]at h;obtain⟨j,u,h1,f,e⟩:=z6 r (i+1) t x h;exact⟨j+1,u,Ω,by grind,e⟩
theorem wr(vs:List x4)(h:vs.length<=n):S2 n (mh 0 vs) {tmps:=vs.toArray++Array.replicate (n-vs.toArray.size) undef,defers:=[]}:=by
 refine⟨Θ,λt x J=>?_⟩;obtain⟨j,v,h1,a,rfl⟩:=z6 vs 0 t x J;have h1:t=j:=Ω
 subst h1;have e:=(x6.1 a).1;rw[Array.getD_eq_getD_getElem?,Array.getElem?_append_left Ω];simp[a,eU.val]
def tv(ka:Array x4):ResultVar->Sem x4
 | .tmp t=>pure (ka.getD t undef)
 | .cell b t=>do loadVar t (<-asAddr (ka.getD b undef))
theorem Ie(fn:Func)(ka:Array x4):results fn ka=(do let vs <-fn.results.mapM (tv ka);pure (if h:vs.size=1 then vs[0]else .tuple vs)):=by
 unfold results;congr 2
theorem ws{e:Env}{a:Act}{w:x5}(j:S2 N e a):∀(q:List ResultVar)(K:List x4->Prop),o2 P e w q K->
  ∃vs,K vs/\vs.length=q.length/\∀I,Ext w I->(q.mapM (tv a.tmps)).run P I= .ok vs I
 |[],K,h=>⟨[],h,rfl,by grind [V2]⟩
 | .tmp t::r,K,h=>by
  simp only[o2]at h;cases f:look e t with
  |none=>grind
  |some x=>
   rw[f]at h;obtain⟨vs,h1,s,y⟩:=ws j r _ h;refine⟨x.val::vs,h1,by simp[s],λI hw=>?_⟩;rw[List.mapM_cons];simp only[tv,W5,V2,W8,y I hw,j.2 t x f]
 | .cell b t::r,K,h=>by
  simp only[o2]at h;cases f:look e b with
  |none=>grind
  |some x=>
   rw[f]at h;obtain⟨v,ac,h⟩:=h;obtain⟨vs,h1,s,y⟩:=ws j r _ h;refine⟨v::vs,h1,by simp[s],λI hw=>?_⟩;rw[List.mapM_cons];have:=ac I hw;rw[<-j.2 b x f]at this
   grind [tv,W5,W8,V2]
theorem wu{fn:Func}{e:Env}{a:Act}(j:S2 N e a){K:List x4->Prop}(h:o2 P e w fn.results.toList K):
  ∃vs,K vs/\∀I,Ext w I->(results fn a.tmps).run P I= .ok (tu vs) I:=by
 obtain⟨vs,h1,q,f⟩:=ws j _ _ h;refine⟨vs,h1,λI hw=>?_⟩;have f:=f I hw;rw[Ie,W5,Array.mapM_eq_mapM_toList,map_eq_pure_bind,W5,f];simp only[W8,V2];cases vs with
 |nil=>rfl
 |cons v r=>
  cases r<;>grind [tu]
theorem z7{fn:Func}{tmps:Array x4}{R:Ending->x5->Prop}:∀(a:List Nat)(w:x5),a.Nodup->(∀D∈a,w.heap[D]?=σ (.deferred (σ [])))->
  (∀I,Ext w I->Ext I w->I.os=w.os->kW w I->I.output=w.output->w.heap.size=I.heap.size->
   (∀r,r∉a->I.heap[r]?=w.heap[r]?)->∃v,(results fn tmps).run P I= .ok v I/\R (.returned v) I)->
  LeavesInM Fence.wide 0 P fn tmps R (a.map np) .returning w
 |[],w,_,_,h=>by
  obtain⟨v,h1,e⟩:=h w (Ext.refl _) (Ext.refl _) rfl .lC rfl rfl λ_ _=>rfl;exact⟨v,h1,e⟩
 |D::a,w,f,q,h=>by
  rw[List.nodup_cons]at f;have j:=q D (.head _);refine⟨Ξ,.inl ⟨D,_,rfl,run_takeDeferred j,?_⟩⟩;refine z7 a _ f.2 (λD' A=>?_) λI h1 e s x y z B=>?_
  .grind [S9]
  .refine h I ((rC j rfl _).F h1) (e.F (zU rfl)) s x y (by simpa using z) λr C=>?_
   grind [S9]
theorem aq.enter(hm:P.follows .mixedOrders=s2){f:S8}{fn:Func}{c:Code}(ah:P.funcs[f]?=σ fn)(q:fn.body=σ c)(F:(fn.name == "runtime.NumGoroutine")=sp)(G:wf fn.ntmps c=s2){args:List x4}(H:Nat.ble args.length fn.ntmps=s2){w:x5}{Q:x4->x5->Prop}(h:eW P fn.ntmps (sp,w.heap.size) c (ob fn.results.toList) (mh 0 args) w (nr P fn.results.toList s2 w.heap.size Q)):aq P f args w Q:=by
 refine .code (Enters.of P ah q F) (callsIn_wide (n:=0).1 (callsIn_of_wp_marks ah q trivial ?_));have J:=wr (n:=fn.ntmps) args (Nat.le_of_ble_eq_true H);refine wpIn_mono (Q:=λex a' I=>mg ex=s2/\bodyPostM Fence.wide 0 P fn (λe I=>∃v,e= .returned v/\cS w I/\Q v I) ex a' I) ?_ (by grind);refine sound hm c (sp,w.heap.size) ν _ _ _ w _ _ G (by grind) (λ_=>⟨[],rfl,List.nodup_nil,by grind⟩) h J ?_ (λ_ _ _ h=>by cases h.1)
 .intro ex a' I ae;obtain⟨K,L,j,M,_,_,V⟩:=ae;obtain⟨a,⟨s,N,O,R⟩,S,Z,aa⟩:=V rfl;have T:∀D∈s,w.heap.size<=D:=by
   intro D ac;have h1:np D∈S.map np:=by
    grind
   grind [np]
  have x:nr P fn.results.toList s2 w.heap.size Q .ret L I->LeavesInM Fence.wide 0 P fn a'.tmps (λe y=>∃v,e= .returned v/\cS w y/\Q v y) a'.defers .returning I:=by
   intro j;rw[N];obtain⟨vs,h1,U⟩:=wu M j;refine z7 s I O R λab g1 W z A B C X=>⟨_,U ab g1,_,rfl,?_,h1 ab g1 ⟨W,z,A,B,Nat.le_of_eq C,by grind⟩⟩;have a:=a.cQ (o6 _);refine⟨z.F a.os,A.F a.tape,B.F a.output,by rw[<-C];exact a.size,λr o E Y=>?_⟩;have ad:=(Y1.1 E).1;rw[X r λhm=>by have:=T r hm;omega];exact a.a8 r o E Y
  cases ex with
  |normal=>exact⟨rfl,x j⟩
  |ret=>exact⟨rfl,x j⟩
  |exit id=>exact j.elim
  |_=>cases K
theorem aq.If(hm:P.follows .mixedOrders=s2){f:S8}{fn:Func}{c:Code}(ah:P.funcs[f]?=σ fn)(j:fn.body=σ c)(s:(fn.name == "runtime.NumGoroutine")=sp)(x:wf fn.ntmps c=s2){args:List x4}(y:Nat.ble args.length fn.ntmps=s2)(ax:lG c=sp){w:x5}{Q:x4->x5->Prop}(h:eW P fn.ntmps (sp,w.heap.size) c (ob fn.results.toList) (mh 0 args) w (nr P fn.results.toList sp 0 Q)):aq P f args w Q:=by
 refine .code (Enters.of P ah j s) (callsIn_wide (n:=0).1 (callsIn_of_wp ah j trivial ?_));have z:=wr (n:=fn.ntmps) args (Nat.le_of_ble_eq_true y);refine wpIn_mono (Q:=λex a' I=>mg ex=s2/\bodyPost P fn (λe I=>∃v,e= .returned v/\cS w I/\Q v I) ex a' I) ?_ (by grind);refine sound hm c (sp,w.heap.size) ν _ _ _ w _ _ x (by grind) (λ_=>⟨[],rfl,List.nodup_nil,by grind⟩) h z ?_ (λ_ _ _ h=>by cases h.1);intro ex a' I ae;obtain⟨A,B,a,C,_,E,V⟩:=ae;have F:=E (by simp[kz,ax]);have q:nr P fn.results.toList sp 0 Q .ret B I->a'.defers=[]/\∃v,(results fn a'.tmps).run P I= .ok v I/\∃r,Ending.returned v= .returned r/\cS w I/\Q r I:=by
  intro a;obtain⟨vs,h1,G⟩:=wu C a;exact⟨F,_,G I (Ext.refl _),_,rfl,(V rfl).1.cQ (o6 _),h1⟩
 cases ex with
 |normal=>exact⟨rfl,q a⟩
 |ret=>exact⟨rfl,q a⟩
 |exit id=>exact a.elim
 |_=>cases A
theorem ic.enter(hm:P.follows .mixedOrders=s2){f:S8}{fn:Func}{c:Code}(ah:P.funcs[f]?=σ fn)(j:fn.body=σ c)(s:(fn.name == "runtime.NumGoroutine")=sp)(x:wf fn.ntmps c=s2){args:List x4}(y:Nat.ble args.length fn.ntmps=s2){w:x5}{Q:x4->x5->Prop}(h:eW P fn.ntmps (s2,0) c (ob fn.results.toList) (mh 0 args) w (nr P fn.results.toList sp 0 Q)):ic P f args w Q:=by
 refine .code (Enters.of P ah j s) (callsIn_wide (n:=0).1 (callsIn_of_wp ah j trivial ?_));have z:=wr (n:=fn.ntmps) args (Nat.le_of_ble_eq_true y);refine wpIn_mono (Q:=λex a' I=>mg ex=s2/\bodyPost P fn (λe I=>∃v,e= .returned v/\Q v I) ex a' I) ?_ (by grind);refine sound hm c (s2,0) ν _ _ _ w _ _ x (by grind) (by grind) h z ?_ (λ_ _ _ h=>by cases h.1);intro ex a' I ae;obtain⟨A,B,a,C,_,E,V⟩:=ae;have F:=E rfl;have q:nr P fn.results.toList sp 0 Q .ret B I->a'.defers=[]/\∃v,(results fn a'.tmps).run P I= .ok v I/\∃r,Ending.returned v= .returned r/\Q r I:=by
  intro a;obtain⟨vs,h1,G⟩:=wu C a
  grind [Ext.refl]
 cases ex with
 |normal=>exact⟨rfl,q a⟩
 |ret=>exact⟨rfl,q a⟩
 |exit id=>exact a.elim
 |_=>cases A
end
def rD(l:List S1)(d:Nat):Nat:=
 match l with
 |[]=>d
 | .tmp t::r=>rD r (Nat.lor d (Nat.shiftLeft 1 t))
 |_::r=>rD r d
def qm:List U9->Nat->Option U9
 |[],_=>ν
 |o::_,0=>σ o
 |_::l,n+1=>qm l n
def z8(a b:Nat):Nat:=Nat.xor a (Nat.land a b)
def rE(m t:Nat):Bool:=S5 (Nat.land (Nat.shiftRight m t) 1) 1
def lJ(m t:Nat):Nat:=Nat.lor m (Nat.shiftLeft 1 t)
def Ig(ops:List U9)(o:U9):Nat:=
 match o.guard with
 |none=>0
 |some (j,_)=>match qm ops j with
  |some ⟨σ d,_,_,_,_,_⟩=>Nat.shiftLeft 1 d
  |_=>0
def tw:List U9->Nat->Nat
 |[],d=>d
 |⟨σ t,_,_,_,_,_⟩::l,d=>tw l (lJ d t)
 |_::l,d=>tw l d
def Aa(ops:List U9):List U9->Nat->Nat->Nat
 |[],_,r=>r
 |o::l,d,r=>Aa ops l (match o.dst with|some t=>lJ d t|none=>d) (Nat.lor r (z8 (rD (opsOf o.op) (Ig ops o)) d))
def tx:List Nat->Nat->Nat
 |[],_=>0
 |x::_,0=>x
 |_::l,n+1=>tx l n
def Ab(e:Edge):Bool:=
 match e.ground with
 | .textOnly _=>sp
 | .gcOnly _=>sp
 |_=>s2
def Ac(a:List Nat):List Edge->Nat->Nat
 |[],s=>s
 |e::r,s=>Ac a r (bif Ab e then Nat.lor (lJ s e.on) (tx a e.on)else s)
def wv:List U9->List Nat->List Nat
 |[],a=>a
 |o::l,a=>wv l (a++[Ac a o.after.toList 0])
def Ad:List U9->Bool
 |[]=>sp
 |⟨_,_,_,_,_,σ _⟩::_=>s2
 |_::l=>Ad l
def wx(a:List Nat)(j k:Nat):Bool:=!(S5 k j)&&(!(rE (tx a j) k)&& !(rE (tx a k) j))
def Ae(a:List Nat)(j:Nat):Nat->List U9->Bool
 |_,[]=>sp
 |i,o::l=>bif Nat.ble j i then sp else(!(lD o)&&wx a j i)||Ae a j (Nat.succ i) l
def Af(ops:List U9)(a:List Nat):Nat->List U9->Bool
 |_,[]=>sp
 |j,o::l=>(!(lD o)&&Ae a j 0 ops)||Af ops a (Nat.succ j) l
def ns:Code->Nat
 | .region _ ops e=>bif (e&&Af ops.toList (wv ops.toList []) 0 ops.toList)||Ad ops.toList then 2 else 1
 | .seq a b=>bif S5 (ns a) 0 then 0 else ns b
 | .cond _ a b=>Nat.add (ns a) (ns b)
 | .block id c=>Nat.add (ns c) (kY id c)
 | .loop _=>0
 | .scope c=>ns c
 | .exit _=>0
 | .goto _=>0
 | .ret=>0
 | .refuse _=>0
 |_=>1
def jE:Code->Nat
 | .region _ ops _=>tw ops.toList 0
 | .seq a b=>Nat.lor (jE a) (jE b)
 | .cond _ a b=>Nat.lor (jE a) (jE b)
 | .block _ c=>jE c
 | .loop c=>jE c
 | .scope c=>jE c
 |_=>0
def nt:Code->Nat
 | .region _ ops _=>tw ops.toList 0
 | .seq a b=>Nat.lor (nt a) (nt b)
 | .cond _ a b=>bif S5 (ns a) 0 then nt b else bif S5 (ns b) 0 then nt a else Nat.land (nt a) (nt b)
 | .block id c=>bif S5 (kY id c) 0 then nt c else 0
 | .scope c=>nt c
 |_=>0
def gO:Code->Nat
 | .region _ ops _=>Aa ops.toList ops.toList 0 0
 | .seq a b=>Nat.lor (gO a) (z8 (gO b) (nt a))
 | .cond c a b=>rD [c] (Nat.lor (gO a) (gO b))
 | .block _ c=>gO c
 | .loop c=>gO c
 | .scope c=>gO c
 | .rangeFunc f _ a b=>rD [f] (Nat.lor (gO a) (gO b))
 |_=>0
def oc:Nat->Nat->Nat->List Nat
 |0,_,_=>[]
 |n+1,k,m=>bif S5 m 0 then[]else bif S5 (Nat.land m 1) 1 then k::oc n (Nat.succ k) (Nat.shiftRight m 1)else oc n (Nat.succ k) (Nat.shiftRight m 1)
def rF(e:Env):List Nat->List Nat
 |[]=>[]
 |t::r=>match look e t with
  |some _=>t::rF e r
  |none=>rF e r
structure od(B S a7:Type) where
 mi:{x:x4}->x4
 tup:List x4->x4
 no:B
 mj:B
 and:B->B->B
 or:B->B->B
 W:x5->x5->B
 stays:S->x4->x5->B
 split:x4->B->B->B
 wy:S->x5->(x4->B)->B
 Ag:S->x5->(x4->x5->B)->B
 Ah:a7->x5->(x5->B)->B
 runN:{fr:Bool}->{n:Nat}->S->x5->(x4->x5->B)->B
 Ai:{f:S8}->List x4->x5->(x4->x5->B)->B
 Aj:{f:S8}->List x4->x5->(x4->x5->B)->B
 Ak:{fr:Bool}->x4->List x4->x5->(x4->x5->B)->B
 drew:x5->(x5->B)->B
 again:{n:Nat}->x5->(x5->B)->B
 over:{n:Nat}->x5->(x5->B)->B
 dd:(x5->B)->((x5->B)->B)->B
 a6:(x4->x5->B)->((x4->x5->B)->B)->B
 jF:(x4->x4->x5->B)->((x4->x4->x5->B)->B)->B
 Al:(x4->x4->x4->x5->B)->((x4->x4->x4->x5->B)->B)->B
 Am:(x4->x4->x4->x4->x5->B)->((x4->x4->x4->x4->x5->B)->B)->B
 An:(x4->x4->x4->x4->x4->x5->B)->((x4->x4->x4->x4->x4->x5->B)->B)->B
 Ao:x5->(x5->(x5->B)->B)->B
 Ap:x4->x5->(x4->x5->(x4->x5->B)->B)->B
 Aq:x4->x4->x5->(x4->x4->x5->(x4->x4->x5->B)->B)->B
 Ar:x4->x4->x4->x5->(x4->x4->x4->x5->(x4->x4->x4->x5->B)->B)->B
 As:x4->x4->x4->x4->x5->(x4->x4->x4->x4->x5->(x4->x4->x4->x4->x5->B)->B)->B
 Au:x4->x4->x4->x4->x4->x5->(x4->x4->x4->x4->x4->x5->(x4->x4->x4->x4->x4->x5->B)->B)->B
 Av:x4->x4->x4->x4->x4->x4->x5->(x4->x4->x4->x4->x4->x4->x5->(x4->x4->x4->x4->x4->x4->x5->B)->B)->B
 Aw:x4->x5->(x4->x5->(Exit->x5->B)->B)->(x5->B)->(x5->B)->List (Nat×(x5->B))->B
 Ax:x4->x5->(x4->x4->x5->(Exit->x5->B)->B)->(x5->B)->(x5->B)->List (Nat×(x5->B))->B
 loadVar:{t:o4}->x4->S
 alloc:{t:o4}->S
 box:{t:o4}->x4->S
 build:{t:o4}->List (Nat×x4)->S
 buildSlice:{t:o4}->{n:Nat}->List (Nat×x4)->S
 load:{t:o4}->x4->S
 nil:x4->S
 bin:{op:BinOp}->{t:o4}->Bool->Bool->x4->x4->S
 un:{op:UnOp}->x4->S
 conv:{s d:o4}->x4->S
 Ay:{t:o4}->x4->S
 Az:{f:Fn}->List x4->List x4->S
 AA:{t:o4}->Option x4->S
 AB:{t:o4}->x4->x4->S
 slice:{t:o4}->x4->Option x4->Option x4->Option x4->S
 AC:{t:o4}->x4->{f:Nat}->S
 field:{t:o4}->x4->{f:Nat}->S
 AD:{t:o4}->x4->x4->S
 index:{t:o4}->x4->x4->S
 lookup:{t:o4}->x4->x4->{ok:Bool}->S
 AE:{t:o4}->x4->x4->S
 range:{t:o4}->x4->S
 entry:x4->S
 assert:{t a:o4}->x4->{ok:Bool}->S
 extract:x4->{i:Nat}->S
 next:x4->{b:Bool}->S
 append:{ats:Array o4}->{t:o4}->List x4->S
 cap:{ats:Array o4}->{t:o4}->List x4->S
 clear:{ats:Array o4}->{t:o4}->List x4->S
 copy:{ats:Array o4}->{t:o4}->List x4->S
 delete:{ats:Array o4}->{t:o4}->List x4->S
 len:{ats:Array o4}->{t:o4}->List x4->S
 max:{ats:Array o4}->{t:o4}->List x4->S
 min:{ats:Array o4}->{t:o4}->List x4->S
 store:{t:o4}->x4->x4->a7
 wz:{t:o4}->x4->x4->x4->a7
 AF:{t:o4}->x4->x4->x4->a7
section
variable{B S a7:Type}(A:od B S a7)
def eU.g:eU->x4
 | .v x=>x
 | .b c=>.bool c
 | .u=>A.mi (x:=undef)
def o3(e:Env):S1->eU
 | .tmp t=>match look e t with
  |some x=>x
  |none=>.u
 | .const (.bool c)=>.b c
 | .const x=>.v (A.mi (x:=x))
 | .global g=>.v (A.mi (x:=Γ g))
 | .func f=>.v (A.mi (x:=.func (.func f) #[] #[]))
def de(e:Env)(x:S1):x4:=(o3 A e x).g A
def pa(e:Env):List S1->List x4
 |[]=>[]
 |x::r=>de A e x::pa e r
def tz(e:Env):Option S1->Option x4
 |none=>ν
 |some x=>σ (de A e x)
def wA(e:Env):List (Nat×S1)->List (Nat×x4)
 |[]=>[]
 |(i,x)::r=>(i,de A e x)::wA e r
def Ih(b:Z2)(ats:Array o4)(t:o4)(l:List x4)(K:S->B):B:=
 match b with
 | .append=>K (A.append (ats:=ats) (t:=t) l)
 | .cap=>K (A.cap (ats:=ats) (t:=t) l)
 | .clear=>K (A.clear (ats:=ats) (t:=t) l)
 | .copy=>K (A.copy (ats:=ats) (t:=t) l)
 | .delete=>K (A.delete (ats:=ats) (t:=t) l)
 | .len=>K (A.len (ats:=ats) (t:=t) l)
 | .max=>K (A.max (ats:=ats) (t:=t) l)
 | .min=>K (A.min (ats:=ats) (t:=t) l)
 |_=>A.no
def AG(e:Env)(t:o4)(K:S->B)(j:a7->B):Op->B
 | .alloc t=>K (A.alloc (t:=t))
 | .box t x=>K (A.box (t:=t) (de A e x))
 | .build t q=>K (A.build (t:=t) (wA A e q.toList))
 | .buildSlice t n q=>K (A.buildSlice (t:=t) (n:=n) (wA A e q.toList))
 | .load t x=>K (A.load (t:=t) (de A e x))
 | .nilCheck x=>K (A.nil (de A e x))
 | .binOp op t x y _=>K (A.bin (op:=op) (t:=t) (qd x) (qd y) (de A e x) (de A e y))
 | .unOp op _ x=>K (A.un (op:=op) (de A e x))
 | .convert s d x=>K (A.conv (s:=s) (d:=d) (de A e x))
 | .makeInterface t x=>K (A.Ay (t:=t) (de A e x))
 | .makeFunc f a b=>K (A.Az (f:=f) (pa A e a.toList) (pa A e b.toList))
 | .makeMap t r=>K (A.AA (t:=t) (tz A e r))
 | .makeSlice t l c=>K (A.AB (t:=t) (de A e l) (de A e c))
 | .slice t x l h m=>K (A.slice (t:=t) (de A e x) (tz A e l) (tz A e h) (tz A e m))
 | .fieldAddr t x f=>K (A.AC (t:=t) (de A e x) (f:=f))
 | .field t x f=>K (A.field (t:=t) (de A e x) (f:=f))
 | .indexAddr t x i=>K (A.AD (t:=t) (de A e x) (de A e i))
 | .index t x i=>K (A.index (t:=t) (de A e x) (de A e i))
 | .lookup t x i ok=>K (A.lookup (t:=t) (de A e x) (de A e i) (ok:=ok))
 | .mapEntry t m k=>K (A.AE (t:=t) (de A e m) (de A e k))
 | .range t x=>K (A.range (t:=t) (de A e x))
 | .entry x=>K (A.entry (de A e x))
 | .typeAssert x t a ok=>K (A.assert (t:=t) (a:=a) (de A e x) (ok:=ok))
 | .extract x i=>K (A.extract (de A e x) (i:=i))
 | .call ⟨.builtin b,args,ats⟩=>Ih A b ats t (pa A e args.toList) K
 | .store t a x=>j (A.store (t:=t) (de A e a) (de A e x))
 | .mapUpdate t m k x=>j (A.wz (t:=t) (de A e m) (de A e k) (de A e x))
 | .insert t m k x=>j (A.wz (t:=t) (de A e m) (de A e k) (de A e x))
 | .entryStore t m k x=>j (A.AF (t:=t) (de A e m) (de A e k) (de A e x))
 |_=>A.no
def iQ(e:Env)(d:Option Tmp)(x:eU):Env:=
 match d with
 |some t=>(t,x)::e
 |none=>e
def AH(o:U9)(e:Env)(w:x5)(K:Env->(x5->B)->B):B:=
 match o with
 |⟨d,.move x,_,_,_,_⟩=>K (iQ e d (o3 A e x)) (λ_=>A.mj)
 |⟨d,.assign x,_,_,_,_⟩=>K (iQ e d (o3 A e x)) (λ_=>A.mj)
 |⟨d,.pick c a b,_,_,_,_⟩=>
  match o3 A e c with
  | .b s2=>K (iQ e d (o3 A e a)) (λ_=>A.mj)
  | .b sp=>K (iQ e d (o3 A e b)) (λ_=>A.mj)
  | .v x=>A.split x (K (iQ e d (.v (de A e a))) (λ_=>A.mj)) (K (iQ e d (.v (de A e b))) (λ_=>A.mj))
  | .u=>A.no
 |⟨d,op,t,_,_,_⟩=>AG A e t (λs=>A.wy s w λv=>K (iQ e d (.v v)) (A.stays s v)) (λ_=>A.no) op
def Ii(fr:Bool)(n:Nat)(o:U9)(e:Env)(w:x5)(K:Env->x5->B):B:=
 match o with
 |⟨d,.call ⟨.value (.func f),args,_⟩,_,_,_,_⟩=>
  bif fr then A.Aj (f:=f) (pa A e args.toList) w λv I=>K (iQ e d (.v v)) I
  else A.Ai (f:=f) (pa A e args.toList) w λv I=>K (iQ e d (.v v)) I
 |⟨d,.call ⟨.value x,args,_⟩,_,_,_,_⟩=>A.Ak (fr:=fr) (de A e x) (pa A e args.toList) w λv I=>K (iQ e d (.v v)) I
 |⟨d,.next x b,_,_,_,_⟩=>A.runN (fr:=fr) (n:=n) (A.next (de A e x) (b:=b)) w λv I=>K (iQ e d (.v v)) I
 |⟨d,op,t,_,_,_⟩=>AG A e t (λs=>A.Ag s w λv I=>K (iQ e d (.v v)) I) (λu=>A.Ah u w λI=>K (iQ e d (.v (A.mi (x:=undef)))) I) op
def AI(fr:Bool)(n:Nat)(o:U9)(e:Env)(w:x5)(K:Env->x5->B):B:=
 bif lD o then AH A o e w (λa _=>K a w)else Ii A fr n o e w K
def wB(ops:List U9)(o:U9)(e:Env)(D N:Env->B):B:=
 match o.guard with
 |none=>D e
 |some (j,b)=>
  match qm ops j with
  |some ⟨σ s,_,_,_,_,_⟩=>
   match look e s with
   |some (.b c)=>bif xor c b then N e else D e
   |some (.v x)=>A.split x (bif b then D ((s,.b s2)::e)else N ((s,.b s2)::e)) (bif b then N ((s,.b sp)::e)else D ((s,.b sp)::e))
   |some .u=>N e
   |none=>A.no
  |_=>A.no
def wC(fr:Bool)(n:Nat)(ops:List U9):List U9->Env->x5->(Env->x5->B)->B
 |[],e,w,K=>K e w
 |o::l,e,w,K=>wB A ops o e (λe=>AI A fr n o e w λa I=>wC fr n ops l a I K) (λe=>wC fr n ops l (iQ e o.dst .u) w K)
def AJ:List Edge->Nat->Bool
 |[],_=>s2
 |e::r,a=>(bif Ab e then rE a e.on else s2)&&AJ r a
def tA(a:Nat):Nat->List U9->List Nat
 |_,[]=>[]
 |i,o::l=>bif rE a i then tA a (Nat.succ i) l else bif AJ o.after.toList a then i::tA a (Nat.succ i) l else tA a (Nat.succ i) l
def AK(ops:List U9):List Nat->Option Nat
 |[]=>ν
 |i::r=>match qm ops i with
  |some o=>bif lD o then σ i else AK ops r
  |none=>ν
def AL(p:Nat->B):List Nat->B
 |[]=>A.mj
 |[i]=>p i
 |i::r=>A.and (p i) (AL p r)
def AM(same:Bool)(q:Nat)(w:x5)(st:x5->B)(a:List (x5×List (Nat×(x5->B)))):List (x5×List (Nat×(x5->B))):=
 match same,a with
 |true,g::r=>(g.1,(q,st)::g.2)::r
 |_,a=>(w,[(q,st)])::a
def AN(a:List Nat)(j:Nat):List (Nat×(x5->B))->Bool
 |[]=>sp
 |(i,_)::r=>wx a j i||AN a j r
def wD(a:List Nat)(j:Nat)(I:x5):List (Nat×(x5->B))->B
 |[]=>A.mj
 |(i,p)::r=>bif wx a j i then A.and (p I) (wD a j I r)else wD a j I r
def tB(a:List Nat)(j:Nat)(I:x5)(C:B):List (x5×List (Nat×(x5->B)))->B
 |[]=>C
 |(w,l)::r=>bif AN a j l then A.and (A.or (A.W w I) (wD A a j I l)) (tB a j I C r)else tB a j I C r
def pb(fr:Bool)(n:Nat)(ops:List U9)(a:List Nat):Nat->Nat->Bool->List (x5×List (Nat×(x5->B)))->Env->x5->(Env->x5->B)->B
 |0,_,_,_,e,w,K=>K e w
 |fuel+1,h,same,f,e,w,K=>
  match tA h 0 ops with
  |[]=>K e w
  |i::r=>
   match AK ops (i::r)with
   |some q=>
    match qm ops q with
    |some o=>wB A ops o e
      (λe=>AH A o e w λs st=>
       bif nk o then pb fr n ops a fuel (lJ h q) same f s w K
       else pb fr n ops a fuel (lJ h q) s2 (AM same q w st f) s w K)
      (λe=>bif nk o then pb fr n ops a fuel (lJ h q) same f (iQ e o.dst .u) w K
       else pb fr n ops a fuel (lJ h q) s2 (AM same q w (λ_=>A.mj) f) (iQ e o.dst .u) w K)
    |none=>A.no
   |none=>
    AL A (λj=>match qm ops j with
     |some o=>wB A ops o e (λe=>AI A fr n o e w λs I=>tB A a j I (pb fr n ops a fuel (lJ h j) sp f s I K) f)
       (λe=>tB A a j w (pb fr n ops a fuel (lJ h j) sp f (iQ e o.dst .u) w K) f)
     |none=>A.no) (i::r)
def tC(e:Env):List Nat->List x4
 |[]=>[]
 |t::r=>(match look e t with|some x=>x.g A|none=>A.mi (x:=undef))::tC e r
def wE(l:List Nat)(vs:List x4)(e:Env):Env:=
 match l,vs with
 |t::r,v::vs=>(t,.v v)::wE r vs e
 |_,_=>e
def tD(d:Nat):Env->Env
 |[]=>[]
 |(t,x)::r=>bif rE d t then tD d r else(t,x)::tD d r
def Ij(l:List Nat)(az:List x4->x5->B)(X:(List x4->x5->B)->B):B:=
 match l with
 |[]=>A.dd (λw=>az [] w) λk=>X λ_ w=>k w
 |[_]=>A.a6 (λa w=>az [a] w) λk=>X λvs w=>match vs with
  |[a]=>k a w
  |_=>A.no
 |[_,_]=>A.jF (λa b w=>az [a,b] w) λk=>X λvs w=>match vs with
  |[a,b]=>k a b w
  |_=>A.no
 |[_,_,_]=>A.Al (λa b c w=>az [a,b,c] w) λk=>X λvs w=>match vs with
  |[a,b,c]=>k a b c w
  |_=>A.no
 |[_,_,_,_]=>A.Am (λa b c d w=>az [a,b,c,d] w) λk=>X λvs w=>match vs with
  |[a,b,c,d]=>k a b c d w
  |_=>A.no
 |[_,_,_,_,_]=>A.An (λa b c d f w=>az [a,b,c,d,f] w) λk=>X λvs w=>match vs with
  |[a,b,c,d,f]=>k a b c d f w
  |_=>A.no
 |_=>A.no
def Ik(us:List x4)(w:x5)(X:List x4->x5->(List x4->x5->B)->B):B:=
 match us with
 |[]=>A.Ao w λw k=>X [] w λ_ w=>k w
 |[a]=>A.Ap a w λa w k=>X [a] w λvs w=>match vs with
  |[a]=>k a w
  |_=>A.no
 |[a,b]=>A.Aq a b w λa b w k=>X [a,b] w λvs w=>match vs with
  |[a,b]=>k a b w
  |_=>A.no
 |[a,b,c]=>A.Ar a b c w λa b c w k=>X [a,b,c] w λvs w=>match vs with
  |[a,b,c]=>k a b c w
  |_=>A.no
 |[a,b,c,d]=>A.As a b c d w λa b c d w k=>X [a,b,c,d] w λvs w=>match vs with
  |[a,b,c,d]=>k a b c d w
  |_=>A.no
 |[a,b,c,d,f]=>A.Au a b c d f w λa b c d f w k=>X [a,b,c,d,f] w λvs w=>match vs with
  |[a,b,c,d,f]=>k a b c d f w
  |_=>A.no
 |[a,b,c,d,f,g]=>A.Av a b c d f g w λa b c d f g w k=>X [a,b,c,d,f,g] w λvs w=>match vs with
  |[a,b,c,d,f,g]=>k a b c d f g w
  |_=>A.no
 |_=>A.no
def wF(K:Nat->x5->B):List Nat->List (Nat×(x5->B))
 |[]=>[]
 |i::r=>(i,λw=>K i w)::wF K r
def jf(fr:Bool)(n:Nat):Code->Nat->Env->x5->(Exit->Env->x5->B)->B
 | .skip,_,e,w,K=>K .normal e w
 | .label _,_,e,w,K=>K .normal e w
 | .ret,_,e,w,K=>K .ret e w
 | .exit i,_,e,w,K=>K (.exit i) e w
 | .region _ ops C,_,e,w,K=>
  bif C then A.drew w λI=>pb A fr n ops.toList (wv ops.toList []) (ops.toList.length) 0 sp [] e I (K .normal)
  else wC A fr n ops.toList ops.toList e w (K .normal)
 | .seq x y,rd,e,w,K=>
  bif Nat.ble 2 (ns x)then
   Ij A (oc 1000 0 (Nat.land (jE x) (Nat.lor (gO y) rd))) (λvs I=>jf fr n y rd (wE (oc 1000 0 (Nat.land (jE x) (Nat.lor (gO y) rd))) vs (tD (jE x) e)) I K)
    λaz=>jf fr n x (Nat.lor (gO y) rd) e w λex h I=>match ex with
     | .normal=>az (tC A h (oc 1000 0 (Nat.land (jE x) (Nat.lor (gO y) rd)))) I
     |ex=>K ex h I
  else jf fr n x (Nat.lor (gO y) rd) e w λex h I=>match ex with
   | .normal=>jf fr n y rd h I K
   |ex=>K ex h I
 | .cond c x y,rd,e,w,K=>
  match o3 A e c with
  | .b s2=>jf fr n x rd e w K
  | .b sp=>jf fr n y rd e w K
  | .v v=>A.split v (jf fr n x rd e w K) (jf fr n y rd e w K)
  | .u=>A.no
 | .block id c,rd,e,w,K=>jf fr n c rd e w λex h I=>match ex with
  | .exit i=>bif S5 i id then K .normal h I else K (.exit i) h I
  |ex=>K ex h I
 | .loop c,rd,e,w,K=>
  Ik A (tC A e (rF e (oc 1000 0 (Nat.land (jE c) (Nat.lor (gO c) rd))))) w λus I k=>
   jf fr n c (Nat.lor (gO c) rd) (wE (rF e (oc 1000 0 (Nat.land (jE c) (Nat.lor (gO c) rd)))) us (tD (jE c) e)) I λex h j=>match ex with
    | .normal=>k (tC A h (rF e (oc 1000 0 (Nat.land (jE c) (Nat.lor (gO c) rd))))) j
    |ex=>K ex h j
 | .scope c,rd,e,w,K=>jf fr n c rd e w K
 | .rangeFunc f E z body,_,e,w,K=>
  match E.toList with
  |[p]=>A.Aw (de A e f) w
    (λa I k=>jf fr n z (gO body) ((p,.v a)::e) I λex h j=>match ex with
     | .normal=>A.over (n:=w.heap.size) j λr=>jf fr n body 0 h r λex _ s=>k ex s
     |_=>A.no)
    (λI=>K .normal e I) (bif kx body then λI=>K .ret e I else λ_=>A.no) (wF (λi I=>K (.exit i) e I) (kZ body))
  |[p,q]=>A.Ax (de A e f) w
    (λa b I k=>jf fr n z (gO body) ((q,.v b)::(p,.v a)::e) I λex h j=>match ex with
     | .normal=>A.over (n:=w.heap.size) j λr=>jf fr n body 0 h r λex _ s=>k ex s
     |_=>A.no)
    (λI=>K .normal e I) (bif kx body then λI=>K .ret e I else λ_=>A.no) (wF (λi I=>K (.exit i) e I) (kZ body))
  |_=>A.no
 | .goto _,_,_,_,_=>A.no
 | .refuse _,_,_,_,_=>A.no
def AO:Nat->List x4->Env
 |_,[]=>[]
 |i,v::r=>(i,.v (A.mi (x:=v)))::AO (i+1) r
def tE(e:Env)(w:x5):List ResultVar->(List x4->B)->B
 |[],K=>K []
 | .tmp t::r,K=>tE e w r λvs=>K ((match look e t with|some x=>x.g A|none=>A.mi (x:=undef))::vs)
 | .cell a t::r,K=>A.wy (A.loadVar (t:=t) (match look e a with|some x=>x.g A|none=>A.mi (x:=undef))) w λv=>tE e w r λvs=>K (v::vs)
def tF(vs:List x4)(K:x4->B):B:=
 match vs with
 |[v]=>K v
 |vs=>K (A.tup vs)
def wG:List ResultVar->Nat->Nat
 |[],s=>s
 | .tmp t::r,s=>wG r (lJ s t)
 | .cell a _::r,s=>wG r (lJ s a)
def Il(a:List ResultVar)(marks:Bool)(n:Nat)(Q:x4->x5->B):Exit->Env->x5->B
 | .normal,e,w=>tE A e w a λvs=>bif marks then A.again (n:=n) w λI=>tF A vs λv=>Q v I else tF A vs λv=>Q v w
 | .ret,e,w=>tE A e w a λvs=>bif marks then A.again (n:=n) w λI=>tF A vs λv=>Q v I else tF A vs λv=>Q v w
 |_,_,_=>A.no
def wH(fr marks:Bool)(fn:Func)(c:Code)(args:List x4)(w:x5)(Q:x4->x5->B):B:=
 jf A fr n c (wG fn.results.toList 0) (AO A 0 args) w (Il A fn.results.toList marks n Q)
end
def qn(P:X8):od Prop (Sem x4) (Sem Unit) where
 mi {x}:=x
 tup l:=.tuple l.toArray
 no:=False
 mj:=True
 and:=And
 or:=Or
 W:=Ext
 stays:=cc P
 split:=Split
 wy:=ad P
 Ag:=aL P
 Ah u w K:=aL P u w λ_ I=>K I
 runN {fr n}:=tc P (fr,n)
 Ai {f}:=aq P f
 Aj {f}:=ic P f
 Ak {fr}:=tf P fr
 drew:=et
 again {n}:=wn n
 over {n}:=Over n
 dd:=cG
 a6:=cG
 jF:=cG
 Al:=cG
 Am:=cG
 An:=cG
 Ao:=HW
 Ap:=b3
 Aq:=cp
 Ar:=lH
 As:=rx
 Au:=ry
 Av:=HX
 Aw:=ky P
 Ax:=qj P
 loadVar {t} x:=do loadVar t (<-asAddr x)
 alloc {t}:=Instr.alloc t s2 (.tuple #[])
 box {t} x:=Instr.box t x
 build {t} l:=Instr.build t l.toArray
 buildSlice {t n} l:=Y3 t n l.toArray
 load {t} x:=u5 t x
 nil x:=b0 x
 bin {op t} a b x y:=aS op t a b x y
 un {op} x:=Op.unary op x
 conv {s d} x:=convert s d x
 Ay {t} x:=Instr.makeInterface t x
 Az {f} a b:=Instr.makeFunc f a.toArray b.toArray
 AA {t} x:=Instr.makeMap t x
 AB {t} l c:=Instr.makeSlice t l c
 slice {t} x l h m:=V5 t x l h m
 AC {t} x {f}:=u6 t x f
 field {t} x {f}:=Instr.field t x f
 AD {t} x i:=n9 t x i
 index {t} x i:=Instr.index t x i
 lookup {t} x i {ok}:=Instr.lookup t x i ok
 AE {t} m k:=Instr.mapEntry t m k
 range {t} x:=Instr.range t x
 entry x:=Instr.entry x
 assert {t a} x {ok}:=Instr.typeAssert x t a ok
 extract x {i}:=Z7 x i
 next x {b}:=Instr.next x b 0
 append {ats t} l:=c9 ats t l.toArray
 cap {ats t} l:=Z2.cap_ ats t l.toArray
 clear {ats t} l:=Z2.clear_ ats t l.toArray
 copy {ats t} l:=Z2.copy_ ats t l.toArray
 delete {ats t} l:=Z2.delete_ ats t l.toArray
 len {ats t} l:=X7 ats t l.toArray
 max {ats t} l:=Z2.max_ ats t l.toArray
 min {ats t} l:=Z2.min_ ats t l.toArray
 store {t} a x:=o7 t a x
 wz {t} m k x:=Instr.mapUpdate t m k x
 AF {t} m k x:=Instr.entryStore t m k x
end Go.Vc
namespace Go.Proofs.YtlcdcbgoaljiiaaGreatDoor
open Go Go.Vc Go.RowKit Go.Proofs Go.Proofs.Tryz
set_option maxRecDepth 100000
theorem mixed:x8.follows .mixedOrders=s2:=Ψ
def AP:Nat:=3
def Im:Nat:=6
def In:Nat:=7
def Io:Nat:=8
def Ip:Nat:=9
def AQ:Nat:=10
def Iq:Nat:=11
def Ir:Nat:=12
def Is:Nat:=13
def It:Nat:=15
def AR:Nat:=21
def Iu:Nat:=22
def Iv:Nat:=24
def AS:Nat:=25
def AT:Nat:=26
def wI:Nat:=27
def Iw:Nat:=28
def wJ:Nat:=29
def Ix:Nat:=30
def Iy:Nat:=31
def Iz:Nat:=32
def IA:Nat:=33
def AU:Nat:=34
def AV:Nat:=35
def wK:Nat:=36
def wL:Nat:=37
def AW:Nat:=38
def IB:Nat:=46
def IC:Nat:=48
def ID:Nat:=49
def IE:Nat:=50
def IF:Nat:=53
def rG:Nat:=54
def IG:Nat:=55
def IH:Nat:=57
def II:Nat:=58
def IJ:Nat:=59
def IK:Nat:=60
def AX:Nat:=61
def IL:Nat:=62
def IM:Nat:=63
def IN:Nat:=64
def IP:Nat:=65
def IQ:Nat:=66
def IR:Nat:=67
def IS:Nat:=68
def IT:Nat:=69
def IU:Nat:=70
def IV:Nat:=71
def Vk:Nat:=72
def wM:Nat:=73
def IW:Nat:=74
def IX:Nat:=75
def IY:Nat:=76
def IZ:Nat:=77
def I0:Nat:=78
def I1:Nat:=79
def I2:Nat:=80
def jG:Nat:=81
def I3:Nat:=82
def I4:Nat:=83
def I5:Nat:=84
def I6:Nat:=85
def I7:Nat:=86
def AY:Nat:=87
def I8:Nat:=92
def I9:Nat:=93
def nu:Nat:=94
def Ja:Nat:=95
def Jb:Nat:=96
def Jc:Nat:=97
def Jd:Nat:=98
def Je:Nat:=99
def Jf:Nat:=100
def Jg:Nat:=101
def Jh:Nat:=102
def Ji:Nat:=103
def AZ:Nat:=106
def A0:Nat:=107
def rH:Nat:=108
def pc:Nat:=109
def ml:Nat:=110
def A1:Nat:=111
def wN:Nat:=112
def pd:Nat:=113
def A2:Nat:=114
def wO:Nat:=115
def Jj:Nat:=116
def Jk:Nat:=117
def tG:Nat:=118
def nv:Nat:=119
def A3:Nat:=120
def pe:Nat:=121
def Jl:Nat:=122
def Jm:Nat:=123
def Jn:Nat:=124
def Jo:Nat:=125
def A4:Nat:=126
def Jp:Nat:=127
def Jq:Nat:=128
def A5:Nat:=129
def A6:Nat:=130
def Jr:Nat:=131
def Js:Nat:=132
def Jt:Nat:=133
def Ju:Nat:=134
def Jv:Nat:=135
def wP:Nat:=136
def Jw:Nat:=137
def Jx:Nat:=138
def Jy:Nat:=139
def Jz:Nat:=140
def JA:Nat:=141
def JB:Nat:=142
def JC:Nat:=143
def JD:Nat:=144
def JE:Nat:=145
def pf:Nat:=146
def pg:Nat:=147
def JF:Nat:=148
def JG:Nat:=149
def JH:Nat:=150
def JI:Nat:=151
def JJ:Nat:=152
def JK:Nat:=153
def JL:Nat:=154
def JM:Nat:=155
def JN:Nat:=157
def JO:Nat:=158
def A7:Nat:=159
def JP:Nat:=160
def JQ:Nat:=161
def JR:Nat:=162
def JS:Nat:=163
def JT:Nat:=164
def JU:Nat:=165
def JV:Nat:=166
def JW:Nat:=169
def JX:Nat:=170
def A8:Nat:=171
def JY:Nat:=172
def JZ:Nat:=173
def J0:Nat:=174
def J1:Nat:=175
def J2:Nat:=176
def qo:Nat:=177
def J3:Nat:=178
def J4:Nat:=179
def tH:Nat:=180
def J5:Nat:=181
def J6:Nat:=182
def Ba:Nat:=183
def Bb:Nat:=184
def Bc:Nat:=185
def J7:Nat:=186
def rI:Nat:=187
def J8:Nat:=188
def wQ:Nat:=189
def J9:Nat:=190
def Ka:Nat:=191
def Bd:Nat:=192
def Kb:Nat:=193
def Kc:Nat:=194
def Kd:Nat:=195
def Ke:Nat:=196
def Kf:Nat:=197
def Kg:Nat:=198
def Kh:Nat:=199
def Be:Nat:=200
def Ki:Nat:=201
def Kj:Nat:=202
def Kk:Nat:=203
def Kl:Nat:=204
def Km:Nat:=205
def Bf:Nat:=206
def Kn:Nat:=207
def Ko:Nat:=208
def Kp:Nat:=209
def Kq:Nat:=210
def Kr:Nat:=211
def Bg:Nat:=212
def Ks:Nat:=213
def Bh:Nat:=214
def Kt:Nat:=215
def Ku:Nat:=216
def Kv:Nat:=217
def Kw:Nat:=218
def Kx:Nat:=219
def Ky:Nat:=220
def Kz:Nat:=221
def KA:Nat:=222
def KB:Nat:=223
def KC:Nat:=224
def Bi:Nat:=225
def KD:Nat:=226
def KE:Nat:=227
def KF:Nat:=228
def wR:Nat:=229
def tI:Nat:=230
def wS:Nat:=231
def KG:Nat:=232
def wT:Nat:=233
def KH:Nat:=234
def KI:Nat:=235
def KJ:Nat:=236
def wU:Nat:=237
def KK:Nat:=238
def KL:Nat:=239
def Bj:Nat:=240
def Bk:Nat:=241
def Bl:Nat:=242
def KM:Nat:=243
def KN:Nat:=244
def KO:Nat:=245
def KP:Nat:=246
def KQ:Nat:=247
def KR:Nat:=248
def KS:Nat:=249
def Vl:Nat:=250
def KT:Nat:=252
def cmp_isNaN_int:Nat:=253
def Bm:Nat:=254
def wV:Nat:=255
def tJ:Nat:=256
def KU:Nat:=257
def KV:Nat:=258
def Bn:Nat:=259
def KW:Nat:=260
def KX:Nat:=261
def KY:Nat:=262
def KZ:Nat:=263
def K0:Nat:=264
def K1:Nat:=265
def K2:Nat:=266
def nw:Nat:=267
def ph:Nat:=268
def Bo:Nat:=269
def Bp:Nat:=270
def K3:Nat:=271
def K4:Nat:=272
def Vm:Nat:=273
def K5:Nat:=274
def Vn:Nat:=275
def K6:Nat:=276
def K7:Nat:=277
def qp:Nat:=278
def K8:Nat:=279
def K9:Nat:=280
def La:Nat:=281
def Lb:Nat:=291
def Lc:Nat:=292
def tK:Nat:=293
def Ld:Nat:=294
def Le:Nat:=295
def Lf:Nat:=296
def Lg:Nat:=297
def nx:Nat:=298
def Lh:Nat:=299
def Li:Nat:=300
def Lj:Nat:=301
def Vo:Nat:=302
def Vp:Nat:=309
def Lk:Nat:=310
def Ll:Nat:=311
def Lm:Nat:=313
def Ln:Nat:=314
def Lo:Nat:=315
def Vq:Nat:=316
def Lp:Nat:=317
def Vr:Nat:=318
def Vs:Nat:=319
def Vt:Nat:=320
def Vu:Nat:=321
def Vv:Nat:=322
def cmp_Less_int:Nat:=323
def Vw:Nat:=324
def Vx:Nat:=325
def Vy:Nat:=335
def Vz:Nat:=336
abbrev Lq:Nat:=0
abbrev ay:Nat:=2
abbrev al:Nat:=3
abbrev eg:Nat:=4
abbrev cT:Nat:=5
abbrev df:Nat:=9
abbrev cV:Nat:=22
abbrev pi:Nat:=23
abbrev eD:Nat:=25
abbrev au:Nat:=26
abbrev cq:Nat:=27
abbrev jH:Nat:=28
abbrev c4:Nat:=29
abbrev dA:Nat:=30
abbrev pj:Nat:=31
abbrev aM:Nat:=33
abbrev k0:Nat:=38
abbrev aA:Nat:=51
abbrev fZ:Nat:=58
abbrev ce:Nat:=60
abbrev dg:Nat:=63
abbrev bd:Nat:=70
abbrev c5:Nat:=72
abbrev oe:Nat:=82
abbrev rJ:Nat:=83
abbrev gp:Nat:=84
abbrev cX:Nat:=86
abbrev VA:Nat:=87
abbrev wW:Nat:=89
abbrev Bq:Nat:=92
abbrev qq:Nat:=94
abbrev bL:Nat:=96
abbrev gq:Nat:=98
abbrev wX:Nat:=106
abbrev wY:Nat:=109
abbrev c6:Nat:=116
abbrev ea:Nat:=118
abbrev fb:Nat:=134
abbrev jI:Nat:=135
abbrev pk:Nat:=136
abbrev tL:Nat:=137
abbrev gP:Nat:=139
abbrev ih:Nat:=150
abbrev rK:Nat:=151
abbrev lK:Nat:=157
abbrev mm:Nat:=158
abbrev ny:Nat:=166
abbrev tM:Nat:=168
abbrev fk:Nat:=171
abbrev iR:Nat:=172
abbrev cK:Nat:=174
abbrev kA:Nat:=179
abbrev kb:Nat:=180
abbrev cu:Nat:=182
abbrev dT:Nat:=188
abbrev cM:Nat:=190
abbrev fc:Nat:=191
abbrev cR:Nat:=193
abbrev fK:Nat:=195
abbrev dK:Nat:=199
abbrev bN:Nat:=201
abbrev eu:Nat:=203
abbrev cH:Nat:=205
abbrev ev:Nat:=209
abbrev bj:Nat:=211
abbrev mn:Nat:=216
abbrev gu:Nat:=218
abbrev fl:Nat:=219
abbrev iS:Nat:=223
abbrev qs:Nat:=231
abbrev VB:Nat:=242
abbrev rL:Nat:=244
abbrev jg:Nat:=257
abbrev k1:Nat:=263
abbrev eE:Nat:=268
abbrev cv:Nat:=272
abbrev gQ:Nat:=274
abbrev c7:Nat:=279
abbrev kc:Nat:=292
abbrev gb:Nat:=294
abbrev qt:Nat:=295
abbrev gR:Nat:=298
abbrev c8:Nat:=301
abbrev wZ:Nat:=317
abbrev eN:Nat:=320
abbrev dl:Nat:=322
abbrev cL:Nat:=324
abbrev iy:Nat:=328
abbrev gv:Nat:=331
abbrev cN:Nat:=333
abbrev mo:Nat:=356
abbrev k2:Nat:=358
abbrev VC:Nat:=372
abbrev qu:Nat:=379
abbrev nz:Nat:=380
abbrev og:Nat:=402
abbrev w1:Nat:=421
abbrev rM:Nat:=444
theorem aE{f:S8}{fn:Func}{c:Code}{Q:x4->x5->Prop}{Z:{B S a7:Type}->od B S a7->(x4->x5->B)->B}{X:Prop}(ah:x8.funcs[f]?=σ fn)(h:X)(a:fn.body=σ c:=by rfl)(_:∀{B S a7:Type}(A:od B S a7)(Q:x4->x5->B),wH A sp sp (n:=w.heap.size) fn c args w Q=Z A Q:=by intros;conv=>lhs;reduce)(_:Z (qn x8) Q=X:=by dsimp only[qn])(e:X=eW x8 fn.ntmps (sp,w.heap.size) c (ob fn.results.toList) (mh 0 args) w (nr x8 fn.results.toList sp 0 Q):=by kernel_rfl)(hk:(!(fn.name == "runtime.NumGoroutine")&&wf fn.ntmps c&&Nat.ble args.length fn.ntmps&& !lG c)=s2:=by kernel_rfl):aq x8 f args w Q:=by
 simp only[T9,Bool.not_eq_true']at hk;exact aq.If mixed ah a hk.1.1.1 hk.1.1.2 hk.1.2 hk.2 (e▸h)
theorem jh{f:S8}{fn:Func}{c:Code}{Q:x4->x5->Prop}{Z:{B S a7:Type}->od B S a7->(x4->x5->B)->B}{X:Prop}(ah:x8.funcs[f]?=σ fn)(h:X)(a:fn.body=σ c:=by rfl)(_:∀{B S a7:Type}(A:od B S a7)(Q:x4->x5->B),wH A sp s2 (n:=w.heap.size) fn c args w Q=Z A Q:=by intros;conv=>lhs;reduce)(_:Z (qn x8) Q=X:=by dsimp only[qn])(e:X=eW x8 fn.ntmps (sp,w.heap.size) c (ob fn.results.toList) (mh 0 args) w (nr x8 fn.results.toList s2 w.heap.size Q):=by kernel_rfl)(hk:(!(fn.name == "runtime.NumGoroutine")&&wf fn.ntmps c&&Nat.ble args.length fn.ntmps)=s2:=by kernel_rfl):aq x8 f args w Q:=by
 simp only[T9,Bool.not_eq_true']at hk;exact aq.enter mixed ah a hk.1.1 hk.1.2 hk.2 (e▸h)
theorem rN{f:S8}{fn:Func}{c:Code}{Q:x4->x5->Prop}{Z:{B S a7:Type}->od B S a7->(x4->x5->B)->B}{X:Prop}(ah:x8.funcs[f]?=σ fn)(h:X)(a:fn.body=σ c:=by rfl)(_:∀{B S a7:Type}(A:od B S a7)(Q:x4->x5->B),wH A s2 sp (n:=0) fn c args w Q=Z A Q:=by intros;conv=>lhs;reduce)(_:Z (qn x8) Q=X:=by dsimp only[qn])(e:X=eW x8 fn.ntmps (s2,0) c (ob fn.results.toList) (mh 0 args) w (nr x8 fn.results.toList sp 0 Q):=by kernel_rfl)(hk:(!(fn.name == "runtime.NumGoroutine")&&wf fn.ntmps c&&Nat.ble args.length fn.ntmps)=s2:=by kernel_rfl):ic x8 f args w Q:=by
 simp only[T9,Bool.not_eq_true']at hk;exact ic.enter mixed ah a hk.1.1 hk.1.2 hk.2 (e▸h)
theorem jG.enters:Enters x8 jG:=Enters.of x8 (show x8.funcs[jG]?=σ Tryz.f81 from Tryz.func81) rfl Ψ
theorem nu.enters:Enters x8 nu:=Enters.of x8 (show x8.funcs[nu]?=σ Tryz.f94 from Tryz.func94) rfl Ψ
theorem nw.enters:Enters x8 nw:=Enters.of x8 (show x8.funcs[nw]?=σ Tryz.f267 from Tryz.func267) rfl Ψ
theorem qp.enters:Enters x8 qp:=Enters.of x8 (show x8.funcs[qp]?=σ Tryz.f278 from Tryz.func278) rfl Ψ
theorem nx.enters:Enters x8 nx:=Enters.of x8 (show x8.funcs[nx]?=σ Tryz.f298 from Tryz.func298) rfl Ψ
end Go.Proofs.YtlcdcbgoaljiiaaGreatDoor
namespace Go.Vc
open Go Go.RowKit
theorem w2{b o:Nat}(h:w.cell? ⟨b,o,ν⟩=σ v):∃c e f,w.heap[b]?=σ (.cells c e f)/\c[o]?=σ v:=by
 simp only[x5.cell?]at h;split at h
 .rename_i c e f a;exact⟨c,e,f,a,by simpa using h⟩
 .cases h
theorem Br(J:ai S w I){b o:Nat}(a:¬S b)(h:w.cell? ⟨b,o,ν⟩=σ v):I.cell? ⟨b,o,ν⟩=σ v:=by
 obtain⟨c,e,f,j,ac⟩:=w2 h;simp[x5.cell?,J.a8 b _ j rfl a,ac]
theorem kd(J:Ext w I){b o:Nat}(h:w.cell? ⟨b,o,ν⟩=σ v):I.cell? ⟨b,o,ν⟩=σ v:=
 Br (J.aa λ_=>False) (λh=>h) h
theorem pm(J:Ext w I){b o:Nat}(h:w.rangeAt b o cs):I.rangeAt b o cs:=λj v ac=>kd J (h j v ac)
theorem iz(J:ai S w I){b o:Nat}(a:¬S b)(h:w.rangeAt b o cs):I.rangeAt b o cs:=λj v ac=>Br J a (h j v ac)
def ak(w:x5)(g:Nat)(e:o4)(cs:List x4):Prop:=w.heap[g]?=σ (.cells cs.toArray e (0,0))
theorem ak.W{g:Nat}(h:ak w g e cs)(J:Ext w I):ak I g e cs:=J.a8 g _ h rfl
theorem ak.aa{g:Nat}(h:ak w g e cs)(J:ai S w I)(a:¬S g):ak I g e cs:=J.a8 g _ h rfl a
theorem ak.lt{g:Nat}(h:ak w g e cs):g<w.heap.size:=(Y1.1 h).1
theorem ak.cell{g:Nat}(h:ak w g e cs){o:Nat}(ac:cs[o]?=σ v):w.cell? ⟨g,o,ν⟩=σ v:=by
 unfold ak at h;simp[x5.cell?,h,ac]
theorem ak.Qz{w:World}{g:Nat}{e:TypeId}{cs:List Value}{v:Value}(h:ak w g e cs)(I:cs[0]?=σ v):w.cell? ⟨g,0,ν⟩=σ v:=h.cell I
theorem ak.range{g:Nat}(h:ak w g e cs):w.rangeAt g 0 cs:=λj v ac=>by rw[V0];exact h.cell ac
theorem ak.frozen{g:Nat}(h:ak w g e cs)(o:Nat)(a:Option Nat):w.frozen? ⟨g,o,a⟩=sp:=by
 unfold ak at h;simp[x5.frozen?,h]
def cj(w:x5)(k:Nat)(v:x4)(n:Nat)(cs:List x4):Prop:=
 cs.length=n*k/\∃b o base cap,v= .slice base n cap/\n<=cap/\cap<=maxLen/\(0<n->base=σ ⟨b,o,ν⟩)/\w.rangeAt b o cs
theorem cj.W{k:Nat}(h:cj w k v n cs)(J:Ext w I):cj I k v n cs:=by
 obtain⟨h1,b,o,base,cap,a,e,f,j,q⟩:=h;exact⟨h1,b,o,base,cap,a,e,f,j,pm J q⟩
theorem cj.le{k:Nat}(h:cj w k v n cs):n<=maxLen:=by
 obtain⟨_,_,_,_,_,_,a,e,_⟩:=h;exact X0 a e
theorem cj.nil(w:x5)(k:Nat):cj w k (.slice ν 0 0) 0 []:=⟨Ξ,0,0,ν,0,rfl,o6 _,W3 _,λh=>m6 h (Nat.lt_irrefl _),λj v h=>by simp at h⟩
def aU(P:X8)(t:o4)(k b:Nat)(z:x4):Prop:=∃i,P.info? t=σ i/\i.size=k/\i.bytes=b/\i.zero=σ z
theorem aU.of{P:X8}{k b:Nat}(h:(P.info? t).map (λi=>(i.size,i.bytes,i.zero))=σ (k,b,σ z)):aU P t k b z:=by
 cases hi:P.info? t with
 |none=>simp[hi]at h
 |some i=>simp[hi]at h;exact⟨i,hi,h⟩
theorem aU.size{P:X8}{k b:Nat}(h:aU P t k b z):(P.info? t).map (·.size)=σ k:=by
 obtain⟨i,hi,V,_⟩:=h;simp[hi,V]
def bQ(P:X8)(t:o4)(pl:List (Nat×Nat)):Prop:=∃a,P.underlying t=σ (.struct a)/\a.toList.map (λf=>(f.offset,((P.info? f.type).map (·.size)).getD 0))=pl
def Bs(P:X8)(t:o4):Option (List (Nat×Nat)):=match P.underlying t with
 |some (.struct a)=>σ (a.toList.map λf=>(f.offset,((P.info? f.type).map (·.size)).getD 0))
 |_=>ν
theorem bQ.of{P:X8}{pl:List (Nat×Nat)}(h:Bs P t=σ pl):bQ P t pl:=by
 unfold Bs at h;split at h
 .rename_i a hu;exact⟨a,hu,by simpa using h⟩
 .cases h
section
variable{P:X8}{w:x5}
theorem ad.of{s:Sem x4}(h:∀I,Ext w I->s.run P I= .ok v I):ad P s w K=K v:=by
 refine propext ⟨λ⟨a,be,k⟩=>?_,λk=>⟨v,h,k⟩⟩;have:=be w (Ext.refl w);rw[h w (Ext.refl w)]at this;cases this;exact k
theorem aL.of{α:Type}{s:Sem α}{v:α}{K:α->x5->Prop}(h:s.run P w= .ok v I)(a:cS w I)(k:K v I):aL P s w K:=⟨v,I,h,a,k⟩
theorem b4{c:Bool}{A B:Prop}:Split (.bool c) A B=((c=s2->A)/\(c=sp->B)):=by
 refine propext ⟨λ⟨e,h,h1,a⟩=>?_,λ⟨h1,a⟩=>⟨c,rfl,h1,a⟩⟩;cases h;exact⟨h1,a⟩
theorem ao{p:Prop}[Decidable p]{A B:Prop}:Split (.bool (decide p)) A B=((p->A)/\(¬p->B)):=by rw[b4];simp
theorem bT{A B:Prop}:Split (.bool s2) A B=A:=by rw[b4];simp
theorem bb{A B:Prop}:Split (.bool sp) A B=B:=by rw[b4];simp
theorem aT{b:Int}:ad P (aS .add t cx cy (.int k a) (.int k b)) w K=K (.int k (k.wrap (a+b))):=
 ad.of λI _=>by simp[aS,eqGuard,binOp,Op.intArith]
theorem dm{b:Int}:ad P (aS .sub t cx cy (.int k a) (.int k b)) w K=K (.int k (k.wrap (a-b))):=
 ad.of λI _=>by simp[aS,eqGuard,binOp,Op.intArith]
theorem fL{b:Int}:ad P (aS .mul t cx cy (.int k a) (.int k b)) w K=K (.int k (k.wrap (a*b))):=
 ad.of λI _=>by simp[aS,eqGuard,binOp,Op.intArith]
theorem oh{b:Int}(e:b≠0):ad P (aS .quo t cx cy (.int k a) (.int k b)) w K=K (.int k (k.wrap (a.tdiv b))):=
 ad.of λI _=>by simp[aS,eqGuard,binOp,Op.intDiv,e]
theorem rO{b:Int}(e:b≠0):ad P (aS .rem t cx cy (.int k a) (.int k b)) w K=K (.int k (a.tmod b)):=
 ad.of λI _=>by simp[aS,eqGuard,binOp,Op.intDiv,e]
theorem aW{b:Int}:ad P (aS .lss t cx cy (.int k a) (.int k b)) w K=K (.bool (decide (a<b))):=
 ad.of λI _=>by simp[aS,eqGuard,binOp,Op.intCmp]
theorem Υ{k:IntKind}{P:Program}{t:TypeId}{cx cy:Bool}{a b:Int}{w:World}{A B:Prop}(hA:a<b->A)(h:a<b:=by omega):ad P (aS .lss t cx cy (.int k a) (.int k b)) w λv=>Split v A B:=by
 rw[aW,ao];exact⟨hA,λe=>m6 h e⟩
theorem lL{b:Int}:ad P (aS .leq t cx cy (.int k a) (.int k b)) w K=K (.bool (decide (a<=b))):=
 ad.of λI _=>by simp[aS,eqGuard,binOp,Op.intCmp]
theorem bW{b:Int}:ad P (aS .gtr t cx cy (.int k a) (.int k b)) w K=K (.bool (decide (b<a))):=
 ad.of λI _=>by simp[aS,eqGuard,binOp,Op.intCmp]
theorem cU{b:Int}:ad P (aS .geq t cx cy (.int k a) (.int k b)) w K=K (.bool (decide (b<=a))):=
 ad.of λI _=>by simp[aS,eqGuard,binOp,Op.intCmp]
theorem bl{b:Int}:ad P (aS .eql t cx cy (.int k a) (.int k b)) w K=K (.bool (decide (a=b))):=
 ad.of λI _=>by
  have:(a == b)=decide (a=b):=by by_cases h:a=b<;>simp[h]
  simp[aS,eqGuard,binOp,Op.intCmp,this]
theorem bO{b:Int}:ad P (aS .neq t cx cy (.int k a) (.int k b)) w K=K (.bool (decide (a≠b))):=
 ad.of λI _=>by
  have:(a != b)=decide (a≠b):=by by_cases h:a=b<;>simp[h,bne]
  simp[aS,eqGuard,binOp,Op.intCmp,this]
theorem Bt{e:o8}{b:Int}(f:0<=b):ad P (aS .shl t cx cy (.int k a) (.int e b)) w K=K (.int k (k.wrap (a*2 ^ min b.toNat k.bits))):=
 ad.of λI _=>by simp[aS,eqGuard,binOp,Op.shift,show¬b<0 by omega]
theorem bR{c:Bool}:ad P (Op.unary .not (.bool c)) w K=K (.bool !c):=ad.of λI _=>by simp[Op.unary]
theorem nA:ad P (Op.unary .neg (.int k a)) w K=K (.int k (k.wrap (0-a))):=ad.of λI _=>by simp[Op.unary,Op.intArith]
theorem fM{s d:o4}{e:o8}(V:P.underlying s=σ (.int e))(f:P.underlying d=σ (.int k)):
  ad P (convert s d (.int e a)) w K=K (.int k (k.wrap a)):=ad.of λI _=>by simp[convert,run_underlying V,run_underlying f,Conv.intToInt]
theorem Bu{x y:x4}{r:Bool}(a:∀I,(eqGuard .eql t (bg cx) (bg cy) x y).run P I= .ok () I)(e:binOp .eql t x y=(do pure (.bool (<-Op.equal t x y))))(h:∀I,Ext w I->(Op.equal t x y).run P I= .ok r I):ad P (aS .eql t cx cy x y) w K=K (.bool r):=ad.of λI J=>by
 unfold aS;rw[e,W5,a I,Result.andThen_ok,W5,h I J];rfl
theorem Lr{x y:x4}{r:Bool}(a:∀I,(eqGuard .neq t (bg cx) (bg cy) x y).run P I= .ok () I)(e:binOp .neq t x y=(do pure (.bool (!(<-Op.equal t x y)))))(h:∀I,Ext w I->(Op.equal t x y).run P I= .ok r I):ad P (aS .neq t cx cy x y) w K=K (.bool !r):=ad.of λI J=>by
 unfold aS;rw[e,W5,a I,Result.andThen_ok,W5,h I J];rfl
theorem Bv(w:x5)(d:Nat){p:Option Addr}(h:P.underlying t=σ (.pointer e)):(Op.equalIn (d+1) t (.pointer p) (.pointer ν)).run P w= .ok p.isNone w:=by
 cases p<;>simp[Op.equalIn,run_underlying h]
theorem tN{base:Option Addr}{c:Nat}(a:P.underlying t=σ (.slice e)):
  ad P (aS .eql t cx cy (.slice base n c) (.slice ν 0 0)) w K=K (.bool base.isNone):=Bu (λ_=>rfl) rfl λI _=>run_equal_slice_nil I t e base n c a
theorem dj{p:Option Addr}(a:P.underlying t=σ (.pointer e)):
  ad P (aS .eql t cx cy (.pointer p) (.pointer ν)) w K=K (.bool p.isNone):=Bu (λ_=>rfl) rfl λI _=>Bv I 9999 a
theorem w3{p:Option Addr}(a:P.underlying t=σ (.pointer e)):
  ad P (aS .neq t cx cy (.pointer p) (.pointer ν)) w K=K (.bool !p.isNone):=Lr (λ_=>rfl) rfl λI _=>Bv I 9999 a
theorem ji{a:o4}{base:Option Addr}{c:Nat}(f:P.underlying t=σ (.slice e)):
  ad P (X7 #[t] a #[.slice base n c]) w K=K (Δ n):=ad.of λI _=>by simp[X7,run_underlying f,goInt]
theorem mp{e:Array o4}{b:Int}:
  ad P (Z2.min_ e f #[.int k a,.int k b]) w K=K (.int k (min a b)):=ad.of λI _=>by
 simp only[Z2.min_,List.foldlM,Z2.min2];simp only[W5,V2,Result.andThen_ok,Int.min_def];congr 2;split<;>split<;>omega
theorem rP{e:Array o4}{b:Int}:
  ad P (Z2.max_ e f #[.int k a,.int k b]) w K=K (.int k (max a b)):=ad.of λI _=>by
 simp only[Z2.max_,List.foldlM,Z2.max2];simp only[W5,V2,Result.andThen_ok,Int.max_def];congr 2;split<;>split<;>omega
theorem gd{vs:Array x4}{i:Nat}(h:vs[i]?=σ v):ad P (Z7 (.tuple vs) i) w K=K v:=ad.of λI _=>by simp[Z7,h]
theorem lM{f:Fn}{a b:Array x4}:ad P (Instr.makeFunc f a b) w K=K (.func f a b):=ad.of λ_ _=>rfl
def k3(P:X8)(t:o4):Bool:=match P.underlying t with
 |some (.struct _)|some (.array _ _)|none=>sp
 |_=>s2
theorem aF{b o:Nat}(a:k3 P t=s2)(h:w.cell? ⟨b,o,ν⟩=σ v):
  ad P (u5 t (.pointer (σ ⟨b,o,ν⟩))) w K=K v:=ad.of λI J=>by
 have be:=kd J h;unfold k3 at a;cases hu:P.underlying t with
 |none=>rw[hu]at a;cases a
 |some d=>
  rw[hu]at a;cases d<;>first|(cases a;done)|simp[u5,Instr.sureAddr,loadVar,isAgg,run_underlying hu,be]
theorem Bw{d:TypeDesc}{b o k a:Nat}(hu:P.underlying t=σ d)(e:d.isRow=s2)(hi:aU P t k a z)(f:cs.length=k)(h:w.rangeAt b o cs):ad P (u5 t (.pointer (σ ⟨b,o,ν⟩))) w K=K (.agg cs.toArray):=ad.of λI J=>
 run_loadAt_mid I b o t cs d (pm J h) hu e (by rw[hi.size,f])
theorem bI{pl:List (Nat×Nat)}{b o k a:Nat}(hu:bQ P t pl)(hi:aU P t k a z)(e:cs.length=k)(h:w.rangeAt b o cs):ad P (u5 t (.pointer (σ ⟨b,o,ν⟩))) w K=K (.agg cs.toArray):=by
 obtain⟨f,hu,_⟩:=hu;exact Bw hu rfl hi e h
theorem aZ{pl:List (Nat×Nat)}{i b o z:Nat}(ae:bQ P t pl)(ah:pl[i]?=σ (h,z+1)):
  ad P (u6 t (.pointer (σ ⟨b,o,ν⟩)) i) w K=K (.pointer (σ ⟨b,o+h,ν⟩)):=ad.of λI _=>by
 obtain⟨r,hu,rfl⟩:=ae;rw[u4]at ah;cases a:r[i]? with
 |none=>rw[Array.getElem?_toList,a]at ah;cases ah
 |some f=>
  rw[Array.getElem?_toList,a]at ah;simp only[Y6,W6,R2]at ah;obtain⟨rfl,q⟩:=ah;cases e:P.info? f.type with
  |none=>simp[e]at q
  |some j=>
   have V:j.size=z+1:=by simpa[e]using q
   simp[u6,run_underlying hu,a,Instr.sureAddr,fieldPlace,sizeOf,typeInfo,e,V,U8]
theorem Bx{i:Int}{b o c z f:Nat}{h:x4}{base:Option Addr}(hu:P.underlying t=σ (.slice e))(q:aU P e z f h)(r:0<=i)(hi:i<n)(a:0<n->base=σ ⟨b,o,ν⟩):
  ad P (n9 t (.slice base n c) (.int k i)) w K=K (.pointer (σ ⟨b,o+i.toNat*z,ν⟩)):=ad.of λI _=>by
 have a:=a Ω;subst a;obtain⟨j,s,V,_⟩:=q;simp[n9,asIntOf,run_underlying hu,r,hi,sizeOf,typeInfo,s,V,U8]
theorem e2{i:Nat}{b o c z a:Nat}{f:x4}{base:Option Addr}(hu:P.underlying t=σ (.slice e))(h:aU P e z a f)(hi:i<n)(j:0<n->base=σ ⟨b,o,ν⟩):
  ad P (n9 t (.slice base n c) (.int k (i:Int))) w K=K (.pointer (σ ⟨b,o+i*z,ν⟩)):=by
 rw[Bx hu h Ω Ω j];rfl
theorem Ls{i:Int}{b o z a:Nat}{f:x4}(hu:P.underlying t=σ (.array n e))(h:aU P e z a f)(q:0<=i)(hi:i<n):
  ad P (n9 t (.pointer (σ ⟨b,o,ν⟩)) (.int k i)) w K=K (.pointer (σ ⟨b,o+i.toNat*z,ν⟩)):=ad.of λI _=>by
 obtain⟨j,r,V,_⟩:=h;simp[n9,asIntOf,run_underlying hu,Instr.sureAddr,q,hi,sizeOf,typeInfo,r,V,U8]
theorem w4{i:Nat}{b o z a:Nat}{f:x4}(hu:P.underlying t=σ (.array n e))(h:aU P e z a f)(hi:i<n):
  ad P (n9 t (.pointer (σ ⟨b,o,ν⟩)) (.int k (i:Int))) w K=K (.pointer (σ ⟨b,o+i*z,ν⟩)):=by
 rw[Ls hu h Ω Ω];rfl
def nB:Option x4->Nat->Prop
 |none,l=>l=0
 |some v,l=>∃k,v= .int k l
def nC:Option x4->Nat->Nat->Prop
 |none,n,h=>h=n
 |some v,_,h=>∃k,v= .int k h
def maxOf:Option x4->Option x4->Nat->Nat->Prop
 |none,_,c,m=>m=c
 |some v,σ _,_,m=>∃k,v= .int k m
 |some _,ν,_,_=>False
theorem rQ{l:Nat}:nB (σ (.int k (l:Int))) l:=⟨_,rfl⟩
theorem pn(l:Nat)(x:Int)(h:x=(l:Int)):nB (σ (.int k x)) l:=⟨k,by rw[h]⟩
theorem po(l:Nat)(x:Int)(h:x=(l:Int)):nC (σ (.int k x)) n l:=⟨k,by rw[h]⟩
theorem ke:nB ν 0:=rfl
theorem pp:nC (σ (.int k (h:Int))) n h:=⟨_,rfl⟩
theorem k4:nC ν n n:=rfl
theorem fy{h:Option x4}{c:Nat}:maxOf ν h c c:=by cases h<;>rfl
theorem tO(w:x5){sl:Bool}{c l m:Nat}{low high mx:Option x4}(h1:nB low l)(e:nC high n h)(a:maxOf mx high c m)(f:l<=h)(ax:h<=m)(hm:m<=c):
  (Instr.sliceBounds sl n c low high mx).run P w= .ok (l,h,m) w:=by
 cases low<;>cases high<;>cases mx<;>simp only[nB,nC,maxOf]at h1 e a<;>(try exact a.elim)<;>(try obtain⟨j,rfl⟩:=h1)<;>(try obtain⟨q,rfl⟩:=e)<;>(try obtain⟨r,rfl⟩:=a)<;>(try subst h1)<;>(try subst e)<;>(try subst a) <;>
  simp[Instr.sliceBounds,Instr.sliceBound,asIntOf,f,ax,hm]
theorem iA{c z a l m:Nat}{f:x4}{base:Option Addr}{low high mx:Option x4}(hu:P.underlying t=σ (.slice e))(q:aU P e z a f)(h1:nB low l)(r:nC high n h)(s:maxOf mx high c m)(x:l<=h)(ax:h<=m)(hm:m<=c):
  ad P (V5 t (.slice base n c) low high mx) w K=K (.slice (if m=l then base else base.map (·.add (l*z))) (h-l) (m-l)):=ad.of λI _=>by
 obtain⟨j,y,V,_⟩:=q;simp[V5,Instr.slice,run_underlying hu,tO I h1 r s x ax hm,sizeOf,typeInfo,y,V]
theorem tP{z a l m b o:Nat}{f:x4}{low high mx:Option x4}(hu:P.underlying t=σ (.array n e))(q:aU P e z a f)(h1:nB low l)(r:nC high n h)(s:maxOf mx high n m)(x:l<=h)(ax:h<=m)(hm:m<=n):
  ad P (V5 t (.pointer (σ ⟨b,o,ν⟩)) low high mx) w K=K (.slice (σ (if m=l then⟨b,o,ν⟩else⟨b,o+l*z,ν⟩)) (h-l) (m-l)):=ad.of λI _=>by
 obtain⟨j,y,V,_⟩:=q;simp[V5,Instr.sureAddr,run_underlying hu,tO I h1 r s x ax hm,sizeOf,typeInfo,y,V,U8]
theorem dn{parts:Array (Nat×x4)}{cs:Array x4}(h:P.built t parts.toList=σ cs):ad P (Instr.build t parts) w K=K (.agg cs):=ad.of λI _=>
 run_build I t parts cs h
end
theorem cj.part{k c l m:Nat}{base:Option Addr}(V:cj w k (.slice base n c) n cs)(q:l<=h)(ax:h<=n)(hm:h<=m)(r:m<=c):
  cj w k (.slice (if m=l then base else base.map (·.add (l*k))) (h-l) (m-l)) (h-l) ((cs.drop (l*k)).take ((h-l)*k)):=by
 obtain⟨h1,b,o,s,cap,he,x,y,a,e⟩:=V;cases he;have z:h*k<=n*k:=V4 _ ax;have A:l*k+(h-l)*k=h*k:=by rw[<-T7];congr 1;omega
 refine⟨by simp[h1];omega,b,o+l*k,_,m-l,rfl,Ω,Ω,λB=>?_,λj v ac=>?_⟩
 .rw[a Ω,m5 Ω];simp[U8]
 .have f:=(x6.1 ac).1;simp at f;rw[V1 Ω,List.getElem?_drop]at ac;rw[Nat.add_assoc];exact e _ _ ac
section
variable{P:X8}{w:x5}
structure kB(g:Nat)(w I:x5):Prop where
 os:I.os=w.os
 tape:kW w I
 output:I.output=w.output
 size:I.heap.size=w.heap.size
 a8:∀r,r≠g->I.heap[r]?=w.heap[r]?
theorem kB.refl(g:Nat)(w:x5):kB g w w:=⟨rfl,.lC,rfl,rfl,λ_ _=>rfl⟩
theorem kB.F{g:Nat}{a b:x5}(h:kB g a b)(k:kB g b c):kB g a c:=
 ⟨k.os.F h.os,k.tape.F h.tape,k.output.F h.output,k.size.F h.size,λr e=>(k.a8 r e).F (h.a8 r e)⟩
theorem kB.aa{g:Nat}{w:x5}(h:kB g w I):ai (λr=>r=g) w I:=⟨Nat.le_of_eq h.size.symm,λr o a _ e=>by rw[h.a8 r e];exact a⟩
theorem kB.cQ{g:Nat}{w:x5}(h:kB g w I)(j:ak w g e cs):cS w I:=
 ⟨h.os,h.tape,h.output,Nat.le_of_eq h.size.symm,λr o a V=>by
  by_cases f:r=g
  .grind [ak,fW]
  .rw[h.a8 r f];exact a⟩
theorem By{g:Nat}(h:ak w g e cs)(o:Nat)(v:x4):ak (w.setCell ⟨g,o,ν⟩ v) g e (cs.set o v)/\kB g w (w.setCell ⟨g,o,ν⟩ v):=by
 unfold ak at h;refine⟨?_,rfl,.lC,rfl,by simp[x5.setCell],λr a=>?_⟩
 all_goals grind [ak,x5.setCell]
def over(cs:List x4):Nat->List x4->List x4
 |_,[]=>cs
 |o,v::r=>over (cs.set o v) (o+1) r
theorem nD:∀(vs cs:List x4)(o:Nat),(over cs o vs).length=cs.length
 |[],_,_=>rfl
 |v::r,cs,o=>by simp[over,nD r]
theorem qv:∀(vs cs:List x4)(o:Nat),o+vs.length<=cs.length->∀j,(over cs o vs)[j]?=if o<=j/\j<o+vs.length then vs[j-o]? else cs[j]?
 :=by
 intro a;induction a<;>grind [over]
theorem oi{o:Nat}(h:o+vs.length<=cs.length):over cs o vs=cs.take o++vs++cs.drop (o+vs.length):=by
 apply Y2;intro j;rw[qv vs cs o h];by_cases h1:j<o
 .grind
 grind
theorem pq{g:Nat}{e:o4}:∀(vs:List x4)(cs:List x4)(o:Nat)(w:x5),ak w g e cs->ak (w.setCells g o vs) g e (over cs o vs)/\kB g w (w.setCells g o vs)
 |[],cs,o,w,h=>⟨h,kB.refl _ _⟩
 |v::r,cs,o,w,h=>by
  obtain⟨h1,a⟩:=By h o v;obtain⟨f,j⟩:=pq r (cs.set o v) (o+1) _ h1;exact⟨f,a.F j⟩
theorem tQ(w:x5)(c:List x4)(e:o4):ak (w.alloc (.cells c.toArray e)) w.heap.size e c/\Ext w (w.alloc (.cells c.toArray e))/\cS w (w.alloc (.cells c.toArray e)):=
 ⟨heap_alloc_new w _,rp w _,rq w _⟩
theorem bF{k a:Nat}{K:x4->x5->Prop}(hi:aU P t k a z)(h:∀g I,g=w.heap.size->Ext w I->ak I g t z.cells.toList->K (Γ g) I):aL P (Instr.alloc t s2 (.tuple #[])) w K:=by
 obtain⟨i,hi,_,_,e⟩:=hi;obtain⟨h1,f,j⟩:=tQ w z.cells.toList t;refine .of ?_ j (h _ _ rfl f h1);simp[Instr.alloc,zeroValue,typeInfo,hi,e,newVar,newRow]
theorem br{K:x4->x5->Prop}(h:∀g I,g=w.heap.size->Ext w I->ak I g t v.cells.toList->K (Γ g) I):aL P (Instr.box t v) w K:=by
 obtain⟨h1,a,e⟩:=tQ w v.cells.toList t;refine .of ?_ e (h _ _ rfl a h1);simp[Instr.box,newVar,newRow]
def eb(z:Array x4)(n:Nat):List x4:=((Array.range n).map (z[·% z.size]!)).toList
theorem qw(z:Array x4)(n:Nat):(eb z n).length=n:=by simp[eb]
theorem k5{k q:Nat}{parts:Array (Nat×x4)}{cs:Array x4}{K:x4->x5->Prop}(f:P.underlying t=σ (.slice e))(hi:aU P e k q z)(A:n*k<=2 ^ 24)(ah:Instr.fill (λj=>σ (j*k,k)) ((Array.range (n*k)).map ((if n*k=0 then#[]else z.cells)[·% (if n*k=0 then#[]else z.cells).size]!)) parts.toList=σ cs)(h:∀g I,g=w.heap.size->Ext w I->ak I g e cs.toList->K (.slice (σ ⟨g,0,ν⟩) n n) I):aL P (Y3 t n parts) w K:=by
 obtain⟨i,hi,rfl,_,r⟩:=hi;obtain⟨h1,s,x⟩:=tQ w cs.toList e;refine .of ?_ x (h _ _ rfl s h1);have y:¬(16777216<n*i.size):=Ω
 by_cases a:n*i.size=0
 .simp only[a,if_true]at ah;simp[Y3,run_underlying f,sizeOf,typeInfo,hi,a,newRow];simp at ah;simp[ah]
 .simp only[a,if_false]at ah;simp[Y3,run_underlying f,sizeOf,typeInfo,hi,y,a,newRow,zeroValue,r,ah]
theorem bs{g o:Nat}{K:Unit->x5->Prop}(hi:aU P t 1 j z)(h1:v.cells= #[v])(ac:v.oneCell'=s2)(a:ak w g e cs)(aC:o<cs.length)(h:∀I,ai (λr=>r=g) w I->I.heap.size=w.heap.size->ak I g e (cs.set o v)->K () I):aL P (o7 t (.pointer (σ ⟨g,o,ν⟩)) v) w K:=by
 obtain⟨i,hi,V,_⟩:=hi;obtain⟨q,f⟩:=By a o v;refine .of ?_ (f.cQ a) (h _ f.aa f.size q);have s:=a.cell (v8 aC);have x:(⟨g,o,ν⟩:Addr).add 0=⟨g,o,ν⟩:=rfl;simp[o7,Instr.sureAddr,storeVar,sizeOf,typeInfo,hi,V,h1,storeCells,x,run_store P w _ v _ ac,s,a.frozen]
theorem Bz{k q g o:Nat}{K:Unit->x5->Prop}(hi:aU P t k q z)(x:vs.length=k)(ac:∀v∈vs,v.oneCell'=s2)(a:ak w g e cs)(aC:o+vs.length<=cs.length)(h:∀I,ai (λr=>r=g) w I->I.heap.size=w.heap.size->ak I g e (over cs o vs)->K () I):aL P (o7 t (.pointer (σ ⟨g,o,ν⟩)) (.agg vs.toArray)) w K:=by
 obtain⟨s,f⟩:=pq vs cs o w a;refine .of ?_ (f.cQ a) (h _ f.aa f.size s);exact run_storeAt_mid w g o t vs.toArray (λj y=>⟨by rw[a.cell (v8 (by grind))];rfl,a.frozen _ _⟩) (by grind [aU.size]) (by grind)
def b7(w:x5)(g:Nat)(e:o4)(k:Nat)(v:x4)(n:Nat)(xs:List x4):Prop:=
 xs.length=n*k/\((v= .slice ν 0 0/\n=0)\/∃cap cs,v= .slice (σ ⟨g,0,ν⟩) n cap/\ak w g e cs/\n<=cap/\cap<=maxLen/\cs.length=cap*k/\cs.take (n*k)=xs)
theorem b7.nil(w:x5)(g:Nat)(e:o4)(k:Nat):b7 w g e k (.slice ν 0 0) 0 []:=⟨Ξ,.inl ⟨rfl,rfl⟩⟩
theorem b7.full{g:Nat}{k:Nat}(h:ak w g e cs)(a:cs.length=n*k)(f:n<=maxLen):b7 w g e k (.slice (σ ⟨g,0,ν⟩) n n) n cs:=
 ⟨a,.inr ⟨n,cs,rfl,h,o6 _,f,a,by rw[<-a,o9]⟩⟩
theorem b7.aa{g:Nat}{k:Nat}(h:b7 w g e k v n xs)(J:ai S w I)(f:g<w.heap.size->¬S g):b7 I g e k v n xs:=
 ⟨h.1,h.2.imp id λ⟨cap,cs,h1,a,j⟩=>⟨cap,cs,h1,a.aa J (f a.lt),j⟩⟩
theorem b7.W{g:Nat}{k:Nat}(h:b7 w g e k v n xs)(J:Ext w I):b7 I g e k v n xs:=h.aa (J.aa λ_=>False) (λ_ h=>h)
theorem b7.sl{g:Nat}{k:Nat}(h:b7 w g e k v n xs):cj w k v n xs:=by
 obtain⟨h1,⟨rfl,rfl⟩|⟨cap,cs,rfl,a,f,q,s,r⟩⟩:=h
 .grind [cj.nil]
 .refine⟨h1,g,0,_,cap,rfl,f,q,λ_=>rfl,λj v ac=>?_⟩;rw[V0];have x:=(x6.1 ac).1;rw[<-r,V1 Ω]at ac;exact a.cell ac
theorem cj.src{k:Nat}{x:x4}{m:Nat}{a:List x4}{h:o4}(V:cj w k x m a)(hk:P.underlying f=σ (.slice h))(h1:∀u∈a,u.oneCell'=s2)(q:0<m):Src P k f x m a w:=by
 obtain⟨r,b,o,base,cap,rfl,_,_,e,s⟩:=V;have e:=e q;subst e;exact Src.ofSlice w hk ⟨b,o,ν⟩ m cap a r (λj u hu=>by rw[U8];exact s j u hu) h1
theorem cj.Lt{k:Nat}{x:x4}{e:List x4}{a:o4}(V:cj w k x 0 e)(hk:P.underlying a=σ (.slice f)):Src P k a x 0 [] w:=by
 obtain⟨h,b,o,base,cap,rfl,_,_,j,q⟩:=V;cases base<;>grind [Src.ofNil,Src.ofSlice]
theorem BA{s L X:o4}{k M g m:Nat}{x:x4}{a:List x4}{K:x4->x5->Prop}(N:P.underlying t=σ (.slice e))(B:P.underlying f=σ (.slice X))(hi:aU P e k M z)(Y:z.cells.size=k)(O:b7 w g L k v n xs)(V:cj w k x m a)(h1:∀u∈a,u.oneCell'=s2)(Z:(n+m)*M<=140737488355328)(ab:n+m<=maxLen)(h:∀C E I F,(E=g/\F=L/\(v=C\/g<w.heap.size/\v≠ .slice ν 0 0)\/E=w.heap.size/\F=e)->b7 I E F k C (n+m) (xs++a)->ai (λr=>r=g/\v≠ .slice ν 0 0) w I->K C I):
  aL P (c9 #[t,f] s #[v,x]) w K:=by
 obtain⟨i,hi,rfl,rfl,ac⟩:=hi;have ad:=O.sl;obtain⟨A,G⟩:=O;have H:=V.1;have grow:∀(base:Option Addr)(cap:Nat),v= .slice base n cap->cap<n+m->0<m->(Z2.firstCells i.size n (.slice base n cap)).run P w.drew= .ok xs.toArray w.drew->aL P (c9 #[t,f] s #[v,x]) w K:=by
  rintro base cap rfl Q hm ae;have q:=run_append_grow_src w t f s e i z N hi ac base n cap xs ae x m a (V.src B h1 hm) Q (by grind [maxLen]) (growslice_fits Q Z);have af:n+m<=grownCap w (n+m) cap e:=grownCap_ge w _ _ _;have R:=grownCap_le_maxLen w (n+m) cap e ab;have ag:Ext w (w.drew.alloc (.cells ((xs++a).toArray++Z2.zeroCells z.cells (grownCap w (n+m) cap e-(n+m))) e)):=(tb w _).F (rp _ _);refine .of q ((rn w _ (Nat.le_succ _)).F (rq _ _)) (h _ w.heap.size _ _ (.inr ⟨rfl,rfl⟩) ⟨by grind,.inr ⟨_,((xs++a).toArray++Z2.zeroCells z.cells (grownCap w (n+m) cap e-(n+m))).toList,rfl,?_,af,R,?_,?_⟩⟩ (ag.aa _))
  .show _=_;rw[Array.toArray_toList];exact heap_alloc_new w.drew _
  .simp[A,H,size_zeroCells,Y,<-T7]
   grind
  grind [T7]
 rcases Nat.eq_zero_or_pos m with rfl|hm
 .have ah:=b8 (by simpa using H);subst ah;have ao:=V.Lt B;have S:∀base cap,v= .slice base n cap->n<=cap->aL P (c9 #[t,f] s #[v,x]) w K:=by
   rintro base cap rfl R;refine .of (by grind [run_append_nothing]) (cS.refl _) (h _ g _ _ (.inl ⟨rfl,rfl,.inl rfl⟩) ?_ (ai.refl _ _));rw[Nat.add_zero,T5];exact⟨A,G⟩
  obtain⟨rfl,rfl⟩|⟨cap,cs,rfl,_,T,_⟩:=G
  .exact S _ _ rfl (o6 _)
  .exact S _ _ rfl T
 .obtain⟨rfl,rfl⟩|⟨cap,cs,rfl,y,T,aj,U,ap⟩:=G
  .have ak:=b8 (by simpa using A);subst ak;exact grow ν 0 rfl Ω hm (by grind [run_firstCells_none])
  .by_cases J:n+m<=cap
   .have aq:n*i.size+a.length<=cs.length:=by rw[H,U,<-T7];exact V4 _ J
    have q:=run_append_room_src w t f s e i N hi g 0 n cap x m a (V.src B h1 hm) J
     (λj au=>by rw[y.cell (v8 Ω)];rfl) (λj _=>y.frozen _ _)
    obtain⟨al,W⟩:=pq a cs (n*i.size) w y;rw[V0]at q;refine .of q (W.cQ y) (h _ g _ _ (.inl ⟨rfl,rfl,.inr ⟨y.lt,Ξ⟩⟩) ⟨by grind,.inr ⟨cap,_,rfl,al,J,aj,by rw[nD,U],?_⟩⟩ (W.aa.Y (by grind)))
    grind [oi,T7]
   .refine grow _ cap rfl Ω hm (run_firstCells_some w.drew i.size n _ n cap xs A λj u hu=>?_);rw[U8];obtain⟨_,b,o,base,av,he,_,_,am,q⟩:=ad;cases he;have an:0<n:=by
     grind
    have:=am an;cases this;simpa using q j u hu
theorem pr{q y A:o4}{k s g m:Nat}{x:x4}{j:List x4}{K:x4->x5->Prop}(B:P.underlying t=σ (.slice e))(C:P.underlying q=σ (.slice A))(hi:aU P e k s z)(E:z.cells.size=k)(F:b7 w g e k v n xs)(V:cj w k x m j)(h1:∀u∈j,u.oneCell'=s2)(G:(n+m)*s<=140737488355328)(H:n+m<=maxLen)(h:∀f a I,(a=g\/w.heap.size<=a)->b7 I a e k f (n+m) (xs++j)->ai (λr=>r=g) w I->K f I):
  aL P (c9 #[t,q] y #[v,x]) w K:=
 BA B C hi E F V h1 G H λf a I L M hm J=>by
  refine h f a I Ω ?_ (J.Y λr _ h=>h.1)
  grind
theorem BB{s y:o4}{L g o jj A:Nat}{x:x4}{base:Option Addr}{C:o4}{K:x4->x5->Prop}(E:P.underlying f=σ (.slice e))(hi:aU P e 1 L z)(a:ak w g C cs)(M:0<jj->base=σ ⟨g,o,ν⟩)(X:o+jj<=cs.length)(V:cj w 1 x n xs)(h1:∀u∈xs,u.oneCell'=s2)(h:∀I,ai (λr=>r=g) w I->I.heap.size=w.heap.size->ak I g C (over cs o (xs.take jj))->K (Δ (min n jj:Nat)) I):
  aL P (Z2.copy_ #[f,s] y #[.slice base jj A,x]) w K:=by
 obtain⟨F,b,o',N,cap,rfl,_,_,O,Q⟩:=V;simp only[U3]at F;have G:(P.info? e).map (·.size)=σ 1:=hi.size;by_cases q:Nat.min n jj=0
 .have he:=b8 (by rw[Z3,F];rw[Nat.min_comm];exact q);rw[he]at h;refine .of (run_copy_none w f s y e base N jj A n cap E G q) (cS.refl _) ?_;have H:min n jj=0:=q;rw[H]at h;exact h w (ai.refl _ _) rfl a
 .have H:min n jj≠0:=q;have R:=O Ω;have S:=M Ω;subst R;subst S;have J:(xs.take jj).length=min n jj:=by grind
  obtain⟨T,B⟩:=pq (xs.take jj) cs o w a;have U:=run_copy_cells w f s y e g o jj A ⟨b,o',ν⟩ n cap (xs.take jj) E G J
   (λj u hu=>by
    rw[U8];have W:=(x6.1 hu).1;rw[V1 Ω]at hu;exact Q j u hu)
   (λj W=>by rw[a.cell (v8 Ω)];rfl) (λj _=>a.frozen _ _) (by grind)
  refine .of U (B.cQ a) ?_;rw[J];exact h _ B.aa B.size T
theorem aq.Y{f:S8}{K e:x4->x5->Prop}(h:aq P f args w K)(j:∀v I,cS w I->K v I->e v I):aq P f args w e:=by
 cases h with
 |code h1 a=>exact .code h1 (a.Y (by grind))
 |ext v I h1 a q=>exact .ext v I h1 a (by grind)
theorem ic.Y{f:S8}{K a:x4->x5->Prop}(h:ic P f args w K)(e:∀v I,K v I->a v I):ic P f args w a:=by
 cases h with
 |code h1 j=>exact .code h1 (j.Y (by grind))
 |ext v I h1 q=>exact .ext v I h1 (e v I q)
end
end Go.Vc
namespace Go.Proofs.YtlcdcbgoaljiiaaGreatDoor
open Go Go.Vc Go.RowKit Go.Proofs Go.Proofs.Tryz
set_option maxRecDepth 100000
theorem ay.u:x8.underlying ay=σ (.int .i64):=Ψ
theorem ay.i:aU x8 ay 1 8 (Δ 0):=aU.of Ψ
theorem al.u:x8.underlying al=σ (.int .i64):=Ψ
theorem al.i:aU x8 al 1 8 (Δ 0):=aU.of Ψ
theorem eg.i:aU x8 eg 1 1 (.bool sp):=aU.of Ψ
theorem cT.u:x8.underlying cT=σ (.int .u8):=Ψ
theorem cT.i:aU x8 cT 1 1 (.int .u8 0):=aU.of Ψ
theorem df.u:x8.underlying df=σ .string:=Ψ
theorem df.i:aU x8 df 1 16 (.string ⟨#[]⟩):=aU.of Ψ
theorem cV.u:x8.underlying cV=σ (.slice cT):=Ψ
theorem pi.u:x8.underlying pi=σ (.slice dg):=Ψ
theorem eD.u:x8.underlying eD=σ (.pointer cX):=Ψ
theorem au.u:x8.underlying au=σ (.slice al):=Ψ
theorem au.i:aU x8 au 1 24 (.slice ν 0 0):=aU.of Ψ
theorem cq.u:x8.underlying cq=σ (.slice au):=Ψ
theorem cq.i:aU x8 cq 1 24 (.slice ν 0 0):=aU.of Ψ
theorem jH.u:x8.underlying jH=σ (.slice eg):=Ψ
theorem jH.i:aU x8 jH 1 24 (.slice ν 0 0):=aU.of Ψ
theorem c4.u:x8.underlying c4=σ (.slice aA):=Ψ
theorem c4.i:aU x8 c4 1 24 (.slice ν 0 0):=aU.of Ψ
theorem dA.u:x8.underlying dA=σ (.slice c5):=Ψ
theorem dA.i:aU x8 dA 1 24 (.slice ν 0 0):=aU.of Ψ
theorem pj.u:x8.underlying pj=σ (.slice rM):=Ψ
theorem pj.i:aU x8 pj 1 24 (.slice ν 0 0):=aU.of Ψ
theorem aM.p:bQ x8 aM [(0,1),(1,1),(2,1),(3,1),(4,1),(5,1),(6,1),(7,1)]:=bQ.of Ψ
theorem aM.i:aU x8 aM 8 160 (.agg #[(Δ 0),(.slice ν 0 0),(Δ 0),(.slice ν 0 0),(.slice ν 0 0),(.slice ν 0 0),(.slice ν 0 0),(.slice ν 0 0)]):=aU.of Ψ
theorem k0.i:aU x8 k0 1 8 (Δ 0):=aU.of Ψ
theorem aA.u:x8.underlying aA=σ (.slice ay):=Ψ
theorem aA.i:aU x8 aA 1 24 (.slice ν 0 0):=aU.of Ψ
theorem fZ.u:x8.underlying fZ=σ (.int .u64):=Ψ
theorem fZ.i:aU x8 fZ 1 8 (.int .u64 0):=aU.of Ψ
theorem ce.p:bQ x8 ce [(0,1),(1,1)]:=bQ.of Ψ
theorem ce.i:aU x8 ce 2 16 (.agg #[(.int .u64 0),(Δ 0)]):=aU.of Ψ
theorem dg.p:bQ x8 dg [(0,1),(1,1),(2,1),(3,1),(4,1)]:=bQ.of Ψ
theorem dg.i:aU x8 dg 5 40 (.agg #[(.int .u8 0),(Δ 0),(Δ 0),(Δ 0),(Δ 0)]):=aU.of Ψ
theorem bd.p:bQ x8 bd [(0,1),(1,1),(2,1)]:=bQ.of Ψ
theorem bd.i:aU x8 bd 3 72 (.agg #[(.slice ν 0 0),(.slice ν 0 0),(.slice ν 0 0)]):=aU.of Ψ
theorem c5.p:bQ x8 c5 [(0,3),(3,1)]:=bQ.of Ψ
theorem c5.i:aU x8 c5 4 80 (.agg #[(.slice ν 0 0),(.slice ν 0 0),(.slice ν 0 0),(.bool sp)]):=aU.of Ψ
theorem oe.u:x8.underlying oe=σ (.pointer gu):=Ψ
theorem rJ.u:x8.underlying rJ=σ (.pointer gP):=Ψ
theorem gp.u:x8.underlying gp=σ (.slice gq):=Ψ
theorem gp.i:aU x8 gp 1 24 (.slice ν 0 0):=aU.of Ψ
theorem cX.p:bQ x8 cX [(0,1),(1,1),(2,1),(3,1),(4,1)]:=bQ.of Ψ
theorem qq.i:aU x8 qq 1 8 .nilFunc:=aU.of Ψ
theorem bL.p:bQ x8 bL [(0,1)]:=bQ.of Ψ
theorem bL.i:aU x8 bL 1 24 (.agg #[(.slice ν 0 0)]):=aU.of Ψ
theorem gq.p:bQ x8 gq [(0,1),(1,1),(2,1)]:=bQ.of Ψ
theorem gq.i:aU x8 gq 3 56 (.agg #[(.slice ν 0 0),(.slice ν 0 0),(Δ 0)]):=aU.of Ψ
theorem wX.u:x8.underlying wX=σ (.pointer cM):=Ψ
theorem wY.u:x8.underlying wY=σ (.pointer eu):=Ψ
theorem c6.u:x8.underlying c6=σ (.slice bd):=Ψ
theorem c6.i:aU x8 c6 1 24 (.slice ν 0 0):=aU.of Ψ
theorem ea.p:bQ x8 ea [(0,1),(1,1),(2,1),(3,1),(4,1)]:=bQ.of Ψ
theorem ea.i:aU x8 ea 5 88 (.agg #[(Δ 0),(.slice ν 0 0),(Δ 0),(.slice ν 0 0),(.slice ν 0 0)]):=aU.of Ψ
theorem fb.p:bQ x8 fb [(0,1),(1,1)]:=bQ.of Ψ
theorem fb.i:aU x8 fb 2 16 (.agg #[(Δ 0),(.int .u64 0)]):=aU.of Ψ
theorem jI.u:x8.underlying jI=σ (.slice fb):=Ψ
theorem jI.i:aU x8 jI 1 24 (.slice ν 0 0):=aU.of Ψ
theorem pk.u:x8.underlying pk=σ (.slice ny):=Ψ
theorem pk.i:aU x8 pk 1 24 (.slice ν 0 0):=aU.of Ψ
theorem tL.u:x8.underlying tL=σ (.slice ih):=Ψ
theorem gP.p:bQ x8 gP [(0,1),(1,1),(2,1),(3,1)]:=bQ.of Ψ
theorem ih.p:bQ x8 ih [(0,1),(1,1),(2,1)]:=bQ.of Ψ
theorem ih.i:aU x8 ih 3 24 (.agg #[(Δ 0),(Δ 0),(.int .u64 0)]):=aU.of Ψ
theorem rK.u:x8.underlying rK=σ (.pointer dl):=Ψ
theorem lK.p:bQ x8 lK [(0,1),(1,1),(2,1)]:=bQ.of Ψ
theorem lK.i:aU x8 lK 3 24 (.agg #[(.pointer ν),(Δ 0),(Δ 0)]):=aU.of Ψ
theorem mm.u:x8.underlying mm=σ (.map al ay):=Ψ
theorem mm.i:aU x8 mm 1 8 (.map ν):=aU.of Ψ
theorem ny.i:aU x8 ny 3 24 (.agg #[(Δ 0),(Δ 0),(.int .u64 0)]):=aU.of Ψ
theorem tM.u:x8.underlying tM=σ (.pointer jg):=Ψ
theorem fk.p:bQ x8 fk [(0,1),(1,1),(2,1),(3,1)]:=bQ.of Ψ
theorem iR.u:x8.underlying iR=σ (.slice k1):=Ψ
theorem iR.i:aU x8 iR 1 24 (.slice ν 0 0):=aU.of Ψ
theorem cK.p:bQ x8 cK [(0,1),(1,4),(5,1),(6,1)]:=bQ.of Ψ
theorem kA.u:x8.underlying kA=σ (.slice cu):=Ψ
theorem kb.u:x8.underlying kb=σ (.slice eE):=Ψ
theorem kb.i:aU x8 kb 1 24 (.slice ν 0 0):=aU.of Ψ
theorem cu.p:bQ x8 cu [(0,1),(1,1),(2,1),(3,1)]:=bQ.of Ψ
theorem cu.i:aU x8 cu 4 80 (.agg #[(.slice ν 0 0),(.slice ν 0 0),(Δ 0),(.slice ν 0 0)]):=aU.of Ψ
theorem dT.u:x8.underlying dT=σ (.slice cR):=Ψ
theorem dT.i:aU x8 dT 1 24 (.slice ν 0 0):=aU.of Ψ
theorem cM.p:bQ x8 cM [(0,1),(1,1),(2,1),(3,1)]:=bQ.of Ψ
theorem fc.u:x8.underlying fc=σ (.pointer gb):=Ψ
theorem fc.i:aU x8 fc 1 8 (.pointer ν):=aU.of Ψ
theorem cR.p:bQ x8 cR [(0,1),(1,1)]:=bQ.of Ψ
theorem cR.i:aU x8 cR 2 32 (.agg #[(.slice ν 0 0),(.pointer ν)]):=aU.of Ψ
theorem fK.u:x8.underlying fK=σ (.slice cH):=Ψ
theorem fK.i:aU x8 fK 1 24 (.slice ν 0 0):=aU.of Ψ
theorem dK.u:x8.underlying dK=σ (.slice bj):=Ψ
theorem dK.i:aU x8 dK 1 24 (.slice ν 0 0):=aU.of Ψ
theorem bN.p:bQ x8 bN [(0,1),(1,1),(2,1),(3,1),(4,1),(5,1),(6,1),(7,1),(8,1)]:=bQ.of Ψ
theorem eu.p:bQ x8 eu [(0,1),(1,1),(2,1),(3,1)]:=bQ.of Ψ
theorem cH.p:bQ x8 cH [(0,1),(1,1)]:=bQ.of Ψ
theorem cH.i:aU x8 cH 2 24 (.agg #[(.string ⟨#[]⟩),(Δ 0)]):=aU.of Ψ
theorem ev.u:x8.underlying ev=σ (.slice cv):=Ψ
theorem ev.i:aU x8 ev 1 24 (.slice ν 0 0):=aU.of Ψ
theorem bj.p:bQ x8 bj [(0,1),(1,1),(2,1),(3,1)]:=bQ.of Ψ
theorem bj.i:aU x8 bj 4 80 (.agg #[(.slice ν 0 0),(.slice ν 0 0),(Δ 0),(.slice ν 0 0)]):=aU.of Ψ
theorem mn.u:x8.underlying mn=σ (.slice iS):=Ψ
theorem mn.i:aU x8 mn 1 24 (.slice ν 0 0):=aU.of Ψ
theorem gu.p:bQ x8 gu [(0,1),(1,1),(2,1),(3,1)]:=bQ.of Ψ
theorem fl.u:x8.underlying fl=σ (.pointer c8):=Ψ
theorem fl.i:aU x8 fl 1 8 (.pointer ν):=aU.of Ψ
theorem iS.p:bQ x8 iS [(0,1),(1,1)]:=bQ.of Ψ
theorem iS.i:aU x8 iS 2 32 (.agg #[(.slice ν 0 0),(.pointer ν)]):=aU.of Ψ
theorem qs.u:x8.underlying qs=σ (.int .u64):=Ψ
theorem rL.p:bQ x8 rL [(0,1),(1,1)]:=bQ.of Ψ
theorem jg.p:bQ x8 jg [(0,1),(1,1),(2,1)]:=bQ.of Ψ
theorem k1.p:bQ x8 k1 [(0,1),(1,1)]:=bQ.of Ψ
theorem k1.i:aU x8 k1 2 48 (.agg #[(.slice ν 0 0),(.slice ν 0 0)]):=aU.of Ψ
theorem eE.p:bQ x8 eE [(0,1),(1,1)]:=bQ.of Ψ
theorem eE.i:aU x8 eE 2 32 (.agg #[(.slice ν 0 0),(Δ 0)]):=aU.of Ψ
theorem cv.p:bQ x8 cv [(0,1),(1,1)]:=bQ.of Ψ
theorem cv.i:aU x8 cv 2 32 (.agg #[(.slice ν 0 0),(Δ 0)]):=aU.of Ψ
theorem gQ.u:x8.underlying gQ=σ (.slice c7):=Ψ
theorem c7.p:bQ x8 c7 [(0,1),(1,1)]:=bQ.of Ψ
theorem c7.i:aU x8 c7 2 32 (.agg #[(.slice ν 0 0),(.pointer ν)]):=aU.of Ψ
theorem kc.u:x8.underlying kc=σ (.map cN ay):=Ψ
theorem gb.p:bQ x8 gb [(0,1),(1,1),(2,1),(3,1)]:=bQ.of Ψ
theorem qt.u:x8.underlying qt=σ (.slice gR):=Ψ
theorem gR.p:bQ x8 gR [(0,1),(1,1)]:=bQ.of Ψ
theorem gR.i:aU x8 gR 2 32 (.agg #[(.slice ν 0 0),(Δ 0)]):=aU.of Ψ
theorem c8.p:bQ x8 c8 [(0,1),(1,1),(2,1)]:=bQ.of Ψ
theorem wZ.u:x8.underlying wZ=σ (.array 64 cT):=Ψ
theorem eN.u:x8.underlying eN=σ (.slice cL):=Ψ
theorem eN.i:aU x8 eN 1 24 (.slice ν 0 0):=aU.of Ψ
theorem dl.p:bQ x8 dl [(0,1),(1,1)]:=bQ.of Ψ
theorem cL.p:bQ x8 cL [(0,1),(1,1)]:=bQ.of Ψ
theorem cL.i:aU x8 cL 2 16 (.agg #[(Δ 0),(Δ 0)]):=aU.of Ψ
theorem iy.u:x8.underlying iy=σ (.map df al):=Ψ
theorem gv.u:x8.underlying gv=σ (.int .i8):=Ψ
theorem gv.i:aU x8 gv 1 1 (.int .i8 0):=aU.of Ψ
theorem cN.u:x8.underlying cN=σ (.array 6 gv):=Ψ
theorem cN.i:aU x8 cN 6 6 (.agg #[(.int .i8 0),(.int .i8 0),(.int .i8 0),(.int .i8 0),(.int .i8 0),(.int .i8 0)]):=aU.of Ψ
theorem mo.u:x8.underlying mo=σ (.slice gv):=Ψ
theorem k2.u:x8.underlying k2=σ (.slice cN):=Ψ
theorem k2.i:aU x8 k2 1 24 (.slice ν 0 0):=aU.of Ψ
theorem qu.u:x8.underlying qu=σ (.int .u32):=Ψ
theorem nz.u:x8.underlying nz=σ (.map ay al):=Ψ
theorem og.u:x8.underlying og=σ (.array 24 cT):=Ψ
theorem og.i:aU x8 og 24 24 (.agg #[(.int .u8 0),(.int .u8 0),(.int .u8 0),(.int .u8 0),(.int .u8 0),(.int .u8 0),(.int .u8 0),(.int .u8 0),(.int .u8 0),(.int .u8 0),(.int .u8 0),(.int .u8 0),(.int .u8 0),(.int .u8 0),(.int .u8 0),(.int .u8 0),(.int .u8 0),(.int .u8 0),(.int .u8 0),(.int .u8 0),(.int .u8 0),(.int .u8 0),(.int .u8 0),(.int .u8 0)]):=aU.of Ψ
theorem w1.u:x8.underlying w1=σ (.array 20 fZ):=Ψ
theorem rM.i:aU x8 rM 3 56 (.agg #[(Δ 0),(.slice ν 0 0),(.slice ν 0 0)]):=aU.of Ψ
end Go.Proofs.YtlcdcbgoaljiiaaGreatDoor
namespace Go.Vc
open Go Go.RowKit
def b1:x4->Int
 | .int _ i=>i
 |_=>0
theorem lm{x:Int}(h1: -9223372036854775808<=x)(a:x<9223372036854775808):X4.wrap x=x:=by
 grind [o8.wrap,o8.bits,o8.signed]
theorem wrap_u8{x:Int}(h1:0<=x)(a:x<256):o8.u8.wrap x=x:=by
 grind [o8.wrap,o8.bits,o8.signed]
theorem Lu{x:Int}(h1: -128<=x)(a:x<128):o8.i8.wrap x=x:=by
 grind [o8.wrap,o8.bits,o8.signed]
theorem lw{x:Int}(h1:0<=x)(a:x<18446744073709551616):U4.wrap x=x:=by
 grind [o8.wrap,o8.bits,o8.signed]
abbrev ints(k:o8)(l:Λ):List x4:=l.map (V3 k)
theorem rR(k:o8)(l:Λ):∀u∈ints k l,u.oneCell'=s2:=by
 intro u hu;obtain⟨x,_,rfl⟩:=l9.1 hu;rfl
theorem mq{i:Nat}{x:Int}(h:l[i]?=σ x):(ints k l)[i]?=σ (.int k x):=by simp[ints,h]
theorem w5{α:Type}{a b:List α}{i:Nat}{x y:α}(h:a.take i=b.take i)(e:a[i]?=σ x)(f:b[i]?=σ y)(j:x=y):a.take (i+1)=b.take (i+1):=by
 grind [u9]
theorem dd{az:x5->Prop}{B:(x5->Prop)->Prop}(G:x5->Prop)(h1:∀w,G w->az w)(e:∀a:x5->Prop,(∀w,G w->a w)->B a):cG az B:=e az h1
theorem a6{az:x4->x5->Prop}{B:(x4->x5->Prop)->Prop}(G:x4->x5->Prop)(h1:∀v w,G v w->az v w)(e:∀a:x4->x5->Prop,(∀v w,G v w->a v w)->B a):cG az B:=e az h1
theorem jF{az:x4->x4->x5->Prop}{B:(x4->x4->x5->Prop)->Prop}(G:x4->x4->x5->Prop)(h1:∀u v w,G u v w->az u v w)(e:∀a:x4->x4->x5->Prop,(∀u v w,G u v w->a u v w)->B a):cG az B:=e az h1
theorem aq.calls{P:X8}{f:S8}{K:x4->x5->Prop}(h:aq P f args w K)(a:Enters P f):Calls P f args.toArray w λe I=>∃v,e= .returned v/\cS w I/\K v I:=by
 cases h with
 |code _ h=>exact h
 |ext v I h1=>rw[a]at h1;cases h1
theorem Lv(J:Ext w I)(a:cS w I):Below w.heap.size w I:=
 ⟨a.os,a.tape.1,a.output,J.size,λk hk=>by
  have aC:=Array.getElem?_eq_getElem hk;rw[aC];cases V:fW w.heap[k]with
  |true=>exact J.a8 k _ aC V
  |false=>exact a.a8 k _ aC V⟩
theorem w6{x:Addr}(h:w.cell? x=σ v):x=⟨x.block,x.off,ν⟩:=by
 obtain⟨b,o,s⟩:=x;cases s<;>grind [x5.cell?]
theorem Lw{a:Option Addr}{len cap:Nat}{e:Λ}(h:(a=ν/\len=0/\cap=0/\e=[])\/
   ∃x,a=σ x/\len<=cap/\cap<=maxLen/\e.length=cap/\(∀i,i<e.length->w.cell? (x.add i)=σ (.int k (e.getD i 0)))/\∀n∈e,(Lit.int k n).wf=s2):
  cj w 1 (.slice a len cap) len (ints k (e.take len))/\∀n∈e.take len,k.min<=n/\n<=k.max:=by
 rcases h with⟨rfl,rfl,rfl,rfl⟩|⟨x,rfl,h1,q,s,f,y⟩
 .grind [cj.nil]
 .refine⟨⟨by grind,x.block,x.off,σ x,cap,rfl,h1,q,λz=>?_,λj v ac=>?_⟩,λn A=>?_⟩
  .have:=f 0 Ω;exact congrArg σ (w6 this)
  .have r:=(x6.1 ac).1;rw[r9,Z3]at r;have J:x=⟨x.block,x.off,ν⟩:=w6 (v:=.int k (e.getD 0 0)) (f 0 Ω)
   grind [U8]
  grind [Lit.wf]
def aQ(k:o8)(w:x5)(v:x4)(l:Λ):Prop:=cj w 1 v l.length (ints k l)
def aH(k:o8)(e:o4)(w:x5)(g:Nat)(v:x4)(l:Λ):Prop:=b7 w g e 1 v l.length (ints k l)
theorem aQ.W(h:aQ k w v l)(J:Ext w I):aQ k I v l:=cj.W h J
theorem aH.W{g:Nat}(h:aH k e w g v l)(J:Ext w I):aH k e I g v l:=b7.W h J
theorem aH.aa{g:Nat}(h:aH k e w g v l)(J:ai S w I)(a:g<w.heap.size->¬S g):aH k e I g v l:=b7.aa h J a
theorem aH.ls{g:Nat}(h:aH k e w g v l):aQ k w v l:=b7.sl h
theorem aQ.of(h:cj w 1 v n (ints k l)):aQ k w v l:=by
 have:l.length=n:=by simpa using h.1
 unfold aQ;rw[this];exact h
theorem aH.of{g:Nat}(h:b7 w g e 1 v n (ints k l)):aH k e w g v l:=by
 have:l.length=n:=by simpa using h.1
 unfold aH;rw[this];exact h
theorem aQ.le(h:aQ k w v l):l.length<=9223372036854775807:=by
 have:=cj.le h;simpa[maxLen]using this
theorem aQ.cells(h:aQ k w v l):v.cells= #[v]/\v.oneCell'=s2:=by
 obtain⟨_,_,_,_,_,rfl,_⟩:=h;exact⟨rfl,rfl⟩
theorem aH.nil(k:o8)(e:o4)(w:x5)(g:Nat):aH k e w g (.slice ν 0 0) []:=b7.nil w g e 1
section
variable{P:X8}{w:x5}
theorem ba{a:o4}(f:P.underlying t=σ (.slice e))(h:aQ k w v l):
  ad P (X7 #[t] a #[v]) w K=K (Δ l.length):=by
 obtain⟨_,_,_,_,_,rfl,_⟩:=h;exact ji f
theorem bp{a:o8}{b:Nat}{i:Nat}{x:Int}(f:P.underlying t=σ (.slice e))(hi:aU P e 1 b z)(h1:k3 P e=s2)(h:aQ k w v l)(J:l[i]?=σ x):ad P (n9 t v (.int a (i:Int))) w (λp=>ad P (u5 e p) w K)=K (.int k x):=by
 have j:=(x6.1 J).1;obtain⟨_,_,_,_,_,rfl,_,_,q,r⟩:=h;rw[e2 f hi j q,U3,aF h1 (r i _ (mq J))]
theorem fz{a:o8}{b:Nat}{i:Nat}{x:Int}(f:y=(i:Int))(j:P.underlying t=σ (.slice e))(hi:aU P e 1 b z)(h1:k3 P e=s2)(h:aQ k w v l)(J:l[i]?=σ x):ad P (n9 t v (.int a y)) w (λp=>ad P (u5 e p) w K)=K (.int k x):=by
 subst f;exact bp j hi h1 h J
theorem kC{q:o4}{b g:Nat}{x:x4}{m:Λ}{K:x4->x5->Prop}(j:P.underlying t=σ (.slice e))(hi:aU P e 1 b z)(s:z.cells.size=1)(h:aH k e w g v l)(J:aQ k w x m)(y:(l.length+m.length)*b<=140737488355328)(A:l.length+m.length<=9223372036854775807)(B:∀f a I,(a=g\/w.heap.size<=a)->aH k e I a f (l++m)->ai (λr=>r=g) w I->K f I):aL P (c9 #[t,t] q #[v,x]) w K:=
 pr j j hi s h J (rR _ _) y (by simpa[maxLen]using A) λf a I h1 C E=>B f a I h1 (aH.of (by rw[ints,Z0];exact C)) E
theorem e3{b:Nat}{x:Int}{K:x4->x5->Prop}(j:P.underlying t=σ (.slice e))(hi:aU P e 1 b z)(s:z.cells.size=1)(h:∀v g I,g=w.heap.size->Ext w I->aH k e I g v [x]->K v I):aL P (Y3 t 1 #[(0,.int k x)]) w K:=
 k5 j hi Ω (cs:=#[.int k x]) (by
   have V:∀(a:Array x4),a.size=1->a.setIfInBounds 0 (.int k x)= #[.int k x]:=λa f=>by
    apply Array.ext
    .simp[f]
    .intro i h1 y;have:i=0:=by simp[f]at h1;exact h1
     subst this;simp
   simp only[Instr.fill,x4.cells,List.zipIdx];simp;exact V _ Ξ) λg I q J r=>h _ g I q J (aH.of (b7.full r rfl (by simp[maxLen])))
theorem aq.free{f:S8}{K:x4->x5->Prop}(h:aq P f args w K):ic P f args w λv I=>cS w I/\K v I:=by
 cases h with
 |code h1 a=>exact .code h1 (a.Y λ_ I ⟨v,h1,e,a⟩=>⟨v,h1,e,a⟩)
 |ext v I h1 a j=>exact .ext v I h1 ⟨a,j⟩
theorem b5{a:Addr}:ad P (b0 (.pointer (σ a))) w K=K (.pointer (σ a)):=ad.of λ_ _=>by
 simp[b0,td,execOp]
theorem aP{u:o4}{pl:List (Nat×Nat)}{b a z:Nat}{K:x4->x4->Prop}(ae:bQ P t pl)(i:Nat)(f:ak w b e cs)(ac:cs[(pl[i]?.getD (0,0)).1]?=σ v)(ah:pl[i]?=σ (a,z+1):=by rfl)(h:k3 P u=s2:=by kernel_rfl):
  ad P (u6 t (Γ b) i) w (λx=>ad P (u5 u x) w (K x))=K (.pointer (σ ⟨b,0+a,ν⟩)) v:=by
 rw[ah]at ac;rw[aZ ae ah,aF h (f.cell (by rw[V0];exact ac))]
theorem aO{u:o4}{pl:List (Nat×Nat)}{b a z:Nat}{K:x4->x4->x4->Prop}(ae:bQ P t pl)(i:Nat)(f:ak w b e cs)(ac:cs[(pl[i]?.getD (0,0)).1]?=σ v)(ah:pl[i]?=σ (a,z+1):=by rfl)(h:k3 P u=s2:=by kernel_rfl):
  ad P (b0 (Γ b)) w (λy=>ad P (u6 t y i) w (λx=>ad P (u5 u x) w (K y x)))=K (Γ b) (.pointer (σ ⟨b,0+a,ν⟩)) v:=by
 rw[b5,aP ae i f ac ah h]
theorem BC{a f:o8}{k:Nat}{K:x4->x5->Prop}(r:P.underlying t=σ (.slice e))(hi:aU P e k j z)(B:n*j<=281474976710656)(C:n<=9223372036854775807)(h:∀g I,g=w.heap.size->Ext w I->ak I g e (eb z.cells (n*k))->K (.slice (σ ⟨g,0,ν⟩) n n) I):aL P (Instr.makeSlice t (.int a (n:Int)) (.int f (n:Int))) w K:=by
 obtain⟨i,hi,rfl,rfl,s⟩:=hi;have x:(i.bytes:Int)*(n:Int)<=281474976710656:=by
  rw[Int.mul_comm];have h:((n*i.bytes:Nat):Int)<=281474976710656:=Ω
  rwa [Int.natCast_mul]at h
 have q:=run_make w t e i z r hi s a f n n Ω (T3 _) x Ω;have hm:madeCells z.cells ((n:Int).toNat*i.size)=(eb z.cells (n*i.size)).toArray:=by rw[eb,Array.toArray_toList];rfl
 rw[hm]at q;obtain⟨h1,y,A⟩:=tQ w (eb z.cells (n*i.size)) e;exact .of q A (h _ _ rfl y h1)
theorem Lx(v:x4)(n:Nat):eb #[v] n=o5 n v:=by
 apply List.ext_getElem
 .simp[eb]
 .intro i h1 a;simp[eb,Nat.mod_one]
theorem kD{f j:o8}{a:Nat}{K:x4->x5->Prop}(q:P.underlying t=σ (.slice e))(hi:aU P e 1 a (.int k 0))(r:n*a<=281474976710656)(s:n<=9223372036854775807)(h:∀g I,g=w.heap.size->Ext w I->ak I g e (ints k (o5 n 0))->K (.slice (σ ⟨g,0,ν⟩) n n) I):aL P (Instr.makeSlice t (.int f (n:Int)) (.int j (n:Int))) w K:=
 BC q hi r s λg I x J y=>h g I x J (by
  have e:eb (V3 k 0).cells (n*1)=ints k (o5 n 0):=by rw[U3];show eb #[_] n=_;rw[Lx];simp[ints]
  rw[<-e];exact y)
theorem fA{pl:List (Nat×Nat)}{b o k a:Nat}(hu:bQ P t pl)(hi:aU P t k a z)(e:cs.length=k)(h:w.rangeAt b o cs):ad P (do loadVar t (<-asAddr (.pointer (σ ⟨b,o,ν⟩)))) w K=K (.agg cs.toArray):=ad.of λI J=>by
 obtain⟨f,hu,_⟩:=hu;have:=run_loadVar_mid I b o t cs (.struct f) (pm J h) hu rfl (by rw[hi.size,e]);simp only[asAddr,W5,V2,Result.andThen_ok,this]
theorem Ly(h:vs.length=cs.length):over cs 0 vs=vs:=by
 rw[oi Ω];simp[h]
theorem cd{k f g:Nat}{K:Unit->x5->Prop}(hi:aU P t k f z)(j:vs.length=k)(x:cs.length=k)(ac:∀v∈vs,v.oneCell'=s2)(q:ak w g e cs)(h:∀I,ai (λr=>r=g) w I->I.heap.size=w.heap.size->ak I g e vs->K () I):aL P (o7 t (Γ g) (.agg vs.toArray)) w K:=
 Bz hi j ac q Ω λI h1 s a=>h I h1 s (by rw[Ly Ω]at a;exact a)
end
section
variable{P:X8}{w I ab:x5}{t:o4}{cx cy:Bool}{k:o8}{a b:Int}{A B:Prop}{x y z:x4}{K:x4->Prop}
theorem bA:ad P (Z7 (.tuple #[x,y]) 0) w K=K x:=gd rfl
theorem bB:ad P (Z7 (.tuple #[x,y]) 1) w K=K y:=gd rfl
theorem fN:ad P (Z7 (.tuple #[x,y,z]) 0) w K=K x:=gd rfl
theorem fO:ad P (Z7 (.tuple #[x,y,z]) 1) w K=K y:=gd rfl
theorem fP:ad P (Z7 (.tuple #[x,y,z]) 2) w K=K z:=gd rfl
theorem bK(h:a<b)(e:A):ad P (aS .lss t cx cy (.int k a) (.int k b)) w λv=>Split v A B:=by
 rw[aW,ao];exact⟨λ_=>e,λf=>m6 h f⟩
theorem ck(h:¬a<b)(e:B):ad P (aS .lss t cx cy (.int k a) (.int k b)) w λv=>Split v A B:=by
 rw[aW,ao];exact⟨λf=>m6 f h,λ_=>e⟩
theorem Ext.put{g:Nat}(J:Ext w I)(a:ai (λr=>r=g) I ab)(h:w.heap.size<=g):Ext w ab:=J.then a λr e he=>by
 have he:r=g:=he;omega
theorem aJ{α:Type}{l:List α}{i:Nat}(h:i<l.length):∃x,l[i]?=σ x:=⟨_,v8 h⟩
end
abbrev aj:=Nat->Prop
def lN(S:aj)(w:x5)(k:Nat)(v:x4)(n:Nat)(cs:List x4):Prop:=
 cs.length=n*k/\∃b o base cap,v= .slice base n cap/\n<=cap/\cap<=maxLen/\(0<n->base=σ ⟨b,o,ν⟩)/\(0<cs.length->S b)/\w.rangeAt b o cs
theorem lN.sl{S:aj}{k:Nat}(h:lN S w k v n cs):cj w k v n cs:=by
 obtain⟨h1,b,o,base,cap,a,e,f,j,_,q⟩:=h;exact⟨h1,b,o,base,cap,a,e,f,j,q⟩
theorem BD{b o:Nat}(h:w.rangeAt b o cs)(a:0<cs.length):b<w.heap.size:=by
 have:=h 0 cs[0] (v8 a)
 grind [w2]
theorem lN.aa{S T:aj}{k:Nat}(h:lN S w k v n cs)(J:ai T w I)(y:∀r,r<w.heap.size->S r->¬T r):lN S I k v n cs:=by
 obtain⟨h1,b,o,base,cap,a,e,f,q,s,z⟩:=h;refine⟨h1,b,o,base,cap,a,e,f,q,s,?_⟩;rcases Nat.eq_zero_or_pos cs.length with x|x
 .intro j v ac;grind
 grind [iz,BD]
theorem lN.Y{S T:aj}{k:Nat}(h:lN S w k v n cs)(f:∀r,r<w.heap.size->S r->T r):lN T w k v n cs:=by
 obtain⟨h1,b,o,base,cap,j,q,s,x,y,a⟩:=h;exact⟨h1,b,o,base,cap,j,q,s,x,λe=>f b (BD a e) (y e),a⟩
class aw(α:Type) where
 n:Nat
 rep:Bool->aj->aj->x5->List x4->α->Prop
 len:∀{m S R w cs a},rep m S R w cs a->cs.length=n
 one:∀{m S R w cs a},rep m S R w cs a->∀u∈cs,u.oneCell'=s2
 aa:∀{m S R T w I cs a},rep m S R w cs a->ai T w I->(∀r,r<w.heap.size->S r\/R r->¬T r)->rep m S R I cs a
 Y:∀{m S S' R R' w cs a},rep m S R w cs a->(∀r,r<w.heap.size->S r->S' r)->(∀r,r<w.heap.size->R r->R' r)->rep m S' R' w cs a
 j8:∀{m S R w cs a},rep m S R w cs a->rep sp (λ_=>False) (λr=>S r\/R r) w cs a
section
variable{α β:Type}[aw α][aw β]{m:Bool}{S R T:aj}{w I:x5}
abbrev bw(S R:aj)(w:x5)(cs:List x4)(a:α):Prop:=aw.rep s2 S R w cs a
abbrev Seen(R:aj)(w:x5)(cs:List x4)(a:α):Prop:=aw.rep sp (λ_=>False) R w cs a
abbrev fB:aj:=λ_=>True
theorem bD{a:α}(h:aw.rep m S R w cs a)(J:Ext w I):aw.rep m S R I cs a:=aw.aa h (J.aa λ_=>False) λ_ _ _ h=>h
theorem nE{a:α}(h:aw.rep m S R w cs a):aw.rep m (λr=>S r/\r<w.heap.size) R w cs a:=aw.Y h (by grind) λ_ _ h=>h
theorem jJ{a:α}(h:aw.rep m S R w cs a):Seen fB w cs a:=aw.Y (aw.j8 h) (by grind) (by grind)
theorem qx{a:α}{Q:aj}(h:aw.rep m S R w cs a)(e:∀r,r<w.heap.size->S r\/R r->Q r):Seen Q w cs a:=aw.Y (aw.j8 h) (by grind) e
instance:aw Int where
 n:=1
 rep _ _ _ _ cs a:=cs=[Δ a]
 len h:=by grind
 one h:=by subst h;intro u hu;simp at hu;subst hu;rfl
 aa h _ _:=h
 Y h _ _:=h
 j8 h:=h
instance:aw Bool where
 n:=1
 rep _ _ _ _ cs a:=cs=[.bool a]
 len h:=by grind
 one h:=by subst h;intro u hu;simp at hu;subst hu;rfl
 aa h _ _:=h
 Y h _ _:=h
 j8 h:=h
instance:aw ByteArray where
 n:=1
 rep _ _ _ _ cs a:=cs=[.string a]
 len h:=by grind
 one h:=by subst h;intro u hu;simp at hu;subst hu;rfl
 aa h _ _:=h
 Y h _ _:=h
 j8 h:=h
def nF(_:o8):Type:=Int
instance (k:o8):aw (nF k) where
 n:=1
 rep _ _ _ _ cs a:=cs=[.int k a]
 len h:=by grind
 one h:=by subst h;intro u hu;simp at hu;subst hu;rfl
 aa h _ _:=h
 Y h _ _:=h
 j8 h:=h
def Rd(α:Type):Type:=α
instance VD:aw (Rd α) where
 n:=aw.n α
 rep _ _ R w cs a:=aw.rep (α:=α) sp (λ_=>False) R w cs a
 len h:=aw.len (α:=α) h
 one h:=aw.one (α:=α) h
 aa h J f:=by grind [aw.aa]
 Y h _ e:=aw.Y (α:=α) h (λ_ _ h=>h) e
 j8 h:=aw.Y (α:=α) h (λ_ _ h=>h) (by grind)
instance VE:aw (α×β) where
 n:=aw.n α+aw.n β
 rep m S R w cs a:=∃c d A B,cs=c++d/\(∀r,A r->S r)/\(∀r,B r->S r)/\(m=s2->∀r,A r->¬B r)/\aw.rep m A R w c a.1/\aw.rep m B R w d a.2
 len:=by
  grind [aw.len]
 one:=by
  grind [aw.one]
 aa:=by
  rintro m S R T w I cs a ⟨c,d,A,B,rfl,e,f,j,h1,q⟩ J s;exact⟨c,d,A,B,rfl,e,f,j,by grind [aw.aa],by grind [aw.aa]⟩
 Y:=by
  rintro m S S' R R' w cs a ⟨c,d,A,B,rfl,e,f,j,h1,q⟩ s x;exact⟨c,d,λr=>A r/\r<w.heap.size,λr=>B r/\r<w.heap.size,rfl,by grind,by grind,by grind,
   by grind [aw.Y],by grind [aw.Y]⟩
 j8:=by
  rintro m S R w cs a ⟨c,d,A,B,rfl,e,f,j,h1,q⟩;exact⟨c,d,λ_=>False,λ_=>False,rfl,λ_ h=>h.elim,λ_ h=>h.elim,by grind,aw.Y (aw.j8 h1) (λ_ _ h=>h) (by grind),
   aw.Y (aw.j8 q) (λ_ _ h=>h) (by grind)⟩
def nG(m:Bool)(R:aj)(F:Nat->aj)(w:x5)(vs:List (List x4))(l:List α):Prop:=
 vs.length=l.length/\∀(i:Nat)(c:List x4)(a:α),vs[i]?=σ c->l[i]?=σ a->aw.rep m (F i) R w c a
structure BE(m:Bool)(S:aj)(g:Nat)(F:Nat->aj):Prop where
 sub:∀i r,F i r->S r
 top:m=s2->∀i,¬F i g
 ii:m=s2->∀i j r,i≠j->F i r->¬F j r
theorem nG.len{F:Nat->aj}{vs:List (List x4)}{l:List α}(h:nG m R F w vs l):∀c∈vs,c.length=aw.n α:=by
 intro c a;obtain⟨i,hi,rfl⟩:=List.mem_iff_getElem.1 a;exact aw.len (h.2 i _ _ (v8 hi) (v8 (h.1▸hi)))
theorem nG.one{F:Nat->aj}{vs:List (List x4)}{l:List α}(h:nG m R F w vs l):∀u∈vs.flatten,u.oneCell'=s2:=by
 intro u hu;obtain⟨c,a,hu⟩:=List.mem_flatten.1 hu;obtain⟨i,hi,rfl⟩:=List.mem_iff_getElem.1 a;exact aw.one (h.2 i _ _ (v8 hi) (v8 (h.1▸hi))) u hu
theorem tR{k:Nat}:∀{vs:List (List x4)},(∀c∈vs,c.length=k)->vs.flatten.length=vs.length*k
 :=by
 intro a;induction a<;>grind
theorem ps{k:Nat}:∀{vs:List (List x4)},(∀c∈vs,c.length=k)->∀{i j:Nat}{c:List x4},vs[i]?=σ c->j<k->vs.flatten[i*k+j]?=c[j]?
 |gw::r,h,0,j,c,a,e=>by
  grind
 |gw::r,h,i+1,j,c,a,e=>by
  simp only[List.getElem?_cons_succ]at a;have f:=h gw (.head _);rw[List.flatten_cons,X3 (by grind),f,T7,show i*k+1*k+j-k=i*k+j by omega];exact ps (by grind) a e
 |[],_,i,_,c,a,_=>by simp at a
instance instList:aw (List α) where
 n:=1
 rep m S R w cs l:=∃v,cs=[v]/\∃(vs:List (List x4))(g:Nat)(F:Nat->aj),BE m S g F/\nG m R F w vs l/\lN (λr=>S r\/R r) w (aw.n α) v l.length vs.flatten/\
  (m=s2->(v= .slice ν 0 0\/S g)/\∃e,b7 w g e (aw.n α) v l.length vs.flatten)
 len:=by grind
 one:=by
  rintro m S R w cs a ⟨v,rfl,vs,g,F,_,_,⟨_,_,_,_,_,rfl,_⟩,_⟩ u hu;simp at hu;subst hu;rfl
 aa:=by
  rintro m S R T w I cs a ⟨v,rfl,vs,g,F,ae,he,V,hm⟩ J y;refine⟨v,rfl,vs,g,F,ae,⟨he.1,λi c a q s=>aw.aa (he.2 i c a q s) J λr z h=>y r z (h.imp (ae.sub i r) id)⟩,V.aa J y,λh=>?_⟩;obtain⟨h1,e,f⟩:=hm h;refine⟨h1,e,?_⟩;rcases h1 with rfl|h1
  .obtain⟨A,⟨_,x⟩|⟨_,_,x,_⟩⟩:=f
   .exact⟨A,.inl ⟨rfl,x⟩⟩
   .cases x
  .exact f.aa J (by grind)
 Y:=by
  rintro m S S' R R' w cs a ⟨v,rfl,vs,g,F,ae,he,V,hm⟩ y B;refine⟨v,rfl,vs,g,λi r=>F i r/\r<w.heap.size,⟨λi r h=>y r h.2 (ae.sub i r h.1),λh i f=>ae.top h i f.1,λh i j r C h1 f=>ae.ii h i j r C h1.1 f.1⟩,
   ⟨he.1,λi c a q s=>aw.Y (he.2 i c a q s) (by grind) B⟩,V.Y (by grind),λh=>?_⟩
  obtain⟨h1,e,f⟩:=hm h;refine⟨?_,e,f⟩;obtain⟨_,⟨x,_⟩|⟨_,_,x,E,_⟩⟩:=f
  all_goals grind [ak.lt]
 j8:=by
  rintro m S R w cs a ⟨v,rfl,vs,g,F,ae,he,V,hm⟩;exact⟨v,rfl,vs,g,λ_ _=>False,⟨λ_ _ h=>h,by grind,by grind⟩,
   ⟨he.1,λi c a q s=>aw.Y (aw.j8 (he.2 i c a q s)) (λ_ _ h=>h) λr _ h=>h.imp (ae.sub i r) id⟩,by grind,by grind⟩
end
section
variable{P:X8}{w:x5}{α β:Type}[aw α][aw β]{m:Bool}{S R:aj}
theorem jK{l:List α}(h:aw.rep m S R w [v] l):∃(vs:List (List x4))(g:Nat)(F:Nat->aj),BE m S g F/\nG m R F w vs l/\lN (λr=>S r\/R r) w (aw.n α) v l.length vs.flatten/\
  (m=s2->(v= .slice ν 0 0\/S g)/\∃e,b7 w g e (aw.n α) v l.length vs.flatten):=by
 obtain⟨_,a,h⟩:=h;cases a;exact h
theorem k6{a:α}(h:aw.rep m S R w [v] a):v.oneCell'=s2:=aw.one h v (.head _)
theorem lO{l:List α}(h:aw.rep m S R w [v] l):v.cells= #[v]:=by
 obtain⟨_,_,_,_,_,⟨_,_,_,_,_,rfl,_⟩,_⟩:=jK h;rfl
theorem pt{l:List α}(h:aw.rep m S R w [v] l):l.length<=9223372036854775807:=by
 obtain⟨_,_,_,_,_,h,_⟩:=jK h;have:=h.sl.le;simpa[maxLen]using this
theorem gx:aw.rep m S R w [.slice ν 0 0] ([]:List α):=
 ⟨_,rfl,[],0,λ_ _=>False,⟨λ_ _ h=>h.elim,λ_ _ h=>h,λ_ _ _ _ _ h=>h.elim⟩,⟨rfl,λi c a e=>by simp at e⟩,
  ⟨Ξ,0,0,ν,0,rfl,o6 _,W3 _,λh=>m6 h (Nat.lt_irrefl _),λh=>by simp at h,λj v h=>by simp at h⟩,
  λ_=>⟨.inl rfl,0,b7.nil w 0 0 _⟩⟩
theorem BF{F:Nat->aj}{vs:List (List x4)}(h:nG m R F w vs l):vs.flatten=ints .i64 l:=by
 have:vs=l.map λx=>[V3 .i64 x]:=by
  apply List.ext_getElem
  .simp[h.1]
  .intro i h1 a;have e:i<l.length:=by simpa using a
   have:=h.2 i _ _ (v8 h1) (v8 e);rw[List.getElem_map];exact this
 subst this;clear h;induction l with
 |nil=>rfl
 |cons x l f=>simp only[List.map_cons,List.flatten_cons,f];rfl
theorem ew(h:aw.rep m S R w [v] l):aQ .i64 w v l:=by
 obtain⟨vs,g,F,_,he,V,_⟩:=jK h;have:=V.sl;rw[BF he]at this;exact this
theorem ij{a:o4}{l:List α}(f:P.underlying t=σ (.slice e))(h:aw.rep m S R w [v] l):
  ad P (X7 #[t] a #[v]) w K=K (Δ l.length):=by
 obtain⟨_,_,_,_,_,⟨_,_,_,_,_,rfl,_⟩,_⟩:=jK h;exact ji f
theorem k7{A:o8}{i b:Nat}{l:List α}{a:α}(B:y=(i:Int))(C:P.underlying t=σ (.slice e))(hi:aU P e (aw.n α) b z)(h:aw.rep m S R w [v] l)(f:l[i]?=σ a)(E:∀b o cs,w.rangeAt b o cs->aw.rep m S R w cs a->K (.pointer (σ ⟨b,o,ν⟩))):ad P (n9 t v (.int A y)) w K:=by
 subst B;obtain⟨vs,g,F,ae,he,⟨_,b,o,base,cap,rfl,_,_,G,_,H⟩,_⟩:=jK h;have q:=(x6.1 f).1;rw[e2 C hi q G];obtain⟨c,s⟩:∃c,vs[i]?=σ c:=⟨_,v8 (by rw[he.1];exact q)⟩;have x:=he.2 i c a s f;have I:=aw.len x;refine E _ _ c (λj u hu=>?_) (aw.Y x (λr _ h=>ae.sub i r h) λ_ _ h=>h);have J:=(x6.1 hu).1;rw[Nat.add_assoc];refine H (i*aw.n α+j) u ?_;rw[ps he.len s Ω];exact hu
theorem kf{q:o8}{i b:Nat}{l:List α}{a:α}(r:aw.n α=1)(s:y=(i:Int))(x:P.underlying t=σ (.slice e))(hi:aU P e (aw.n α) b z)(h1:k3 P e=s2)(h:aw.rep m S R w [v] l)(A:l[i]?=σ a)(B:∀u,aw.rep m S R w [u] a->K u):
  ad P (n9 t v (.int q y)) w λp=>ad P (u5 e p) w K:=by
 refine k7 s x hi h A λb o cs C f=>?_;have j:=aw.len f;rw[r]at j;obtain⟨u,rfl⟩:=X9.1 j;rw[aF h1 (by have:=C 0 u rfl;simpa using this)];exact B u f
theorem nH{pl:List (Nat×Nat)}{j:o8}{i b:Nat}{l:List α}{a:α}(hu:bQ P e pl)(q:y=(i:Int))(r:P.underlying t=σ (.slice e))(hi:aU P e (aw.n α) b z)(h:aw.rep m S R w [v] l)(s:l[i]?=σ a)(x:∀cs,aw.rep m S R w cs a->K (.agg cs.toArray)):
  ad P (n9 t v (.int j y)) w λp=>ad P (u5 e p) w K:=by
 refine k7 q r hi h s λb o cs A f=>?_;rw[bI hu hi (aw.len f) A];exact x cs f
theorem pu{g:Nat}{k:Nat}(h:b7 w g e k v n xs)(a:v= .slice ν 0 0\/S g):lN S w k v n xs:=by
 obtain⟨h1,⟨rfl,rfl⟩|⟨cap,cs,rfl,f,q,r,x,s⟩⟩:=h
 .have:xs=[]:=b8 (by simpa using h1);subst this;exact⟨Ξ,0,0,ν,0,rfl,o6 _,W3 _,λh=>m6 h (Nat.lt_irrefl _),λh=>by simp at h,λj v h=>by simp at h⟩
 .refine⟨h1,g,0,_,cap,rfl,q,r,λ_=>rfl,λ_=>a.resolve_left Ξ,λj v ac=>?_⟩;rw[V0];have y:=(x6.1 ac).1;rw[<-s,V1 Ω]at ac;exact f.cell ac
open Classical in
theorem BG{U Y Z:o4}{b:Nat}{x:x4}{us:List (List x4)}{l l':List α}{G:Nat->aj}{K:x4->x5->Prop}(ab:P.underlying t=σ (.slice e))(ad:P.underlying U=σ (.slice Y))(hi:aU P e (aw.n α) b z)(af:z.cells.size=aw.n α)(h:bw S R w [v] l)(J:cj w (aw.n α) x l'.length us.flatten)(L:nG s2 R G w us l')(ag:∀i j r,i≠j->G i r->¬G j r)(C:∀r,r<w.heap.size->S r->(∀i,¬G i r)/\¬R r)(ah:(l.length+l'.length)*b<=140737488355328)(ak:l.length+l'.length<=9223372036854775807)(al:∀q I,bw (λr=>S r\/(∃i,G i r)\/w.heap.size<=r) R I [q] (l++l')->ai S w I->K q I):aL P (c9 #[t,U] Z #[v,x]) w K:=by
 obtain⟨vs,g,F,ae,he,V,hm⟩:=jK h;obtain⟨M,aq,W⟩:=hm rfl;refine BA ab ad hi af W J L.one ah (by simpa[maxLen]using ak) ?_;intro q E I am an N O;have Q:∀r,r=g/\v≠ .slice ν 0 0->S r:=λr ⟨h1,f⟩=>h1▸M.resolve_left f;have ao:=W;have T:(q= .slice ν 0 0)\/(E=g/\S g/\g<w.heap.size)\/E=w.heap.size:=by
  rcases an with⟨h1,_,f|f⟩|⟨h1,_⟩
  .rcases M with s|s
   .exact .inl (f▸s)
   .obtain⟨_,⟨y,_⟩|⟨_,_,_,y,_⟩⟩:=ao
    .exact .inl (f▸y)
    .exact .inr (.inl ⟨h1,s,y.lt⟩)
  .exact .inr (.inl ⟨h1,M.resolve_left f.2,f.1⟩)
  .exact .inr (.inr h1)
 refine al q I ⟨q,rfl,vs++us,if q= .slice ν 0 0 then w.heap.size else E,λi r=>if i<l.length then F i r/\r<w.heap.size else G (i-l.length) r/\r<w.heap.size,⟨λi r h=>?_,λ_ i h=>?_,λ_ i j r ap h1 f=>?_⟩,⟨by simp[he.1,L.1],λi c a hi H=>?_⟩,?_,λ_=>⟨?_,am,?_⟩⟩ (O.Y λr _ h=>Q r h)
 .split at h
  .exact .inl (ae.sub i r h.1)
  .exact .inr (.inl ⟨_,h.1⟩)
 .have A:(if q= .slice ν 0 0 then w.heap.size else E)<w.heap.size:=by split at h<;>exact h.2
  split at A
  .omega
  .rename_i ac;rw[m5 ac]at h;rcases T with h1|⟨rfl,f,s⟩|h1
   .exact ac h1
   .split at h
    .exact ae.top rfl i h.1
    .exact (C _ s f).1 _ h.1
   .omega
 .split at h1<;>split at f
  .exact ae.ii rfl i j r ap h1.1 f.1
  .exact (C r h1.2 (ae.sub i r h1.1)).1 _ f.1
  .exact (C r h1.2 (ae.sub j r f.1)).1 _ h1.1
  .exact ag (i-l.length) (j-l.length) r Ω h1.1 f.1
 .have X:∀r,r<w.heap.size->R r->¬(r=g/\v≠ .slice ν 0 0):=λr B h1 f=>(C r B (Q r f)).2 h1;by_cases A:i<l.length
  .rw[V9 (by rw[he.1];exact A)]at hi;rw[V9 A]at H;simp only[m3 A];refine aw.aa (nE (he.2 i c a hi H)) O λr B h1 f=>?_;rcases h1 with h1|h1
   .exact ae.top rfl i (f.1▸h1.1)
   .exact X r B h1 f
  .rw[X3 (by rw[he.1];omega),he.1]at hi;rw[X3 Ω]at H;simp only[m5 A];refine aw.aa (nE (L.2 _ c a hi H)) O λr B h1 f=>?_;rcases h1 with h1|h1
   .exact (C r B (Q r f)).1 _ h1.1
   .exact X r B h1 f
 .rw[j6,List.flatten_append];refine pu N ?_;rcases T with h1|⟨rfl,f,_⟩|rfl
  .exact .inl h1
  .exact .inr (.inl (.inl f))
  .exact .inr (.inl (.inr (.inr (o6 _))))
 .rcases T with h1|⟨rfl,f,_⟩|rfl
  .exact .inl h1
  .by_cases ac:q= .slice ν 0 0
   .exact .inl ac
   .rw[m5 ac];exact .inr (.inl f)
  .split
   .exact .inr (.inr (.inr (o6 _)))
   .exact .inr (.inr (.inr (o6 _)))
 .rw[j6,List.flatten_append];by_cases ac:q= .slice ν 0 0
  .subst ac;obtain⟨s,⟨_,y⟩|⟨_,_,y,_⟩⟩:=N
   .exact⟨s,.inl ⟨rfl,y⟩⟩
   .cases y
  .rw[m5 ac];exact N
theorem oj{H:o4}{b:Nat}{x:x4}{l:List α}{a:α}{A:aj}{K:x4->x5->Prop}(C:P.underlying t=σ (.slice e))(hi:aU P e (aw.n α) b z)(L:z.cells.size=aw.n α)(h:bw S R w [v] l)(J:cj w (aw.n α) x 1 cs)(M:bw A R w cs a)(E:∀r,r<w.heap.size->S r->¬(A r\/R r))(f:(l.length+1)*b<=140737488355328)(N:l.length+1<=9223372036854775807)(O:∀q I,bw (λr=>S r\/A r\/w.heap.size<=r) R I [q] (l++[a])->ai S w I->K q I):aL P (c9 #[t,t] H #[v,x]) w K:=by
 refine BG (us:=[cs]) (G:=λi r=>i=0/\A r) C C hi L h (by simpa using J) ⟨rfl,λi c b s f=>?_⟩ (λi j r Q h1 y=>Q (h1.1.F y.1.symm)) (λr F V=>⟨λi h=>E r F V (.inl h.2),λh=>E r F V (.inr h)⟩) (by simpa using f) (by simpa using N)
  λq I h1 y=>O q I (aw.Y h1 (λr _ h=>h.imp id (Or.imp (λ⟨_,h⟩=>h.2) id)) λ_ _ h=>h) y
 have B:=(x6.1 s).1;have B:i=0:=by simpa using B
 subst B;simp at s f;subst s f;exact aw.Y M (λr _ h=>⟨rfl,h⟩) λ_ _ h=>h
end
theorem BH:∀(c:List x4)(i:Nat)(z:Array x4),(i+c.length<=z.size)->((c.zipIdx i).foldl (λcs (x:x4×Nat)=>cs.setIfInBounds x.2 x.1) z).toList=z.toList.take i++c++z.toList.drop (i+c.length)
 |[],i,z,h=>Ξ
 |x::r,i,z,h=>by
  simp only[W0]at h;rw[List.zipIdx_cons,List.foldl_cons,BH r (i+1) _ Θ];simp only[Array.toList_setIfInBounds,W0];rw[List.drop_set_of_lt Ω,List.take_set,u9,v8 Θ];simp only[j4];rw[U7 _ _ Θ];have e:i-(z.toList.take i).length=0:=Θ
  rw[e,show i+1+r.length=i+(r.length+1) by omega];simp
theorem BI{k:Nat}{z:Array x4}(a:z.size=k)(ac:v.cells.size=k):Instr.fill (λj=>σ (j*k,k)) z [(0,v)]=σ v.cells:=by
 have h:=BH v.cells.toList 0 z Θ;simp only[Instr.fill,Nat.zero_mul,V0];rw[m5 Θ];congr 1;apply Array.toList_inj.1;rw[<-Array.foldl_toList,Array.toList_zipIdx,h];simp;omega
section
variable{P:X8}{w:x5}{α β:Type}[aw α][aw β]{m:Bool}{S R:aj}
theorem jL{b:Nat}{x:x4}{a:α}{A:aj}{K:x4->x5->Prop}(C:P.underlying t=σ (.slice e))(hi:aU P e (aw.n α) b z)(N:aw.n α<=100000)(J:x.cells=cs.toArray)(s:bw A R w cs a)(E:∀v I,Ext w I->bw (λr=>A r\/w.heap.size<=r) R I [v] [a]->cj I (aw.n α) v 1 cs->K v I):aL P (Y3 t 1 #[(0,x)]) w K:=by
 have F:=aw.len s;refine k5 C hi Ω (cs:=x.cells) (BI Ξ (by rw[J];simpa using F)) λg I O y f=>?_;have f:ak I g e cs:=by rw[J]at f;simpa using f
 have hm:b7 I g e (aw.n α) (.slice (σ ⟨g,0,ν⟩) 1 1) 1 cs:=b7.full f Ω (by simp[maxLen]);refine E _ I y ⟨_,rfl,[cs],g,λi r=>i=0/\A r/\r<w.heap.size,⟨λi r h=>.inl h.2.1,λ_ i h=>Ω,λ_ i j r G h1 H=>G (h1.1.F H.1.symm)⟩,⟨rfl,λi c a' q B=>?_⟩,?_,λ_=>⟨.inr (.inr Ω),e,by simpa using hm⟩⟩ hm.sl
 .have L:i=0:=by simpa using(x6.1 q).1
  subst L;simp at q B;subst q B;exact bD (aw.Y s (λr M h=>⟨rfl,h,M⟩) λ_ _ h=>h) y
 .have:=pu (S:=λr=>(A r\/w.heap.size<=r)\/R r) hm (.inr (.inl (.inr Ω)));simpa using this
end
theorem b3.range{B:x4->x5->(x4->x5->Prop)->Prop}(n:Nat)(a:Nat->x5->Prop)(e:n<=9223372036854775807)(f:a 0 w)(h:∀(i:Nat)(w:x5)(k:x4->x5->Prop),i<n->a i w->(∀I,a (i+1) I->k (Δ (X4.wrap ((i:Int)+1))) I)->B (Δ (i:Int)) w k)(j:∀(w:x5)(k:x4->x5->Prop),a n w->B (Δ (n:Int)) w k):b3 (Δ 0) w B:=by
 refine⟨λt w=>∃i:Nat,t=Δ (i:Int)/\i<=n/\a i w,λt _=>n-(b1 t).toNat,by grind,?_⟩
 grind [lm,b1]
theorem cp.range{a:x4}{B:x4->x4->x5->(x4->x4->x5->Prop)->Prop}(n:Nat)(e:Nat->x4->x5->Prop)(f:n<=9223372036854775807)(h:e 0 a w)(j:∀(i:Nat)(a:x4)(w:x5)(k:x4->x4->x5->Prop),i<n->e i a w->(∀a' I,e (i+1) a' I->k a' (Δ (X4.wrap ((i:Int)+1))) I)->B a (Δ (i:Int)) w k)(q:∀(a:x4)(w:x5)(k:x4->x4->x5->Prop),e n a w->B a (Δ (n:Int)) w k):cp a (Δ 0) w B:=by
 refine⟨λa t w=>∃i:Nat,t=Δ (i:Int)/\i<=n/\e i a w,λa t _=>n-(b1 t).toNat,by grind,?_⟩
 grind [lm,b1]
theorem lH.range{a b:x4}{B:x4->x4->x4->x5->(x4->x4->x4->x5->Prop)->Prop}(n:Nat)(e:Nat->x4->x4->x5->Prop)(h:n<=9223372036854775807)(j:e 0 a b w)(q:∀(i:Nat)(a b:x4)(w:x5)(k:x4->x4->x4->x5->Prop),i<n->e i a b w->(∀a' f I,e (i+1) a' f I->k a' f (Δ (X4.wrap ((i:Int)+1))) I)->B a b (Δ (i:Int)) w k)(r:∀(a b:x4)(w:x5)(k:x4->x4->x4->x5->Prop),e n a b w->B a b (Δ (n:Int)) w k):lH a b (Δ 0) w B:=by
 refine⟨λa b t w=>∃i:Nat,t=Δ (i:Int)/\i<=n/\e i a b w,λa b t _=>n-(b1 t).toNat,by grind,?_⟩
 grind [lm,b1]
theorem rx.range{a b c:x4}{B:x4->x4->x4->x4->x5->(x4->x4->x4->x4->x5->Prop)->Prop}(n:Nat)(e:Nat->x4->x4->x4->x5->Prop)(j:n<=9223372036854775807)(q:e 0 a b c w)(r:∀(i:Nat)(a b c:x4)(w:x5)(k:x4->x4->x4->x4->x5->Prop),i<n->e i a b c w->(∀a' f h I,e (i+1) a' f h I->k a' f h (Δ (X4.wrap ((i:Int)+1))) I)->B a b c (Δ (i:Int)) w k)(s:∀(a b c:x4)(w:x5)(k:x4->x4->x4->x4->x5->Prop),e n a b c w->B a b c (Δ (n:Int)) w k):rx a b c (Δ 0) w B:=by
 refine⟨λa b c t w=>∃i:Nat,t=Δ (i:Int)/\i<=n/\e i a b c w,λa b c t _=>n-(b1 t).toNat,by grind,?_⟩
 grind [lm,b1]
theorem ry.range{a b c d:x4}{B:x4->x4->x4->x4->x4->x5->(x4->x4->x4->x4->x4->x5->Prop)->Prop}(n:Nat)(e:Nat->x4->x4->x4->x4->x5->Prop)(q:n<=9223372036854775807)(r:e 0 a b c d w)(s:∀(i:Nat)(a b c d:x4)(w:x5)(k:x4->x4->x4->x4->x4->x5->Prop),i<n->e i a b c d w->(∀a' f h j I,e (i+1) a' f h j I->k a' f h j (Δ (X4.wrap ((i:Int)+1))) I)->B a b c d (Δ (i:Int)) w k)(x:∀(a b c d:x4)(w:x5)(k:x4->x4->x4->x4->x4->x5->Prop),e n a b c d w->B a b c d (Δ (n:Int)) w k):ry a b c d (Δ 0) w B:=by
 refine⟨λa b c d t w=>∃i:Nat,t=Δ (i:Int)/\i<=n/\e i a b c d w,λa b c d t _=>n-(b1 t).toNat,by grind,?_⟩
 grind [lm,b1]
section
variable{P:X8}{w:x5}{m:Bool}{S R:aj}
theorem Lz(l:Λ):(l.map λx=>[V3 k x]).flatten=ints k l:=by
 induction l<;>grind
theorem mr{g:Nat}(h:aH .i64 e w g v l):bw (λr=>r=g) R w [v] l:=by
 have ah:(l.map λx=>[V3 .i64 x]).flatten=ints .i64 l:=Lz l;refine⟨v,rfl,l.map λx=>[Δ x],g,λ_ _=>False,⟨by grind,λ_ _ h=>h,by grind⟩,⟨Ξ,λi c a f j=>?_⟩,?_,λ_=>⟨.inr rfl,e,?_⟩⟩
 .rw[u4,j]at f;simp at f;exact f.symm
 .rw[ah];exact pu h Ω
 .rw[ah];exact h
def nF.val(x:nF k):Int:=x
theorem BJ(h:bw S R w [v] l):∃g e,aH .i64 e w g v l/\(v= .slice ν 0 0\/S g):=by
 obtain⟨vs,g,F,_,he,V,hm⟩:=jK h;obtain⟨h1,e,a⟩:=hm rfl;rw[BF he]at a;exact⟨g,e,a,h1⟩
end
end Go.Vc
namespace Go.Proofs.YtlcdcbgoaljiiaaGreatDoor
open Go Go.Vc Go.RowKit Go.Proofs Go.Proofs.Tryz
set_option maxRecDepth 100000
def right(k:Int):Prop:=1<=k/\k<=2147483648
def cE(a k:Int):Prop:=right k/\0<=a/\a<=k
instance (k:Int):Decidable (right k):=by unfold right;infer_instance
instance (a k:Int):Decidable (cE a k):=by unfold cE;infer_instance
theorem BK{k:Int}:aq x8 KI [Δ k] w λv I=>v= .bool (decide (right k))/\Ext w I:=by
 refine aE func235 ?_;simp only[cG,cU,lL,ao];refine⟨λh=>⟨?_,Ext.refl _⟩,λh=>⟨?_,Ext.refl _⟩⟩
 .congr 1;simp[right,h]
 .rw[rc];intro a;exact h a.1
theorem k8{k:Int}:aq x8 Kr [Δ a,Δ k] w λv I=>v= .bool (decide (cE a k))/\Ext w I:=by
 refine aE func211 ?_;simp only[cG];refine BK.Y ?_;rintro _ U _ ⟨rfl,J⟩;simp only[cU,lL,ao];refine⟨λh=>⟨λe=>⟨?_,J⟩,λe=>⟨?_,J⟩⟩,λh=>⟨?_,J⟩⟩
 .congr 1;simp[cE,h,e]
 .rw[rc];intro f;exact e f.2.1
 .rw[rc];intro f;exact h f.1
theorem LA{k:Int}:aq x8 Kp [Δ k] w λv I=>v= .bool (decide (right k))/\Ext w I:=by
 refine aE func209 ?_;simp only[cG,bW,lL,ao];refine⟨λh=>⟨?_,Ext.refl _⟩,λh=>⟨?_,Ext.refl _⟩⟩
 .congr 1;have be:1<=k:=Ω
  simp[right,be]
 .rw[rc];intro a;have:=a.1;omega
theorem BL{k:Int}:aq x8 Jx [Δ a,Δ k] w λv I=>v= .bool (decide (cE a k))/\Ext w I:=by
 refine aE func138 ?_;simp only[cG];refine LA.Y ?_;rintro _ U _ ⟨rfl,J⟩;simp only[cU,lL,ao];refine⟨λh=>⟨λe=>⟨?_,J⟩,λe=>⟨?_,J⟩⟩,λh=>⟨?_,J⟩⟩
 .congr 1;simp[cE,h,e]
 .rw[rc];intro f;exact e f.2.1
 .rw[rc];intro f;exact h f.1
def aV:Λ->Int
 |[]=>1
 |x::r=>x*aV r
theorem BM:∀(a b:Λ),aV (a++b)=aV a*aV b
 |[],b=>by simp[aV]
 |x::a,b=>by simp[aV,BM a b,Int.mul_assoc]
theorem qy{i:Nat}{x:Int}(h:l[i]?=σ x):aV (l.take (i+1))=aV (l.take i)*x:=by
 rw[u9,h,BM];simp[aV]
def cn(l:Λ):Prop:=l.length<=6/\∀x∈l,1<=x/\x<=32
theorem cn.take(h:cn l)(i:Nat):cn (l.take i):=⟨by rw[Z3];have:=h.1;omega,λx J=>h.2 x (List.mem_of_mem_take J)⟩
theorem cn.drop(h:cn l)(i:Nat):cn (l.drop i):=⟨by rw[List.length_drop];have:=h.1;omega,λx J=>h.2 x (List.mem_of_mem_drop J)⟩
theorem mu:∀(l:Λ),(∀x∈l,1<=x/\x<=32)->1<=aV l/\aV l<=32 ^ l.length
 |[],_=>by simp[aV]
 |x::r,h=>by
  obtain⟨h1,a⟩:=mu r λy e=>h y (.tail _ e);obtain⟨f,j⟩:=h x (.head _);simp only[aV,W0];constructor
  .have:=Int.mul_le_mul f h1 Ω Ω;simpa using this
  .have:=Int.mul_le_mul j a Ω Ω;rw[Int.pow_succ];rw[Int.mul_comm (32 ^ r.length) 32];exact this
theorem prod_bound(h:cn l):1<=aV l/\aV l<=1073741824:=by
 obtain⟨h1,a⟩:=mu l h.2;refine⟨h1,Int.le_trans a ?_⟩;have:(32:Int) ^ l.length<=32 ^ 6:=by
  have e:=h.1
  match l.length,e with
  |0,_=>decide
  |1,_=>decide
  |2,_=>decide
  |3,_=>decide
  |4,_=>decide
  |5,_=>decide
  |6,_=>decide
 simpa using this
def cr:Λ->Λ->Int->Option Int
 |[],[],n=>σ n
 |k::s,v::t,n=>if 0<=v/\v<k then cr s t (n*k+v)else ν
 |_,_,_=>ν
theorem w7:∀(s t:Λ)(n:Int),s.length≠t.length->cr s t n=ν
 |[],[],_,h=>m6 rfl h
 |[],_::_,_,_=>rfl
 |_::_,[],_,_=>rfl
 |k::s,v::t,n,h=>by
  unfold cr;split
  .exact w7 s t _ (by simpa using h)
  .rfl
def du:Λ->Int->Λ
 |[],_=>[]
 |k::s,n=>(n / aV s) % k::du s n
theorem kE:∀(s:Λ)(n:Int),(du s n).length=s.length
 |[],_=>rfl
 |_::s,n=>by simp[du,kE s n]
theorem BN:∀{s:Λ}{n:Int}{i:Nat}{k:Int},s[i]?=σ k->(du s n)[i]?=σ ((n / aV (s.drop (i+1))) % k)
 |a::s,n,0,k,h=>by simp at h;subst h;simp[du]
 |a::s,n,i+1,k,h=>by
  simp only[List.getElem?_cons_succ]at h;simp only[du,List.getElem?_cons_succ,List.drop_succ_cons];exact BN h
theorem mv:∀{s t:Λ}{m n:Int},(∀x∈s,1<=x/\x<=32)->cr s t m=σ n->m*aV s<=n/\n<(m+1)*aV s
 |[],[],m,n,_,h=>by simp[cr]at h;subst h;simp[aV];omega
 |k::s,v::t,m,n,V,h=>by
  unfold cr at h;split at h
  .rename_i ac;have a:=mv (λx J=>V x (.tail _ J)) h;have ae:=(mu s λx J=>V x (.tail _ J)).1;simp only[aV];have e:m*(k*aV s)=m*k*aV s:=(Int.mul_assoc _ _ _).symm;have f:(m+1)*(k*aV s)=(m*k+k)*aV s:=by rw[<-Int.mul_assoc,Int.add_mul,Int.one_mul]
   rw[e,f];constructor
   .refine Int.le_trans ?_ a.1;exact Int.mul_le_mul_of_nonneg_right Ω Ω
   .refine Int.lt_of_lt_of_le a.2 ?_;exact Int.mul_le_mul_of_nonneg_right Ω Ω
  .cases h
 |[],_::_,_,_,_,h=>by cases h
 |_::_,[],_,_,_,h=>by cases h
def bt:Λ->List (Λ)
 |[]=>[[]]
 |k::s=>(Y9 k.toNat).flatMap λ(v:Nat)=>(bt s).map λt=>(v:Int)::t
theorem kF:∀{s:Λ},(∀x∈s,1<=x/\x<=32)->(bt s).length=(aV s).toNat
 |[],_=>rfl
 |k::s,h=>by
  have a:=kF λx J=>h x (.tail _ J);have hk:=h k (.head _);have ae:=(mu s λx J=>h x (.tail _ J)).1;simp only[bt,aV,List.length_flatMap,r9,a];rw[List.map_const',List.length_range,List.sum_replicate_nat,Int.toNat_mul Ω Ω]
theorem tS:∀{s x:Λ},x∈bt s->x.length=s.length
 |[],x,h=>by simp[bt]at h;subst h;rfl
 |k::s,x,h=>by
  simp only[bt,List.mem_flatMap,l9]at h;obtain⟨v,_,t,a,rfl⟩:=h;simp[tS a]
theorem BO{s x:Λ}(h:(bt s)[j]?=σ x):x.length=s.length:=tS (x7 h)
theorem qz(h:aQ .i64 w sv l)(V:cn l):
  aq x8 Ja [.agg #[sv]] w λv I=>v=Δ (aV l)/\Ext w I:=by
 refine aE func95 ?_;refine br λg w0 j e f=>?_;rw[aP bL.p 0 f rfl,ba au.u (h.W e)];refine⟨λn t U=>Ext w U/\∃i:Nat,t=Δ i/\i<=l.length/\n=Δ (aV (l.take i)),λ_ t _=>l.length-(b1 t).toNat,⟨e,0,rfl,W3 _,rfl⟩,?_⟩;rintro _ _ U ⟨J,i,rfl,hi,rfl⟩;have q:=V.1;simp only[aW,ao];refine⟨λr=>?_,λs=>⟨?_,J⟩⟩
 .obtain⟨x,a⟩:=aJ (l:=l) (i:=i) Ω;rw[bp au.u al.i Ψ (h.W J) a];have ae:=prod_bound (V.take (i+1));rw[qy a]at ae;simp only[fL,aT];rw[lm Ω Ω,lm Ω Ω,<-qy a];refine⟨⟨J,i+1,rfl,Ω,rfl⟩,?_⟩;simp only[b1];omega
 .have:i=l.length:=Ω
  rw[this,o9]
theorem LB{i:Nat}(h:aQ .i64 w sv l)(V:cn l)(hi:i<l.length):
  aq x8 JN [.agg #[sv],Δ i] w λv I=>v=Δ (aV (l.drop (i+1)))/\Ext w I:=by
 have A:=V.1;refine aE func157 ?_;refine br λg w0 B e f=>?_;have a:=h.W e;simp only[cG,aW,ao];refine⟨λC=>Ω,λ_=>?_⟩;rw[aP bL.p 0 f rfl,ba au.u a];simp only[cU,ao];refine⟨λE=>Ω,λ_=>?_⟩;rw[aP bL.p 0 f rfl];simp only[aT];have j:X4.wrap ((i:Int)+1)=((i+1:Nat):Int):=by rw[lm Ω Ω];omega
 rw[j];have r:=a;obtain⟨_,b,o,base,cap,rfl,G,H,J,K⟩:=id a;rw[iA au.u al.i rQ k4 fy Ω Ω Ω];have ae:=cj.part (l:=i+1) (h:=l.length) (m:=cap) r Ω Ω Ω Ω;generalize s:(x4.slice (if cap=i+1 then base else V6 (λx=>x.add ((i+1)*1)) base) (l.length-(i+1)) (cap-(i+1)))=q at ae ⊢;have y:((ints .i64 l).drop ((i+1)*1)).take ((l.length-(i+1))*1)=ints .i64 (l.drop (i+1)):=by
  rw[j5 Ξ,U3,ints,<-List.map_drop]
 rw[y]at ae;rw[dn (cs:=#[q]) (by subst s;kernel_rfl)];refine(qz (aQ.of ae) (V.drop (i+1))).Y ?_;rintro _ ab _ ⟨rfl,z⟩;exact⟨rfl,e.F z⟩
def mw(s t:Λ):x4:=match cr s t 0 with
 |some n=>.tuple #[Δ n,Δ 0]
 |none=>.tuple #[Δ 0,Δ 3]
theorem BP{s t:Λ}(h:aQ .i64 w sv s)(j:aQ .i64 w aX t)(V:cn s):
  aq x8 JL [.agg #[sv],aX] w λv I=>v=mw s t/\Ext w I:=by
 have E:=V.1;refine aE func154 ?_;refine br λg w0 G a q=>?_;rw[ba au.u (j.W a),aP bL.p 0 q rfl,ba au.u (h.W a)];simp only[bO,ao];refine⟨λH=>⟨?_,a⟩,λy=>?_⟩
 .unfold mw;rw[w7 _ _ _ Ω]
 .have y:s.length=t.length:=Ω
  rw[ba au.u (j.W a)];refine⟨λ_ _ n c U=>Ext w0 U/\∃(i:Nat)(m:Int),c=Δ i/\i<=t.length/\n=Δ m/\0<=m/\m<aV (s.take i)/\cr s t 0=cr (s.drop i) (t.drop i) m,λ_ _ _ c _=>t.length-(b1 c).toNat,
   ⟨Ext.refl _,0,0,rfl,W3 _,rfl,T3 _,by simp[aV],rfl⟩,?_⟩
  rintro _ _ _ _ U ⟨f,i,m,rfl,hi,rfl,z,K,e⟩;have J:=a.F f;simp only[aW,ao];refine⟨λL=>?_,λM=>⟨?_,J⟩⟩
  .obtain⟨v,ac,A⟩:∃v,t[i]?=σ v/\t.drop i=v::t.drop (i+1):=⟨t[i],v8 Ω,X2 Ω⟩;obtain⟨k,hk,B⟩:∃k,s[i]?=σ k/\s.drop i=k::s.drop (i+1):=⟨s[i],v8 Ω,X2 Ω⟩;rw[A,B]at e;have ae:=prod_bound (V.take (i+1));have N:=prod_bound (V.take i);have O:=V.2 k (x7 hk);rw[qy hk]at ae;have r:¬(0<=v/\v<k)->mw s t= .tuple #[Δ 0,Δ 3]:=λC=>by unfold mw;rw[e];simp[cr,C]
   rw[bp au.u al.i Ψ (j.W J) ac];simp only[cG,aW,ao,bT];refine⟨λP=>⟨(r Ω).symm,J⟩,λQ=>?_⟩;rw[aP bL.p 0 (q.W f) rfl,bp au.u al.i Ψ (h.W J) hk];simp only[cU,ao];refine⟨λR=>⟨(r Ω).symm,J⟩,λS=>?_⟩;rw[aP bL.p 0 (q.W f) rfl,bp au.u al.i Ψ (h.W J) hk];have W:0<=m*k/\m*k+k<=aV (s.take i)*k:=by
    constructor
    .exact Int.mul_nonneg z Ω
    .have:=Int.mul_le_mul_of_nonneg_right (show m+1<=aV (s.take i) by omega) (show 0<=k by omega);rw[Int.add_mul,Int.one_mul]at this;exact this
   simp only[fL,aT];rw[lm (x:=m*k) Ω Ω,lm (x:=m*k+v) Ω Ω,lm Ω Ω];refine⟨⟨f,i+1,m*k+v,rfl,Ω,rfl,Ω,by rw[qy hk];omega,?_⟩,?_⟩
   .rw[e];simp[cr,show 0<=v/\v<k from⟨Ω,Ω⟩]
   .simp only[b1];omega
  .have:i=t.length:=Ω
   rw[this,List.drop_of_length_le Ω,List.drop_of_length_le Ω]at e;unfold mw;rw[e];rfl
theorem LC{e:Nat}{a b:Λ}(h1:cj w 1 s1 e (ints .i64 a))(A:cj w 1 z h (ints .i64 b)):
  aq x8 Bc [s1,z] w λv I=>v= .bool (decide (a=b))/\Ext w I:=by
 have Q:a.length=e:=by simpa using h1.1
 have R:b.length=h:=by simpa using A.1
 have B:=h1.le;obtain⟨_,S,V,W,X,rfl,Y,Z,G,H⟩:=h1;obtain⟨_,aa,ac,ad,ae,rfl,af,ag,K,L⟩:=A;refine aE func185 ?_;simp only[ji au.u,bO,ao];refine⟨λC=>⟨?_,Ext.refl _⟩,λE=>?_⟩
 .rw[rc];rintro rfl;omega
 .have E:e=h:=Ω
  refine⟨λt4 j U=>Ext w U/\∃i:Nat,j=Δ i/\i<=e/\a.take i=b.take i,λ_ j _=>e-(b1 j).toNat,⟨Ext.refl _,0,rfl,W3 _,rfl⟩,?_⟩;rintro t4 _ U ⟨J,i,rfl,hi,q⟩;simp only[aW,ao,et];refine⟨λr ab M _ _=>?_,λah=>⟨?_,J⟩⟩
  .have r:i<e:=Ω
   have J:=J.F M;obtain⟨x,s⟩:=aJ (l:=a) (i:=i) Ω;obtain⟨y,f⟩:=aJ (l:=b) (i:=i) Ω;have N:=kd J (H i _ (mq s));have O:=kd J (L i _ (mq f));rw[e2 au.u al.i r G,U3,aF Ψ N,e2 au.u al.i (E▸r) K,U3,aF Ψ O];simp only[bO,ao,aT];refine⟨λC=>⟨?_,J⟩,λai=>⟨⟨J,i+1,?_,Ω,w5 q s f Ω⟩,?_⟩⟩
   .rw[rc];rintro rfl;rw[s]at f;cases f;exact C rfl
   .rw[lm Ω (by simp only[maxLen]at B;omega)];rfl
   .rw[lm Ω (by simp only[maxLen]at B;omega)];simp only[b1];omega
  .have P:i=e:=Ω
   subst P;rw[ms];rw[j5 Ω,j5 Ω]at q;exact q
theorem LD{s:x4}{a:Λ}(h1:cj w 1 s n (ints .i64 a))(B:n<=1000000):
  aq x8 AY [s] w λv I=>Ext w I/\∃g,w.heap.size<=g/\b7 I g al 1 v n (ints .i64 a):=by
 have f:=h1;obtain⟨j,C,E,G,H,rfl,K,L,q,M⟩:=h1;refine aE func87 ?_;simp only[tN au.u,b4];refine⟨λe=>⟨Ext.refl _,w.heap.size,o6 _,?_⟩,λ_=>?_⟩
 .have:n=0:=by
   rcases Nat.eq_zero_or_pos n with h|h
   .exact h
   .rw[q h]at e;cases e
  subst this;have:ints .i64 a=[]:=b8 (by simpa using j);rw[this];exact b7.nil _ _ _ _
 .refine k5 au.u al.i Ω (cs:=#[]) Ψ ?_;intro g U N J x;refine pr au.u au.u al.i rfl (b7.full x rfl Ω) (f.W J) (rR _ _) Ω (by simp only[maxLen];omega) ?_;intro O y ab P z A;refine⟨J.then A (by rintro r Q rfl;omega),y,?_,?_⟩
  .have:=J.size;omega
  .simpa using z
theorem LF{e:Nat}{a b:Λ}(h1:cj w 1 s1 e (ints .i64 a))(A:cj w 1 z h (ints .i64 b)):
  aq x8 AR [s1,z] w λv I=>v= .bool (decide (a=b))/\Ext w I:=by
 have Q:a.length=e:=by simpa using h1.1
 have R:b.length=h:=by simpa using A.1
 have B:=h1.le;obtain⟨_,S,V,W,X,rfl,Y,Z,G,H⟩:=h1;obtain⟨_,aa,ac,ad,ae,rfl,af,ag,K,L⟩:=A;refine aE func21 ?_;simp only[ji aA.u,bO,ao];refine⟨λC=>⟨?_,Ext.refl _⟩,λE=>?_⟩
 .rw[rc];rintro rfl;omega
 .have E:e=h:=Ω
  refine⟨λt4 j U=>Ext w U/\∃i:Nat,j=Δ i/\i<=e/\a.take i=b.take i,λ_ j _=>e-(b1 j).toNat,⟨Ext.refl _,0,rfl,W3 _,rfl⟩,?_⟩;rintro t4 _ U ⟨J,i,rfl,hi,q⟩;simp only[aW,ao,et];refine⟨λr ab M _ _=>?_,λah=>⟨?_,J⟩⟩
  .have r:i<e:=Ω
   have J:=J.F M;obtain⟨x,s⟩:=aJ (l:=a) (i:=i) Ω;obtain⟨y,f⟩:=aJ (l:=b) (i:=i) Ω;have N:=kd J (H i _ (mq s));have O:=kd J (L i _ (mq f));rw[e2 aA.u ay.i r G,U3,aF Ψ N,e2 aA.u ay.i (E▸r) K,U3,aF Ψ O];simp only[bO,ao,aT];refine⟨λC=>⟨?_,J⟩,λai=>⟨⟨J,i+1,?_,Ω,w5 q s f Ω⟩,?_⟩⟩
   .rw[rc];rintro rfl;rw[s]at f;cases f;exact C rfl
   .rw[lm Ω (by simp only[maxLen]at B;omega)];rfl
   .rw[lm Ω (by simp only[maxLen]at B;omega)];simp only[b1];omega
  .have P:i=e:=Ω
   subst P;rw[ms];rw[j5 Ω,j5 Ω]at q;exact q
theorem LG{s:x4}{a:Λ}(h1:cj w 1 s n (ints .i64 a))(B:n<=1000000):
  aq x8 Be [s] w λv I=>Ext w I/\∃g,w.heap.size<=g/\b7 I g ay 1 v n (ints .i64 a):=by
 have f:=h1;obtain⟨j,C,E,G,H,rfl,K,L,q,M⟩:=h1;refine aE func200 ?_;simp only[tN aA.u,b4];refine⟨λe=>⟨Ext.refl _,w.heap.size,o6 _,?_⟩,λ_=>?_⟩
 .have:n=0:=by
   rcases Nat.eq_zero_or_pos n with h|h
   .exact h
   .rw[q h]at e;cases e
  subst this;have:ints .i64 a=[]:=b8 (by simpa using j);rw[this];exact b7.nil _ _ _ _
 .refine k5 aA.u ay.i Ω (cs:=#[]) Ψ ?_;intro g U N J x;refine pr aA.u aA.u ay.i rfl (b7.full x rfl Ω) (f.W J) (rR _ _) Ω (by simp only[maxLen];omega) ?_;intro O y ab P z A;refine⟨J.then A (by rintro r Q rfl;omega),y,?_,?_⟩
  .have:=J.size;omega
  .simpa using z
theorem LH{e:x4}{a b:Λ}(h1:aQ .i64 w s1 a)(f:aQ .i64 w e b):
  aq x8 Bc [s1,e] w λv I=>v= .bool (decide (a=b))/\Ext w I:=LC h1 f
theorem my{s:x4}{a:Λ}(h1:aQ .i64 w s a)(e:a.length<=1000000):
  aq x8 AY [s] w λv I=>Ext w I/\∃g,w.heap.size<=g/\aH .i64 al I g v a:=LD h1 e
theorem LI{e:x4}{a b:Λ}(h1:aQ .i64 w s1 a)(f:aQ .i64 w e b):
  aq x8 AR [s1,e] w λv I=>v= .bool (decide (a=b))/\Ext w I:=LF h1 f
theorem w8{s:x4}{a:Λ}(h1:aQ .i64 w s a)(e:a.length<=1000000):
  aq x8 Be [s] w λv I=>Ext w I/\∃g,w.heap.size<=g/\aH .i64 ay I g v a:=LG h1 e
theorem LJ{n:Int}(h:aQ .i64 w sv l)(V:cn l)(x:0<=n)(X:n<aV l):
  aq x8 Jb [.agg #[sv],Δ n] w λv I=>Ext w I/\∃aX g,v= .tuple #[aX,Δ 0]/\w.heap.size<=g/\aH .i64 al I g aX (du l n):=by
 have Y:=V.1;have Z:=prod_bound V;refine aE func96 ?_;refine br λg w0 aa y a=>?_;have ac:=h.cells;simp only[cG,aW,ao];refine⟨λad=>Ω,λ_=>?_⟩;rw[bI bL.p bL.i rfl a.range];refine(qz (h.W y) V).Y ?_;rintro _ U _ ⟨rfl,f⟩;simp only[cU,ao];refine⟨λae=>Ω,λ_=>?_⟩;have j:=y.F f;rw[aP bL.p 0 (a.W f) rfl,ba au.u (h.W j)];refine kD au.u al.i Ω Ω ?_;intro E ab af z K;simp only[ji au.u];have L:=j.F z;have s0:=y.size;have s1:=f.size;have ag:=a.lt;refine⟨λt q=>Ext w q/\Ext w0 q/\∃i:Nat,t=Δ i/\i<=l.length/\ak q E al (ints .i64 ((du l n).take i++o5 (l.length-i) 0)),λt _=>l.length-(b1 t).toNat,
  ⟨L,f.F z,0,rfl,W3 _,by simpa using K⟩,?_⟩
 rintro _ q ⟨A,B,i,rfl,hi,G⟩;simp only[aW,ao];refine⟨λC=>?_,λah=>?_⟩
 .have C:i<l.length:=Ω
  rw[bI bL.p bL.i rfl (a.W B).range];refine(LB (h.W A) V C).Y ?_;rintro _ ai _ ⟨rfl,M⟩;simp only[et];intro aj N _ _;have s:=M.F N;have H:=A.F s;obtain⟨k,hk⟩:∃k,l[i]?=σ k:=⟨l[i],v8 Ω⟩;have am:=V.2 k (x7 hk);have an:=prod_bound (V.drop (i+1));have O:0<=n / aV (l.drop (i+1)):=Int.ediv_nonneg x Ω;have ap:n / aV (l.drop (i+1))<=n:=Int.ediv_le_self _ x;rw[oh Ω,Int.tdiv_eq_ediv_of_nonneg x,lm Ω Ω,
   aP bL.p 0 ((a.W B).W s) rfl,bp au.u al.i Ψ (h.W H) hk,
   rO Ω,Int.tmod_eq_emod_of_nonneg O,e2 au.u al.i C (λ_=>rfl),U3]
  refine bs al.i rfl rfl (G.W s) (by simp[kE];omega) ?_;intro av J aw P;simp only[aT];rw[lm Ω Ω];have ax:=z.size;have ay:=j.size;refine⟨⟨H.then J (by rintro r Q rfl;omega),(B.F s).then J (by rintro r Q rfl;omega),i+1,rfl,Ω,?_⟩,?_⟩
  .have R:=BN (n:=n) hk;have e:(ints .i64 ((du l n).take i++o5 (l.length-i) 0)).set (0+i) (Δ (n / aV (l.drop (i+1)) % k))=ints .i64 ((du l n).take (i+1)++o5 (l.length-(i+1)) 0):=by
    have S:((du l n).take i).length=i:=by rw[Z3,kE];omega
    rw[V0,ints,<-U2];congr 1;rw[List.set_append,m5 Ω,S,V7,show l.length-i=(l.length-(i+1))+1 by omega,List.replicate_succ,List.set_cons_zero,u9,R];simp
   rw[<-e];exact P
  .simp only[b1];omega
 .have W:i=l.length:=Ω
  subst W;refine⟨A,_,E,rfl,by have:=j.size;omega,aH.of (b7.full ?_ (by simp[ints,kE]) (by simp[maxLen];omega))⟩;have e:(du l n).take l.length++o5 (l.length-l.length) 0=du l n:=by rw[V7,j5 (by rw[kE];omega)];simp
  rw[<-e];exact G
def jM(x:Int):Prop:=1<=x/\x<=32
instance (x:Int):Decidable (jM x):=by unfold jM;infer_instance
theorem LK{x:Int}:aq x8 tK [Δ x] w λv I=>v= .bool (decide (¬jM x))/\Ext w I:=by
 refine aE func293 ?_;simp only[cG,aW,bW,ao];refine⟨λh=>⟨?_,Ext.refl _⟩,λh=>⟨?_,Ext.refl _⟩⟩
 .rw[ms];intro a;have:=a.1;omega
 .congr 1;have:(32<x)=(¬jM x):=propext ⟨λe a=>by have:=a.2;omega,λe=>by
   by_cases f:32<x
   .exact f
   .exact m6 ⟨Ω,Ω⟩ e⟩
  simp only[this]
theorem LL(h:aQ .i64 w sv l):
  aq x8 wP [sv,.func (.func tK) #[] #[]] w λv I=>Ext w I/\∃n:Int,v=Δ n/\((0<=n)=¬∀x∈l,jM x):=by
 have z:=h.le;refine aE func136 ?_;rw[ba au.u h];refine⟨λ_ t U=>Ext w U/\∃i:Nat,t=Δ i/\i<=l.length/\∀x∈l.take i,jM x,λ_ t _=>l.length-(b1 t).toNat,⟨Ext.refl _,0,rfl,W3 _,Ξ⟩,?_⟩;rintro _ _ U ⟨J,i,rfl,hi,e⟩;simp only[aW,ao];refine⟨λA=>?_,λB=>⟨J,-1,rfl,?_⟩⟩
 .obtain⟨x,f⟩:=aJ (l:=l) (i:=i) Ω;rw[bp au.u al.i Ψ (h.W J) f];show aq x8 tK [Δ x] U _;refine LK.Y ?_;rintro _ ab _ ⟨rfl,j⟩;simp only[ao,aT];refine⟨λq=>⟨J.F j,i,rfl,?_⟩,λr=>?_⟩
  .exact propext ⟨λ_ s=>q (s x (x7 f)),λ_=>Ω⟩
  .rw[lm Ω Ω];refine⟨⟨J.F j,i+1,rfl,Ω,λy a=>?_⟩,?_⟩
   .rw[u9,f]at a;rcases j9.1 a with a|a
    .exact e y a
    .simp at a;subst a;exact X1.1 r
   .simp only[b1];omega
 .have:i=l.length:=Ω
  rw[this,o9]at e;exact propext ⟨λh=>Ω,λh=>m6 e h⟩
theorem LM(h:aQ .i64 w sv l):
  aq x8 wS [sv,.func (.func tK) #[] #[]] w λv I=>v= .bool (decide (¬∀x∈l,jM x))/\Ext w I:=by
 refine aE func231 ?_;refine(LL h).Y ?_;rintro _ U _ ⟨J,n,rfl,a⟩;simp only[cU];exact⟨by congr 1;simp only[a],J⟩
def LN(w:x5)(l:Λ)(v:x4)(I:x5):Prop:=
 Ext w I/\
   (¬cn l->v= .tuple #[.agg #[.slice ν 0 0],Δ 1])/\
   (cn l->4096<aV l->v= .tuple #[.agg #[.slice ν 0 0],Δ 5])/\
   (cn l->aV l<=4096->∃g aX,v= .tuple #[.agg #[aX],Δ 0]/\w.heap.size<=g/\aH .i64 al I g aX l)
theorem LO(h:aQ .i64 w sv l):aq x8 KU [sv] w (LN w l):=by
 refine aE func257 ?_;refine bF bL.i λag U ai a q=>?_;have aj:=q.lt;refine a6 (λv ab=>Ext w ab/\Ext U ab/\∃c:Bool,v= .bool c/\((c=s2)=¬cn l)) ?_ ?_
 .rintro _ ab ⟨J,s,c,rfl,E⟩;simp only[b4];refine⟨λR=>?_,λah=>?_⟩
  .have G:¬cn l:=by rw[<-E];exact R
   rw[dn (cs:=#[.slice ν 0 0]) Ψ];refine cd (vs:=[.slice ν 0 0]) bL.i rfl rfl (by simp;rfl) (q.W s) ?_;intro ak S al W;rw[fA bL.p bL.i rfl W.range];exact⟨J.then S (by rintro r x rfl;omega),λ_=>rfl,λh=>m6 h G,λh=>m6 h G⟩
  .have e:cn l:=by
    have H:¬(c=s2):=by simp[ah]
    rw[E]at H;exact Classical.not_not.1 H
   have am:=e.1;refine(my (h.W J) Ω).Y ?_;rintro aX an _ ⟨y,X,ap,hm⟩;have I:=hm.ls.cells;rw[dn (cs:=#[aX]) (by obtain⟨_,_,_,_,_,rfl,_⟩:=hm.ls;kernel_rfl)];refine bF bL.i λgs av aw z Y=>?_;refine cd (vs:=[aX]) bL.i rfl rfl (by intro u hu;simp at hu;subst hu;exact I.2) Y ?_;intro ax K ay L;rw[bI bL.p bL.i rfl L.range];have aA:=y.size;have aB:=z.size;have aC:=s.size;have aD:=(z.aa _).F K;have A:=z.then K (by rintro r x rfl;omega);have Z:=(J.F y).F A;have M:=hm.W A;refine(qz M.ls e).Y ?_;rintro _ aF _ ⟨rfl,f⟩;have N:=Z.F f;have O:=q.W (((s.F y).F A).F f);simp only[bW,ao];refine⟨λac=>?_,λad=>?_⟩
   .rw[dn (cs:=#[.slice ν 0 0]) Ψ];refine cd (vs:=[.slice ν 0 0]) bL.i rfl rfl (by simp;rfl) O ?_;intro ae j af B;rw[fA bL.p bL.i rfl B.range];exact⟨N.then j (by rintro r x rfl;omega),λh=>m6 e h,λ_ _=>rfl,λ_ h=>Ω⟩
   .rw[bI bL.p bL.i rfl (L.W f).range];refine cd (vs:=[aX]) bL.i rfl rfl (by intro u hu;simp at hu;subst hu;exact I.2) O ?_;intro ae j af B;rw[fA bL.p bL.i rfl B.range];have aG:=a.size;exact⟨N.then j (by rintro r x rfl;omega),λh=>m6 e h,λ_ h=>Ω,λ_ _=>⟨X,aX,rfl,Ω,(M.W f).aa j Ω⟩⟩
 .intro az P;rw[ba au.u (h.W a)];simp only[bW,ao];refine⟨λac=>P _ _ ⟨a,Ext.refl _,s2,rfl,?_⟩,λad=>?_⟩
  .exact propext ⟨λ_ V=>by have:=V.1;omega,λ_=>rfl⟩
  .refine (LM (h.W a)).Y ?_;rintro _ ab _ ⟨rfl,Q⟩;refine P _ _ ⟨a.F Q,Q,_,rfl,?_⟩;rw[ro];exact propext ⟨λC V=>C V.2,λC V=>C ⟨Ω,V⟩⟩
theorem w9{P:X8}(f:0<=a)(h1:a<4294967296):
  ad P (aS .and t cx cy (.int .u64 a) (.int .u64 4294967295)) w K=K (.int .u64 a):=ad.of λI _=>by
 obtain⟨n,rfl⟩:=W9 f;have r:n<4294967296:=Ω
 have e:(U6 64 (n:Int) &&& U6 64 4294967295).toNat=n:=by
  rw[BitVec.toNat_and,BitVec.toNat_ofInt,BitVec.toNat_ofInt];have h:((n:Int) % ((2 ^ 64:Nat):Int)).toNat=n:=Ω
  have j:((4294967295:Int) % ((2 ^ 64:Nat):Int)).toNat=2 ^ 32-1:=Φ
  rw[h,j,Nat.and_two_pow_sub_one_eq_mod];omega
 have q:(U6 U4.bits (n:Int) &&& U6 U4.bits 4294967295).toNat=n:=e;simp only[aS,eqGuard,binOp,Op.intBits,q];rw[lw Ω Ω];rfl
theorem rS{P:X8}(f:0<=a)(h1:a<4294967296):
  ad P (aS .shr t cx cy (.int .u64 a) (.int .u64 32)) w K=K (.int .u64 0):=ad.of λI _=>by
 have e:a.fdiv (2 ^ min 32 U4.bits)=0:=by
  have:(2:Int) ^ min 32 U4.bits=4294967296:=rfl;rw[this,Int.fdiv_eq_ediv_of_nonneg _ Ω];omega
 simp[aS,eqGuard,binOp,Op.shift,e]
theorem LP{x:Int}(J:0<=x/\x<65536)(a:0<=y/\y<65536):
  aq x8 Ld [.int .u64 x,.int .u64 y] w λv I=>v= .tuple #[.int .u64 0,.int .u64 (x*y)]/\Ext w I:=by
 have f:0<=x*y/\x*y<4294967296:=⟨Int.mul_nonneg J.1 a.1,by
  have:x*y<=65535*65535:=Int.mul_le_mul Ω Ω a.1 Ω;omega⟩
 refine aE func294 ?_;refine aq.Y (K:=λv I=>v= .tuple #[.int .u64 0,.int .u64 (x*y)]/\Ext w I) ?_ ?_
 .refine aE func309 ?_;rw[w9 Ω Ω,rS Ω Ω,w9 Ω Ω,rS Ω Ω];simp only[fL,Int.zero_mul,Int.mul_zero];rw[lw Ω Ω,show U4.wrap 0=0 from rfl,rS Ω Ω];simp only[aT,Int.add_zero];rw[show U4.wrap 0=0 from rfl,w9 Ω Ω,rS Ω Ω];simp only[fL,aT,Int.zero_mul,Int.mul_zero,Int.add_zero,show U4.wrap 0=0 from rfl];rw[rS Ω Ω];simp only[fL,aT,Int.add_zero,show U4.wrap 0=0 from rfl];exact⟨trivial,Ext.refl _⟩
 .rintro _ U _ ⟨rfl,e⟩;rw[bA,bB];exact⟨rfl,e⟩
theorem BQ{eO:x4}{c:Int}(h:aQ .i64 w eO [c])(X:n<65536):
  aq x8 KV [eO,Δ n] w λv I=>Ext w I/\∃g,w.heap.size<=g/\aH .i64 ay I g v (o5 n c):=by
 refine aE func258 ?_;refine dd (λU=>w=U) ?_ ?_
 .rintro _ rfl;rw[ba aA.u h,fM al.u qs.u,fM al.u qs.u,lw Ξ Ξ,lw Ω Ω];refine(LP Ξ Ω).Y ?_;rintro _ ab _ ⟨rfl,y⟩;rw[bA,bB];have C:(([c].length:Int)*n)=(n:Int):=Ξ
  rw[C];refine dd (λa=>ab=a) ?_ ?_
  .rintro _ rfl;rw[fM qs.u al.u,lm Ω Ω];refine kD aA.u ay.i Ω Ω ?_;intro g Y Z E G;have J:=y.F E;have aa:=y.size;refine BB aA.u ay.i G (λ_=>rfl) Ξ (h.W J) (rR _ _) ?_;intro ac H ad z;have K:=J.then H (by rintro r L rfl;omega);have st:over (ints .i64 (o5 n 0)) 0 ((ints .i64 [c]).take n)=ints .i64 (o5 (min 1 n) c++o5 (n-min 1 n) 0):=by
    rcases Nat.eq_zero_or_pos n with rfl|ae
    .simp[over]
    .rw[j5 Θ,oi Θ];have:min 1 n=1:=Ω
     simp[this,ints]
   rw[st]at z;refine⟨λt e=>Ext w e/\∃i:Nat,t=Δ i/\i<=n/\(0<n->0<i)/\ak e g ay (ints .i64 (o5 i c++o5 (n-i) 0)),λt _=>n-(b1 t).toNat,
    ⟨K,min 1 n,Ξ,Ω,Ω,z⟩,?_⟩
   rintro _ e ⟨f,i,rfl,hi,af,q⟩;simp only[ji aA.u,aW,ao,et];refine⟨λM N s _ _=>?_,λag=>?_⟩
   .have M:i<n:=Ω
    have A:=q.W s;rw[iA aA.u ay.i rQ k4 fy Ω Ω Ω,
     iA aA.u ay.i ke pp fy Ω Ω Ω]
    have O:cj N 1 (.slice (σ ⟨g,0,ν⟩) n n) n (ints .i64 (o5 i c++o5 (n-i) 0)):=(b7.full A (by simp<;>omega) (by simp[maxLen]<;>omega)).sl;have ae:=O.part (l:=0) (h:=i) (m:=n) Ω Ω Ω Ω;have P:((ints .i64 (o5 i c++o5 (n-i) 0)).drop (0*1)).take ((i-0)*1)=ints .i64 (o5 i c):=by
     simp[ints]
    rw[P]at ae;refine BB aA.u ay.i A (o:=i) (λ_=>?_) (by simp<;>omega) ae (rR _ _) ?_
    .rw[m5 Ω];simp[U8]
    .intro ah Q ai B;have aj:=f.size;have am:=s.size;have R:over (ints .i64 (o5 i c++o5 (n-i) 0)) i ((ints .i64 (o5 i c)).take (n-i))=ints .i64 (o5 (i+min i (n-i)) c++o5 (n-(i+min i (n-i))) 0):=by
      apply Y2;intro j;rw[qv _ _ _ (by simp[ints]<;>omega)];simp only[ints,Z0,List.map_replicate,List.getElem?_append,List.getElem?_take,List.getElem?_replicate,Z3,List.length_replicate]
      repeat' split
      all_goals first|rfl|omega
     rw[R]at B;have S:min (i-0) (n-i)=min i (n-i):=Ω
     simp only[aT,S];have V:X4.wrap ((i:Int)+((min i (n-i):Nat):Int))=((i+min i (n-i):Nat):Int):=by rw[lm Ω Ω];omega
     rw[V];refine⟨⟨(f.F s).then Q (by rintro r L rfl;omega),_,rfl,Ω,Ω,B⟩,?_⟩;simp only[b1,u7];omega
   .have:i=n:=Ω
    subst this;rw[V7,List.replicate_zero,T5]at q;exact⟨f,g,Ω,aH.of (b7.full q Ξ (by simp[maxLen];omega))⟩
  .intro az x;refine a6 (λv a=>v= .bool sp/\ab=a) ?_ ?_
   .rintro _ _ ⟨rfl,rfl⟩;rw[bb];exact x _ rfl
   .intro an W;simp only[bW,ao];refine⟨λh=>Ω,λ_=>W _ _ ⟨?_,rfl⟩⟩;rw[rc];omega
 .intro az x;simp only[aW,ao];exact⟨λh=>Ω,λ_=>x _ rfl⟩
def lc(v:x4)(r:Nat):Prop:=∃a n c,v= .slice (σ a) n c/\a.block=r
theorem ca{g:Nat}(h:aH k e w g v l){r:Nat}(f:lc v r):r=g/\g<w.heap.size:=by
 obtain⟨a,n,c,rfl,rfl⟩:=f;obtain⟨_,⟨h,_⟩|⟨cap,cs,h,j,_⟩⟩:=h
 .cases h
 .cases h;exact⟨rfl,j.lt⟩
theorem bE{g:Nat}(h:aH k e w g v l)(J:ai S w I)(a:∀r,lc v r->¬S r):aH k e I g v l:=by
 refine⟨h.1,h.2.imp id λ⟨cap,cs,h1,f,j⟩=>⟨cap,cs,h1,f.aa J (a g ⟨_,_,_,h1,rfl⟩),j⟩⟩
def dp(w:x5)(g a:Nat)(sv:x4)(an:Λ)(k:Int)(cs:Λ):Prop:=
 (∃bg gs,ak w g c8 [sv,Δ k,bg]/\aH .i64 al w gs sv an/\aH .i64 ay w a bg cs)/\(g≠a/\¬lc sv a/\aV an<=4096)/\cn an/\cs.length=(aV an).toNat
theorem dp.W{g a:Nat}{k:Int}{cs:Λ}(h:dp w g a sv an k cs)(J:Ext w I):dp I g a sv an k cs:=by
 obtain⟨⟨bg,gs,h1,e,f⟩,j⟩:=h;exact⟨⟨bg,gs,h1.W J,e.W J,f.W J⟩,j⟩
def BR(w:x5)(l:Λ)(k a:Int)(v:x4)(I:x5):Prop:=
 Ext w I/\
  (¬cn l->v= .tuple #[.pointer ν,Δ 1])/\
  (cn l->4096<aV l->v= .tuple #[.pointer ν,Δ 5])/\
  (cn l->aV l<=4096->¬cE a k->v= .tuple #[.pointer ν,Δ 3])/\
  (cn l->aV l<=4096->cE a k->∃g e sv,v= .tuple #[Γ g,Δ 0]/\w.heap.size<=g/\w.heap.size<=e/\(∀r,lc sv r->w.heap.size<=r)/\
   dp I g e sv l k (o5 (aV l).toNat a))
theorem xa{k z:Int}(h:aQ .i64 w sv l):aq x8 Kf [sv,Δ k,Δ z] w (BR w l k z):=by
 refine aE func197 ?_;refine(LO h).Y ?_;rintro v U _ ⟨I,W,X,Y⟩;obtain⟨aX,e,rfl,Z,he⟩:∃(aX:x4)(e:Int),v= .tuple #[.agg #[aX],Δ e]/\aX.oneCell'=s2/\
   ((e=1/\¬cn l)\/(e=5/\cn l/\4096<aV l)\/(e=0/\cn l/\aV l<=4096/\∃g,w.heap.size<=g/\aH .i64 al U g aX l)):=by
  by_cases V:cn l
  .by_cases ae:aV l<=4096
   .obtain⟨g,aX,rfl,h1,J⟩:=Y V ae;exact⟨aX,0,rfl,J.ls.cells.2,.inr (.inr ⟨rfl,V,ae,g,h1,J⟩)⟩
   .exact⟨_,_,X V Ω,rfl,.inr (.inl ⟨rfl,V,Ω⟩)⟩
  .exact⟨_,_,W V,rfl,.inl ⟨rfl,V⟩⟩
 rw[bA,bB];refine bF bL.i λaJ ab aK aa ac=>?_;refine cd (vs:=[aX]) bL.i rfl rfl (by intro u hu;simp at hu;subst hu;exact Z) ac ?_;intro aM af aN ag;have K:=aa.then af (by rintro r j rfl;omega);have L:=I.F K;simp only[bO,ao];refine⟨λai=>⟨L,?_⟩,λaO=>?_⟩
 .rcases he with⟨rfl,A⟩|⟨rfl,V,ae⟩|⟨rfl,_⟩
  .exact⟨λ_=>rfl,λh=>m6 h A,λh=>m6 h A,λh=>m6 h A⟩
  .exact⟨λh=>m6 V h,λ_ _=>rfl,λ_ h=>Ω,λ_ h=>Ω⟩
  .exact m6 rfl ai
 .obtain⟨rfl,V,ae,gs,aP,hm⟩:e=0/\cn l/\aV l<=4096/\∃g,w.heap.size<=g/\aH .i64 al U g aX l:=by
   rcases he with⟨rfl,A⟩|⟨rfl,V,ae⟩|h
   .omega
   .omega
   .exact h
  have aR:=prod_bound V;refine k8.Y ?_;rintro _ aS _ ⟨rfl,C⟩;have M:=L.F C;simp only[bR,b4];refine⟨λah=>⟨M,λh=>m6 V h,λ_ h=>Ω,λ_ _ _=>rfl,λ_ _ h=>by simp[h]at ah⟩,λaj=>?_⟩;have ak:cE z k:=by simpa using aj
  simp only[cG,et];intro N E _ _;have am:=M.F E;have B:=(K.F C).F E;have O:=(ag.W C).W E;rw[bI bL.p bL.i rfl O.range,bI bL.p bL.i rfl O.range];have s1:=I.size;have aT:=B.size;have P:((aV l).toNat:Int)=aV l:=Ω
  have Q:∀{x:x5}{s:x4}{y:Nat},Ext N x->N.heap.size<=y->aH .i64 ay x y s (o5 (aV l).toNat z)->
    ad x8 (Instr.build c8 #[(0,.agg #[aX]),(1,Δ k),(2,s)]) x λan=>aL x8 (Instr.box c8 an) x λap R=>BR w l k z (.tuple #[ap,Δ 0]) R:=by
   intro x s y q S j;rw[dn (cs:=#[aX,Δ k,s]) (by
    obtain⟨_,_,_,_,_,rfl,_⟩:=j.ls;obtain⟨_,_,_,_,_,rfl,_⟩:=hm.ls;kernel_rfl)]
   refine br λg R aU G au=>?_;have aW:=q.size;have aw:lc s y:=by
    obtain⟨aY,⟨_,ax⟩|⟨cap,cs,rfl,_⟩⟩:=j
    .simp at ax;omega
    .exact⟨_,_,_,rfl,rfl⟩
   have aZ:=(ca j aw).2;refine⟨(am.F q).F G,λh=>m6 V h,λ_ h=>Ω,λ_ _ h=>m6 ak h,λ_ _ _=>⟨g,y,aX,rfl,Ω,Ω,λr az=>?_,⟨s,gs,au,((hm.W B).W q).W G,j.W G⟩,⟨Ω,λaB=>?_,ae⟩,V,Ξ⟩⟩
   .have:=(ca hm az).1;omega
   .have:=ca hm aB;omega
  constructor
  .refine e3 aA.u ay.i rfl λeO av aC aD a H=>⟨.inl a,?_⟩;refine(qz ((hm.W B).W a).ls V).Y ?_;rintro _ aF _ ⟨rfl,f⟩;refine⟨.inl (a.F f),?_⟩;rw[<-P];refine(BQ (H.W f).ls Ω).Y ?_;rintro s x _ ⟨q,y,S,j⟩;have aG:=a.size;have aI:=f.size;exact⟨.inl ((a.F f).F q),Q ((a.F f).F q) Ω j⟩
  .refine (qz (hm.W B).ls V).Y ?_;rintro _ aC _ ⟨rfl,a⟩;refine⟨.inl a,?_⟩;refine e3 aA.u ay.i rfl λeO av aF aD f H=>⟨.inl (a.F f),?_⟩;rw[<-P];refine(BQ H.ls Ω).Y ?_;rintro s x _ ⟨q,y,S,j⟩;have aG:=a.size;have aI:=f.size;exact⟨.inl ((a.F f).F q),Q ((a.F f).F q) Ω j⟩
theorem pv{g:Nat}{a:List x4}{o:Nat}(h:ak w g e cs)(f:∀j v,a[j]?=σ v->cs[o+j]?=σ v):w.rangeAt g o a:=λj v ac=>h.cell (f j v ac)
theorem BS{g a:Nat}{t:Λ}{k:Int}{cs:Λ}(h:dp w g a sv an k cs)(e:aQ .i64 w aX t):
  aq x8 KZ [Γ g,aX] w λv I=>v=mw an t/\Ext w I:=by
 obtain⟨⟨bg,gs,f,hm,q⟩,_,V,_⟩:=h;refine aE func263 ?_;rw[dj fl.u];simp only[b9,bb];rw[b5,aZ c8.p rfl,bI (cs:=[sv]) bL.p bL.i rfl (pv f (by
  intro j v ac
  match j,ac with
  |0,ac=>exact ac))]
 refine(BP hm.ls e V).Y ?_;rintro _ U _ ⟨rfl,J⟩;unfold mw;cases cr an t 0 with
 |none=>rw[bA,bB];exact⟨rfl,J⟩
 |some n=>rw[bA,bB];exact⟨rfl,J⟩
def tT(an t cs:Λ):x4:=match cr an t 0 with
 |some n=>.tuple #[Δ (cs.getD n.toNat 0),Δ 0]
 |none=>.tuple #[Δ 0,Δ 3]
theorem BT{t cs:Λ}{n:Int}(V:cn an)(a:cs.length=(aV an).toNat)(h:cr an t 0=σ n):n=(n.toNat:Int)/\n.toNat<cs.length:=by
 have:=mv V.2 h;simp only[Int.zero_mul,Int.zero_add,Int.one_mul]at this;omega
theorem xb{g e:Nat}{t:Λ}{k:Int}{cs:Λ}(h:dp w g e sv an k cs)(f:aQ .i64 w aX t):
  aq x8 KR [Γ g,aX] w λv I=>v=tT an t cs/\Ext w I:=by
 refine aE func248 ?_;refine(BS h f).Y ?_;rintro _ U _ ⟨rfl,J⟩;obtain⟨⟨bg,gs,j,hm,q⟩,_,V,r⟩:=h.W J;unfold mw tT;cases hi:cr an t 0 with
 |none=>
  rw[bA,bB];simp only[bO,ao];exact⟨λ_=>⟨trivial,J⟩,λh=>by simp at h⟩
 |some n=>
  obtain⟨s,a⟩:=BT V r hi;rw[bA,bB];simp only[bO,ao];refine⟨λh=>m6 rfl h,λ_=>?_⟩;rw[aO c8.p 2 j rfl,
   fz s aA.u ay.i Ψ q.ls (v8 a)]
  refine⟨?_,J⟩;rw[r8,v8 a];rfl
def tU(an t:Λ)(k c:Int)(cs:Λ):Λ:=match cr an t 0 with
 |some n=>if cE c k then cs.set n.toNat c else cs
 |none=>cs
def BU(an t:Λ)(k c:Int):Int:=match cr an t 0 with
 |some _=>if cE c k then 0 else 3
 |none=>3
theorem LQ{g e:Nat}{t:Λ}{k c:Int}{cs:Λ}(h:dp w g e sv an k cs)(B:aQ .i64 w aX t):
  aq x8 Kh [Γ g,aX,Δ c] w λv I=>v=Δ (BU an t k c)/\ai (λr=>r=e) w I/\dp I g e sv an k (tU an t k c cs):=by
 refine aE func199 ?_;refine(BS h B).Y ?_;rintro _ U _ ⟨rfl,J⟩;have h1:=h.W J;obtain⟨⟨bg,gs,a,hm,f⟩,_,V,j⟩:=h1;unfold mw BU tU;cases hi:cr an t 0 with
 |none=>
  rw[bA,bB];simp only[bO,ao];exact⟨λ_=>⟨trivial,J.aa _,h.W J⟩,λh=>by simp at h⟩
 |some n=>
  obtain⟨O,P⟩:=BT V j hi;rw[bA,bB];simp only[bO,ao];refine⟨λh=>m6 rfl h,λ_=>?_⟩;rw[aO c8.p 1 a rfl];refine k8.Y ?_;rintro _ ab _ ⟨rfl,q⟩;have x:=(h.W J).W q;by_cases y:cE c k
  .simp only[y,decide_true,bR,Y7,bb,if_true];obtain⟨⟨bg,gs,a,hm,f⟩,⟨C,z⟩,V,j⟩:=x;have Q:=f;obtain⟨R,⟨rfl,S⟩|⟨cap,full,rfl,E,G,H,K,A⟩⟩:=f
   .omega
   .rw[aO c8.p 2 a rfl,
     Bx aA.u ay.i Ω Ω (λ_=>rfl)]
    refine bs ay.i rfl rfl E Ω ?_;intro W s X L;refine⟨trivial,((J.F q).aa _).F s,⟨_,gs,a.aa s Ω,bE hm s (λr M N=>z.1 (N▸M)),?_⟩,⟨C,z⟩,V,by simp[j]⟩;refine⟨Ξ,.inr ⟨cap,full.set (0+n.toNat*1) (Δ c),?_,L,by simpa using G,H,by simpa using K,?_⟩⟩
    .simp
    .simp only[Y0,V0,U3]at A ⊢;rw[List.take_set,A,ints,ints,U2]
  .simp only[y,decide_false,bR,X5,bT,if_false];exact⟨trivial,(J.F q).aa _,x⟩
def cZ(b:Int):Bool:=decide (b=32\/b=9\/b=10\/b=13)
def cf(b:Int):Bool:=decide (33<=b/\b<=126)
def pw:Nat->Λ->List (Λ)×Bool
 |0,_=>([],s2)
 |n+1,p=>
  match p.dropWhile cZ with
  |[]=>([],s2)
  |b::q=>
   if cf b then
    match(b::q).dropWhile cf with
    |[]=>([(b::q).takeWhile cf],s2)
    |c::r=>if cZ c then(((b::q).takeWhile cf)::(pw n (c::r)).1,(pw n (c::r)).2)else([],sp)
   else([],sp)
def lex(p:Λ):List (Λ)×Bool:=pw (p.length+1) p
theorem qA(f:Int->Bool):∀(l:Λ),(l.dropWhile f).length<=l.length
 |[]=>o6 _
 |x::l=>by
  rw[List.dropWhile_cons];split
  .exact X0 (qA f l) (Nat.le_succ _)
  omega
theorem tV{f:Int->Bool}{x:Int}(h:f x=s2):((x::l).dropWhile f).length<=l.length:=by
 grind [List.dropWhile_cons,qA]
theorem BV:∀{n m:Nat}{p:Λ},p.length<n->p.length<m->pw n p=pw m p
 |n+1,m+1,p,j,hm=>by
  unfold pw;have h1:=qA cZ p;cases f:p.dropWhile cZ with
  |nil=>rfl
  |cons b q=>
   rw[f]at h1;simp only;by_cases a:cf b=s2
   .rw[m3 a,m3 a];have e:=tV (l:=q) a;cases h:(b::q).dropWhile cf with
    |nil=>rfl
    |cons c r=>
     rw[h]at e;simp only[W0]at h1 e;simp only;rw[BV (n:=n) (m:=m) (p:=c::r) (by grind) (by grind)]
   grind
theorem mz(p:Λ):lex p=match p.dropWhile cZ with
  |[]=>([],s2)
  |b::q=>
   if cf b then
    match(b::q).dropWhile cf with
    |[]=>([(b::q).takeWhile cf],s2)
    |c::r=>if cZ c then(((b::q).takeWhile cf)::(lex (c::r)).1,(lex (c::r)).2)else([],sp)
   else([],sp):=by
 unfold lex
 conv=>lhs;unfold pw
 have h1:=qA cZ p;cases a:p.dropWhile cZ<;>grind [tV,BV]
theorem rT:∀(n:Nat)(p:Λ),p.length<=n->(lex p).1.length<=p.length
 |n,p,s=>by
  rw[mz];have h1:=qA cZ p;cases f:p.dropWhile cZ with
  |nil=>simp
  |cons b q=>
   rw[f]at h1;simp only;by_cases a:cf b=s2
   .rw[m3 a];have e:=tV (l:=q) a;cases h:(b::q).dropWhile cf with
    |nil=>grind
    |cons c r=>
     rw[h]at e;simp only[W0]at h1 e;simp only;by_cases j:cZ c=s2
     .rw[m3 j]
      match n with
      |0=>omega
      |n+1=>
       have:=rT n (c::r) (by grind)
       grind
     grind
   grind
theorem tW:∀(n:Nat)(p:Λ),p.length<=n->∀w∈(lex p).1,w≠[]/\(∀b∈w,cf b=s2)/\w.length<=p.length
 |n,p,y,w,hw=>by
  rw[mz]at hw;have h1:=qA cZ p;cases f:p.dropWhile cZ with
  |nil=>grind
  |cons b q=>
   rw[f]at h1 hw;simp only at hw;have z:(b::q).length<=p.length:=h1;by_cases a:cf b=s2
   .rw[m3 a]at hw;have e:=tV (l:=q) a;have h:(b::q).takeWhile cf≠[]/\(∀x∈(b::q).takeWhile cf,cf x=s2)/\((b::q).takeWhile cf).length<=p.length:=
     by grind [List.takeWhile_cons,List.all_takeWhile,List.takeWhile_sublist]
    cases j:(b::q).dropWhile cf with
    |nil=>
     grind
    |cons c r=>
     rw[j]at e hw;simp only[W0]at h1 e;simp only at hw;by_cases s:cZ c=s2
     .rw[m3 s]at hw;rcases List.mem_cons.1 hw with rfl|hw
      .exact h
      .match n with
       |0=>omega
       |n+1=>
        have:=tW n (c::r) (by grind) w hw
        grind
     grind
   grind
def aD:Int:=4611686018427387904
def gS(b:Int):Bool:=decide (48<=b/\b<=57)
def fQ(n b:Int):Int:=min aD (10*n+(b-48))
def lP:Λ->Option Int
 |[]=>ν
 |l=>if l.all gS then σ (l.foldl fQ 0)else ν
def ik:Λ->Option Int
 |45::l=>(lP l).map λn=>-n
 |l=>lP l
theorem xc:∀{l:Λ}{n:Int},l.all gS=s2->0<=n/\n<=aD->0<=l.foldl fQ n/\l.foldl fQ n<=aD
 :=by
 intro a;induction a<;>grind [gS,fQ]
structure aN where
 hp:List (Λ)
 m1:Int
 big:Bool
 m2:List (Λ×List (Λ×Int))
deriving DecidableEq
def ec(s:aN):Option (Λ×aN):=match s.hp with
 |[]=>ν
 |w::l=>σ (w,{s with hp:=l})
def bq(lo hi:Int)(s:aN):Option (Int×aN):=match ec s with
 |none=>ν
 |some (w,s)=>match ik w with
  |none=>ν
  |some n=>if lo<=n/\n<=hi then σ (n,s)else ν
def bm(b:Bool)(s:aN):aN:={s with big:=s.big||b}
def da{α:Type}(f:List α->aN->Option (α×aN)):Nat->List α->aN->Option (List α×aN)
 |0,acc,s=>σ (acc,s)
 |n+1,acc,s=>match f acc s with
  |none=>ν
  |some (a,s)=>da f n (acc++[a]) s
def fm(n:Int)(a:Nat)(s:aN):Option (Λ×aN):=da (λacc s=>match bq 0 (n-1) s with
 |none=>ν
 |some (v,s)=>if v∈acc then ν else σ (v,s)) a [] s
def kG:Λ->Λ->aN->Option (Λ×aN)
 |[],acc,s=>σ (acc,s)
 |k::l,acc,s=>match bq 0 (k-1) s with
  |none=>ν
  |some (v,s)=>kG l (acc++[v]) s
def eX(d6:Λ)(acc:List (Λ×Int))(s:aN):Option ((Λ×Int)×aN):=match kG d6 [] s with
 |none=>ν
 |some (t,s)=>match bq 0 aD s with
  |none=>ν
  |some (c,s)=>if t∈acc.map (·.1)then ν else σ ((t,c),s)
def ed(d6:Λ)(s:aN):Option (List (Λ×Int)×aN):=match bq (-aD) aD s with
 |none=>ν
 |some (n,s)=>
  if n<0 then match s.m2[(-n-1).toNat]? with
   |none=>ν
   |some (z,l)=>if z=d6 then σ (l,s)else ν
  else da (eX d6) n.toNat [] (bm (decide (16384<min (s.m1+n) aD)) {s with m1:=min (s.m1+n) aD})
def dL(d6:Λ):Bool:=decide (4096<aV (d6.map λk=>min k 4097))
structure cI where
 scope:Λ
 d6:Λ
 other:Int
 lines:List (Λ×Int)
deriving DecidableEq
def dv(all:Λ)(s:aN):Option (cI×aN):=match bq (-aD) aD s with
 |none=>ν
 |some (a,s)=>match fm all.length a.natAbs s with
  |none=>ν
  |some (scope,s)=>
   let d6:=scope.map λv=>all.getD v.toNat 0
   match bq 0 aD (bm (decide (6<a.natAbs)||dL d6) s)with
   |none=>ν
   |some (other,s)=>match ed d6 s with
    |none=>ν
    |some (lines,s)=>σ (⟨scope,d6,other,lines⟩,if a<0 then{s with m2:=s.m2++[(d6,lines)]}else s)
def gT(most:Int)(_:Λ)(s:aN):Option (Int×aN):=match bq 1 most s with
 |none=>ν
 |some (z,s)=>σ (z,bm (decide (32<z)) s)
structure cg where
 name:Λ
 k:Int
 d6:Λ
 ho:List cI
deriving DecidableEq
def jN(s:aN):Option (cg×aN):=match ec s with
 |none=>ν
 |some (name,s)=>match bq 1 aD (bm (decide (64<name.length)) s)with
  |none=>ν
  |some (n,s)=>match bq 1 aD (bm (decide (64<n)) s)with
   |none=>ν
   |some (most,s)=>match bq 0 aD s with
    |none=>ν
    |some (a,s)=>match bq 1 aD (bm (decide (256<a)) s)with
     |none=>ν
     |some (k,s)=>match da (gT most) n.toNat [] (bm (decide (2147483648<k)) s)with
      |none=>ν
      |some (d6,s)=>match da (λ_ s=>dv d6 s) a.toNat [] s with
       |none=>ν
       |some (ho,s)=>σ (⟨name,k,d6,ho⟩,s)
def il(p:Λ):Option cg:=if 65536<p.length then ν else match jN ⟨(lex p).1,0,sp,[]⟩with
 |none=>ν
 |some (f,s)=>if s.hp=[]/\(lex p).2=s2/\s.big=sp then σ f else ν
def ol(n:Int)(a:Bool)(v:Int):Prop:=0<=n/\n<=4611686018427387909/\(a=s2->v=aD)/\(a=sp->v=min aD n)
theorem LR{n b v:Int}{a:Bool}(h:ol n a v)(e:48<=b/\b<=57):
  ol (if a=s2\/461168601842738790<n then n else 10*n+(b-48)) (a||decide (461168601842738790<n)) (fQ v b):=by
 obtain⟨h1,f,j,q⟩:=h;unfold fQ ol aD at*;cases a<;>grind
theorem LS:ol 0 sp 0:=by grind [ol,aD]
theorem LU{n v:Int}{a:Bool}(h:ol n a v):v=if a=s2\/4611686018427387904<n then 4611686018427387904 else n:=by
 obtain⟨h1,e,f,j⟩:=h
 grind [aD]
structure Cell where
 v:Int
 st:Nat
structure mA where
 i:Nat
 c:Cell
structure tX where
 olds:Nat
 cells:Nat
 st:Nat
structure aB where
 cells:List Cell
 olds:List mA
 marks:List tX
 kH:Nat
def aB.cb(t:aB):Λ:=t.cells.map (·.v)
def aB.set(t:aB)(i:Nat)(x:Int):aB:=match t.cells[i]? with
 |none=>t
 |some c=>match t.marks.getLast? with
  |none=>{t with cells:=t.cells.set i ⟨x,c.st⟩}
  |some m=>if c.st<m.st/\i<m.cells then{t with olds:=t.olds++[⟨i,c⟩],cells:=t.cells.set i ⟨x,m.st⟩}else{t with cells:=t.cells.set i ⟨x,c.st⟩}
def aB.grow(t:aB)(n:Nat):aB:={t with cells:=t.cells++o5 n ⟨0,0⟩}
def back(os:List mA)(cs:List Cell):List Cell:=os.foldr (λo cs=>cs.set o.i o.c) cs
theorem LV:∀(os:List mA)(cs:List Cell),(back os cs).length=cs.length
 :=by
 intro a;induction a<;>grind [back]
theorem back_append(a b:List mA)(cs:List Cell):back (a++b) cs=back a (back b cs):=by grind [back]
theorem LW:∀{os:List mA}{cs:List Cell}{n:Nat},(back os cs).take n=back (os.filter λo=>decide (o.i<n)) (cs.take n)
 :=by
 intro a;induction a<;>grind [back,List.take_set,List.take_set_of_le]
theorem LX{os:List mA}{cs:List Cell}(h:∀o∈os,o.i<n):(back os cs).take n=back os (cs.take n):=by
 grind [LW,List.filter_eq_self]
theorem BW:∀{os:List mA}{cs a:List Cell}{i:Nat},cs.length=a.length->(∃o∈os,o.i=i)->(back os cs)[i]?=(back os a)[i]?
 |[],_,_,_,_,⟨_,h,_⟩=>by cases h
 |o::os,cs,a,i,e,hm=>by
  show((back os cs).set o.i o.c)[i]?=((back os a).set o.i o.c)[i]?;rw[X6,X6];by_cases h:o.i=i
  .grind [LV]
  .rw[m5 h,m5 h];obtain⟨x,J,he⟩:=hm;rcases List.mem_cons.1 J with rfl|J
   .omega
   .exact BW e ⟨x,J,he⟩
theorem LY:∀{os:List mA}{cs e:List Cell}{i:Nat},cs[i]?=e[i]? ->cs.length=e.length->(back os cs)[i]?=(back os e)[i]?
 :=by
 intro a;induction a<;>grind [back]
def iT:aB->List aB->Prop
 |t,[]=>t.marks=[]/\t.olds=[]/\(∀c∈t.cells,c.st<=t.kH)/\t.kH<=1000000
 |t,s::h=>iT s h/\(∀c∈t.cells,c.st<=t.kH)/\∃m new,t.marks=s.marks++[m]/\m.olds=s.olds.length/\m.cells=s.cells.length/\t.olds=s.olds++new/\m.cells<=t.cells.length/\(back new t.cells).take m.cells=s.cells/\
   (∀c∈s.cells,c.st<m.st)/\(∀c∈t.cells,c.st<=m.st)/\(∀(i:Nat)c,i<m.cells->t.cells[i]?=σ c->c.st=m.st->∃o∈new,o.i=i)/\(∀o∈new,o.i<m.cells)/\m.st<=t.kH/\s.kH<=t.kH
theorem iT.grow{h:List aB}{t:aB}(hk:iT t h):iT (t.grow n) h:=by
 cases h with
 |nil=>
  refine⟨hk.1,hk.2.1,λc a=>?_,hk.2.2.2⟩;rcases j9.1 a with a|a
  .exact hk.2.2.1 c a
  grind
 |cons s h=>
  obtain⟨h1,f,m,new,j,q,a3,a4,a5,A,r,w,a9,x,y,z⟩:=hk;have e:∀{b:Nat},(∀c∈t.cells,c.st<=b)->∀c∈(t.grow n).cells,c.st<=b:=λB c a=>by
   rcases j9.1 a with a|a
   all_goals grind
  refine⟨h1,e f,m,new,j,q,a3,a4,by show m.cells<=(t.cells++_).length;grind,?_,r,e w,λi c hi a he=>?_,x,y,z⟩
  .show (back new (t.cells++_)).take m.cells=_
   grind [LX]
  .have a:(t.cells++o5 n ⟨0,0⟩)[i]?=σ c:=a
   grind
theorem LZ{s:aB}{m:tX}{l:List tX}(h:l=s.marks++[m]):l.getLast? =σ m:=by grind
theorem iT.set{h:List aB}{t:aB}{i:Nat}{x:Int}(hk:iT t h):iT (t.set i x) h:=by
 unfold aB.set;cases y:t.cells[i]? with
 |none=>exact hk
 |some c=>
  have L:=(x6.1 y).1;have f:=x7 y;have e:∀{b st:Nat},(∀c∈t.cells,c.st<=b)->st<=b->∀d∈t.cells.set i ⟨x,st⟩,d.st<=b:=by grind
  cases h with
  |nil=>
   obtain⟨h1,a,z,G⟩:=hk;simp only[h1,List.getLast?_nil];exact⟨rfl,a,e z (z c f),G⟩
  |cons s h=>
   obtain⟨h1,a,m,new,q,A,a3,a4,a5,H,B,C,a9,I,r,E⟩:=hk;simp only[LZ q];by_cases F:c.st<m.st/\i<m.cells
   .rw[m3 F];refine⟨h1,e a r,m,new++[⟨i,c⟩],q,A,a3,by grind,by grind,?_,B,by grind,λj d J w he=>?_,λo aC=>?_,r,E⟩
    .show (back (new++[⟨i,c⟩]) (t.cells.set i _)).take m.cells=_;rw[back_append];have:back [⟨i,c⟩] (t.cells.set i ⟨x,m.st⟩)=t.cells:=by
      show(t.cells.set i _).set i c=_;rw[List.set_set];refine Y2 λj=>?_
      grind
     grind
    .have w:(t.cells.set i ⟨x,m.st⟩)[j]?=σ d:=w;by_cases K:i=j
     .exact⟨⟨i,c⟩,Ξ,K⟩
     grind
    grind
   .rw[m5 F];refine⟨h1,e a (a c f),m,new,q,A,a3,a4,by grind,?_,B,e C (C c f),λj d J w he=>?_,I,r,E⟩
    .rw[<-H];show(back new (t.cells.set i _)).take m.cells=_;refine Y2 λj=>?_
     grind [BW,LY]
    grind
theorem aB.rU{t:aB}{i:Nat}{x:Int}:(t.set i x).cb=t.cb.set i x:=by
 grind [aB.set,aB.cb,List.set_eq_of_length_le,U2]
theorem aB.L0{t:aB}:(t.grow n).cb=t.cb++o5 n 0:=by
 grind [aB.grow,aB.cb,List.map_replicate]
end Go.Proofs.YtlcdcbgoaljiiaaGreatDoor
namespace Go.Vc
open Go Go.RowKit
section
variable{P:X8}{w:x5}{m:Bool}{S R:aj}
theorem tY{b k l:Nat}{low high:Option x4}(j:P.underlying t=σ (.slice e))(hi:aU P e k b z)(ac:cj w k v n cs)(h1:nB low l)(q:nC high n h)(a:l<=h)(ax:h<=n)(r:∀f,cj w k f (h-l) ((cs.drop (l*k)).take ((h-l)*k))->K f):
  ad P (V5 t v low high ν) w K:=by
 have s:=ac;obtain⟨_,x,o,base,cap,rfl,y,_⟩:=ac;rw[iA j hi h1 q fy a Ω (o6 _)];exact r _ (cj.part s a ax Ω (o6 _))
theorem L1{f:o8}{b i:Nat}(j:y=(i:Int))(q:P.underlying t=σ (.slice e))(hi:aU P e 1 b z)(h:aQ k w v l)(r:i<=l.length)(s:∀a,aQ k w a (l.drop i)->K a):ad P (V5 t v (σ (.int f y)) ν ν) w K:=by
 refine tY q hi h (pn i y j) k4 r (o6 _) λa be=>s a (aQ.of (n:=l.length-i) ?_);have x:((ints k l).drop (i*1)).take ((l.length-i)*1)=ints k (l.drop i):=by
  rw[j5 Ξ,U3,ints,<-List.map_drop]
 rw[x]at be;exact be
theorem L2{f:o8}{b i:Nat}(j:y=(i:Int))(q:P.underlying t=σ (.slice e))(hi:aU P e 1 b z)(h:aQ k w v l)(r:i<=l.length)(s:∀a,aQ k w a (l.take i)->K a):ad P (V5 t v ν (σ (.int f y)) ν) w K:=by
 refine tY q hi h ke (po i y j) (W3 _) r λa be=>s a (aQ.of (n:=i) ?_);have x:((ints k l).drop (0*1)).take ((i-0)*1)=ints k (l.take i):=by
  simp[ints,List.map_take]
 rw[x]at be;exact be
theorem qB{b:Nat}{parts:Array (Nat×x4)}{K:x4->x5->Prop}(a:P.underlying t=σ (.slice e))(hi:aU P e 1 b (Δ 0))(s:n<=100000)(f:l.length=n)(ah:Instr.fill (λj=>σ (j*1,1)) ((Array.range (n*1)).map ((if n*1=0 then#[]else(V3 .i64 0).cells)[·% (if n*1=0 then#[]else(V3 .i64 0).cells).size]!)) parts.toList=σ (ints .i64 l).toArray)(h:∀v g I,g=w.heap.size->Ext w I->aH .i64 e I g v l->K v I):aL P (Y3 t n parts) w K:=
 k5 a hi Ω ah λg I q J r=>h _ g I q J (aH.of (b7.full (by simpa using r) (by simp[f]) (by simp[maxLen];omega)))
end
section
variable{P:X8}{w:x5}
theorem L3{h q:o4}{r kn:o8}{b k cap:Nat}{base:Option Addr}{K:x4->x5->Prop}(A:y=(k:Int))(B:P.underlying t=σ (.slice e))(C:P.underlying h=σ (.int kn))(hi:aU P e 1 b z)(E:z.cells= #[z])(V:cj w 1 (.slice base n cap) n xs)(F:0<k)(s:cap<n+k)(G:(n+k)*b<=140737488355328)(H:n+k<=9223372036854775807)(J:∀v g I,g=w.heap.size->Ext w I->b7 I g e 1 v (n+k) (xs++o5 k z)->K v I):aL P (c9 #[t,h] q #[.slice base n cap,.int r y]) w K:=by
 subst A;obtain⟨i,hi,L,rfl,M⟩:=hi;obtain⟨f,Y,o,Z,aa,he,N,ab,O,Q⟩:=V;cases he;have R:(Z2.firstCells i.size n (.slice base n cap)).run P w.drew= .ok xs.toArray w.drew:=by
  rcases Nat.eq_zero_or_pos n with rfl|S
  .have:xs=[]:=b8 (by simpa using f);subst this;cases base with
   |none=>exact run_firstCells_none w.drew i.size 0 0 cap
   |some a=>exact run_firstCells_some w.drew i.size 0 a 0 cap [] Ξ Ξ
  .have:=O S;subst this;refine run_firstCells_some w.drew i.size n _ n cap xs (by rw[L];exact f) λj u hu=>?_;rw[U8];exact Q j u hu
 have T:k*i.bytes<=281474976710656:=by
  have:k*i.bytes<=(n+k)*i.bytes:=V4 _ Ω;omega
 have U:=Lib.run_append_grow_zeros (P:=P) w t h q e i z r kn B C hi M base n cap xs R k F Ω s Ω T (growslice_fits s G);have W:n+k<=grownCap w (n+k) cap e:=grownCap_ge w _ _ _;have X:grownCap w (n+k) cap e<=maxLen:=grownCap_le_maxLen w (n+k) cap e (by simpa[maxLen]using H);have x:∀m,Z2.zeroCells z.cells m=(o5 m z).toArray:=λm=>by
  rw[E];apply Array.ext
  .simp[size_zeroCells]
  .intro j h1 N;simp[Z2.zeroCells,Nat.mod_one]
 refine .of U ((rn w _ (Nat.le_succ _)).F (rq _ _)) (J _ w.heap.size _ rfl ((tb w _).F (rp _ _)) ⟨by simp at f;simp[f],.inr ⟨_,xs++o5 k z++o5 (grownCap w (n+k) cap e-(n+k)) z,rfl,?_,W,X,?_,?_⟩⟩)
 .rw[x,x];have:=heap_alloc_new w.drew (.cells (xs.toArray++(o5 k z).toArray++(o5 (grownCap w (n+k) cap e-(n+k)) z).toArray) e);rw[List.append_toArray,List.append_toArray]at this ⊢;exact this
 .simp at f;simp[f];omega
 .simp at f;rw[List.take_append_of_le_length (by simp[f]),j5 (by simp[f])]
theorem BX{a:o4}{base:Option Addr}{c:Nat}(f:P.underlying t=σ (.slice e)):
  ad P (Z2.cap_ #[t] a #[.slice base n c]) w K=K (Δ c):=ad.of λI _=>by simp[Z2.cap_,run_underlying f,goInt]
theorem L4{g o k c:Nat}(h:ak w g e cs)(hk:o+k<=cs.length)(a:k<=c)(f:c<=maxLen):cj w 1 (.slice (σ ⟨g,o,ν⟩) k c) k ((cs.drop o).take k):=by
 refine⟨Θ,g,o,_,c,rfl,a,f,λ_=>rfl,λj v ac=>?_⟩;have q:=(x6.1 ac).1;simp at q;rw[V1 Ω,List.getElem?_drop]at ac;exact h.cell ac
theorem BY{h q:o4}{s g o cap:Nat}{K:x4->x5->Prop}(x:P.underlying t=σ (.slice e))(hi:aU P e 1 s z)(y:z.cells= #[z])(h1:z.oneCell'=s2)(a:ak w g q cs)(A:0<n)(G:o+n<=cs.length)(B:∀I,ai (λr=>r=g) w I->I.heap.size=w.heap.size->ak I g q (over cs o (o5 n z))->K (.tuple #[]) I):aL P (Z2.clear_ #[t] h #[.slice (σ ⟨g,o,ν⟩) n cap]) w K:=by
 obtain⟨i,hi,H,rfl,C⟩:=hi;have E:=Lib.run_clear_slice (P:=P) w t e h z x (λw=>by simp[zeroValue,typeInfo,hi,C]) y h1 g o n cap A
  (λj J=>by rw[a.cell (v8 (show o+j<cs.length by omega))];rfl) (λj _=>a.frozen _ _)
 obtain⟨F,f⟩:=pq (o5 n z) cs o w a;exact .of E (f.cQ a) (B _ f.aa f.size F)
end
section
variable{P:X8}{w:x5}
theorem jk{a:o4}{f:o8}{i b g:Nat}(j:y=(i:Int))(q:P.underlying t=σ (.slice e))(hi:aU P e 1 b z)(h:aH k a w g v l)(r:i<l.length):ad P (n9 t v (.int f y)) w K=K (.pointer (σ ⟨g,i,ν⟩)):=by
 subst j;obtain⟨_,⟨_,s⟩|⟨cap,cs,rfl,_⟩⟩:=h
 .omega
 .rw[e2 q hi r (λ_=>rfl)];simp
theorem om{a:o8}{i b:Nat}{x:Int}(f:y=(i:Int))(j:P.underlying t=σ (.slice e))(hi:aU P e 1 b z)(h:aQ k w v l)(J:l[i]?=σ x)(q:∀b o,w.cell? ⟨b,o,ν⟩=σ (.int k x)->K (.pointer (σ ⟨b,o,ν⟩))):ad P (n9 t v (.int a y)) w K:=by
 subst f;have r:=(x6.1 J).1;obtain⟨_,_,_,_,_,rfl,_,_,s,A⟩:=h;rw[e2 j hi r s,U3];exact q _ _ (A i _ (mq J))
theorem jl{a:o4}{i b g:Nat}{x:Int}{K:Unit->x5->Prop}(hi:aU P e 1 b z)(h:aH k a w g v l)(B:i<l.length)(f:∀I,ai (λr=>r=g) w I->I.heap.size=w.heap.size->aH k a I g v (l.set i x)->K () I):aL P (o7 e (.pointer (σ ⟨g,i,ν⟩)) (.int k x)) w K:=by
 obtain⟨C,⟨_,E⟩|⟨cap,full,rfl,j,F,q,G,H⟩⟩:=h
 .omega
 .have s:i<full.length:=Ω
  refine bs hi rfl rfl j s λI y V A=>f I y V ⟨Ξ,.inr ⟨cap,full.set i (.int k x),Ξ,A,by grind,q,by grind,?_⟩⟩
  grind [List.take_set,U2]
theorem tZ{b o:Nat}(a:k3 P t=s2)(h:w.cell? ⟨b,o,ν⟩=σ v):cc P (u5 t (.pointer (σ ⟨b,o,ν⟩))) v w:=λI J=>by
 have be:=kd J h;unfold k3 at a;cases hu:P.underlying t with
 |none=>grind
 |some d=>
  rw[hu]at a;cases d<;>first|(cases a;done)|simp[u5,Instr.sureAddr,loadVar,isAgg,run_underlying hu,be]
theorem jm{S:aj}(h:aQ k w v l)(J:ai S w I)(y:∀r,S r->∀a n c,v= .slice (σ a) n c->a.block≠r):aQ k I v l:=by
 obtain⟨h1,b,o,base,cap,rfl,q,s,e,z⟩:=h;refine⟨h1,b,o,base,cap,rfl,q,s,e,?_⟩;rcases Nat.eq_zero_or_pos l.length with f|f
 .intro j u hu
  grind
 .have x:=e f;subst x
  grind [iz]
end
end Go.Vc
namespace Go.Vc
open Go Go.RowKit Go.ChangeShapes Go.WideShapes
structure oo(P:X8)(t:o4)(α:Type)[aw α](G:α->Prop):Prop where
 op:∀{H:Type}{enc:o4×x4->H}{w:x5}{base:Nat}{spare:Nat->Bool}{held:Bool}{fuel:Nat}{cs:List x4}{x:DataW H×List MemPlace},
  DataW.trod enc P w base spare held fuel t cs=σ x->∃a:α,Seen fB w cs a/\G a
section
variable{P:X8}{α β:Type}[aw α][aw β]
theorem BZ{n:Int}(h:(Lit.int k n).wf=s2):k.min<=n/\n<=k.max:=by grind [Lit.wf]
theorem L5(a:P.underlying t=σ (.int k)):oo P t (nF k) λn=>k.min<=n.val/\n.val<=k.max:=⟨λh=>by
 obtain⟨n,rfl,_,hw⟩:=DataW.trod_int a h;exact⟨(n:Int),rfl,BZ hw⟩⟩
theorem ua(a:P.underlying t=σ (.int .i64)):oo P t Int λn=>X4.min<=n/\n<=X4.max:=⟨λh=>by
 obtain⟨n,rfl,_,hw⟩:=DataW.trod_int a h;exact⟨n,rfl,BZ hw⟩⟩
theorem L6(a:Addr)(m n:Nat):(a.add m).add n=a.add (m+n):=by
 grind [Addr.add]
theorem L7{base:Nat}{a:Addr}(h:w.cells? base a n=σ cs):cs.length=n/\∀j v,cs[j]?=σ v->w.cell? (a.add j)=σ v:=by
 unfold x5.cells? at h;split at h
 .have e:cs.length=n:=by
   have:=mapM_some_length h
   grind
  refine⟨e,λj v ac=>?_⟩;have f:=(x6.1 ac).1;have:=mapM_some_get h j j (List.getElem?_range Ω)
  grind
 .cases h
theorem L8{G:α->Prop}(F:P.underlying t=σ (.slice e))(he:oo P e α G)(I:P.cellsOf e=aw.n α)(N:0<aw.n α):oo P t (List α) λl=>∀a∈l,G a:=by
 constructor;intro H enc w base O Q fuel cs x h;rcases DataW.trod_slice F h with⟨rfl,_⟩|⟨a,len,cap,R,rest,n,_,rfl,rfl,S,T,hm,U,J,_,_⟩
 .exact⟨[],gx,by grind⟩
 .
  have B:∀i,i<len->∃(c:List x4)(y:α),c.length=aw.n α/\(∀j v,c[j]?=σ v->w.cell? (a.add (i*aw.n α+j))=σ v)/\Seen fB w c y/\G y:=by
   intro i hi;have h1:=J i hi;rw[v8 Ω,I,Option.bind_eq_some_iff]at h1;obtain⟨c,f,q⟩:=h1;obtain⟨C,r⟩:=L7 f;obtain⟨y,s,V⟩:=he.op q
   grind [L6]
  have all:∀m,m<=len->∃(vs:List (List x4))(l:List α),vs.length=m/\l.length=m/\(∀c∈vs,c.length=aw.n α)/\(∀(j:Nat)(v:x4),vs.flatten[j]?=σ v->w.cell? (a.add j)=σ v)/\
    (∀(i:Nat)(c:List x4)(y:α),vs[i]?=σ c->l[i]?=σ y->Seen fB w c y)/\∀y∈l,G y:=by
   intro m;induction m with
   |zero=>exact λ_=>⟨[],[],rfl,rfl,by grind,by grind,by grind,by grind⟩
   |succ m K=>
    intro hm;obtain⟨vs,l,h1,f,q,C,r,s⟩:=K Ω;obtain⟨c,y,g1,E,W,X⟩:=B m Ω;refine⟨vs++[c],l++[y],by simp[h1],by simp[f],λd L=>?_,λj v ac=>?_,λi d z L M=>?_,λz M=>?_⟩
    .grind
    .have A:=tR q
     grind
    all_goals grind
  obtain⟨vs,l,h1,f,q,C,r,s⟩:=all len (o6 _);have A:=tR q;rw[h1]at A;have Y:0<len->a=⟨a.block,a.off,ν⟩:=λZ=>by
   obtain⟨c,y,g1,E,_⟩:=B 0 Ω;have:=E 0 c[0] (v8 Ω);rw[Nat.zero_mul]at this;exact w6 this
  refine⟨l,⟨_,rfl,vs,0,λ_ _=>False,⟨by grind,by grind,by grind⟩,⟨Ω,r⟩,⟨by rw[A,f],a.block,a.off,σ a,cap,by rw[f],Ω,hm,by grind,by grind,λj v ac=>?_⟩,by grind⟩,s⟩
  grind [U8]
structure ub(P:X8)(fs:List Field)(off:Nat)(α:Type)[aw α](G:α->Prop):Prop where
 op:∀{H:Type}{enc:o4×x4->H}{w:x5}{base:Nat}{spare:Nat->Bool}{held:Bool}{n:Nat}{cs:List x4},cs.length=off+aw.n α->
  (∀f∈fs,∃x,DataW.trod enc P w base spare held n f.type ((cs.drop f.offset).take (P.cellsOf f.type))=σ x)->∃a:α,Seen fB w (cs.drop off) a/\G a
theorem L9{f:Field}{e:Nat}{G:α->Prop}(h:oo P f.type α G)(aC:f.offset=e)(j:P.cellsOf f.type=aw.n α):ub P [f] e α G:=by
 constructor;intro H enc w base q r n cs s ah;obtain⟨x,J⟩:=ah f (.head _);obtain⟨a,h1,y⟩:=h.op J
 grind [j5]
theorem uc{f:Field}{j:List Field}{e:Nat}{G:α->Prop}{q:β->Prop}(h:oo P f.type α G)(aC:f.offset=e)(r:P.cellsOf f.type=aw.n α)(s:ub P j (e+aw.n α) β q):
  ub P (f::j) e (α×β) λp=>G p.1/\q p.2:=by
 constructor;intro H enc w base C E n cs F ah;obtain⟨x,J⟩:=ah f (.head _);obtain⟨a,h1,y⟩:=h.op J;rw[aC,r]at h1;have I:aw.n (α×β)=aw.n α+aw.n β:=rfl;obtain⟨b,z,A⟩:=s.op Ω λg B=>ah g (.tail _ B);refine⟨(a,b),⟨(cs.drop e).take (aw.n α),cs.drop (e+aw.n α),λ_=>False,λ_=>False,?_,λ_ h=>h,λ_ h=>h,by grind,h1,z⟩,y,A⟩;rw[<-List.drop_drop,List.take_append_drop]
theorem Ma{a:List Field}{G:α->Prop}(e:P.underlying t=σ (.struct a.toArray))(ah:ub P a 0 α G)(s:P.cellsOf t=aw.n α):oo P t α G:=by
 constructor;intro H enc w base y z fuel cs x h;obtain⟨xs,n,_,rfl,A,B,j⟩:=DataW.trod_struct e h;have:=ah.op (cs:=cs) Ω λf q=>by
  obtain⟨i,hi,rfl⟩:=List.mem_iff_getElem.1 q;have r:i<xs.length:=by grind
  have:=j i a[i] (by simp[hi]);rw[v8 r]at this;exact⟨_,this⟩
 grind
end
end Go.Vc
namespace Go.Vc
open Go Go.RowKit
set_option maxRecDepth 100000
theorem Mb:(⟨#[]⟩:ByteArray)=strOfNums []:=rfl
theorem B1{az:x4->x4->x4->x5->Prop}{B:(x4->x4->x4->x5->Prop)->Prop}(G:x4->x4->x4->x5->Prop)(h1:∀t u v w,G t u v w->az t u v w)(e:∀a:x4->x4->x4->x5->Prop,(∀t u v w,G t u v w->a t u v w)->B a):cG az B:=e az h1
theorem B2{az:x4->x4->x4->x4->x5->Prop}{B:(x4->x4->x4->x4->x5->Prop)->Prop}(G:x4->x4->x4->x4->x5->Prop)(h1:∀s t u v w,G s t u v w->az s t u v w)(e:∀a:x4->x4->x4->x4->x5->Prop,(∀s t u v w,G s t u v w->a s t u v w)->B a):cG az B:=e az h1
abbrev ch(l:Λ):x4:=.string (strOfNums l)
def Bytes(l:Λ):Prop:=∀b∈l,0<=b/\b<256
theorem oq(l:Λ):(strOfNums l).size=l.length:=strOfNums_size l
theorem Mc(h:Bytes l){i:Nat}{b:Int}(hi:l[i]?=σ b):(strOfNums l)[i]?=σ (UInt8.ofNat b.toNat)/\((UInt8.ofNat b.toNat).toNat:Int)=b:=by
 have f:=h b (x7 hi);have e:=x6.1 hi;refine⟨?_,by rw[UInt8.toNat_ofNat'];omega⟩;have V:i<(strOfNums l).size:=by rw[oq];exact e.1
 rw[getElem?_pos (strOfNums l) i V];congr 1;show(strOfNums l).data[i]=_;have a:(strOfNums l).data.toList[i]?=σ (UInt8.ofNat b.toNat):=by rw[strOfNums_data,u4,hi];rfl
 rw[Array.getElem?_toList]at a;exact(Y1.1 a).2
theorem str_inj{a b:Λ}(e:Bytes a)(f:Bytes b)(h:strOfNums a=strOfNums b):a=b:=by
 have h1:(strOfNums a).data.toList=(strOfNums b).data.toList:=by rw[h]
 rw[strOfNums_data,strOfNums_data]at h1;have key:∀{l:Λ},Bytes l->(l.map λn=>UInt8.ofNat n.toNat).map (λu=>((u.toNat:Nat):Int))=l:=λ{l}j=>by
  rw[T6]
  conv=>rhs;rw[<-List.map_id l]
  refine List.map_congr_left λx J=>?_;have:=j x J;show(((UInt8.ofNat x.toNat).toNat:Nat):Int)=x;rw[UInt8.toNat_ofNat'];omega
 rw[<-key e,<-key f,h1]
theorem Md(a b:Λ):strOfNums a++strOfNums b=strOfNums (a++b):=by
 apply ByteArray.ext;rw[ByteArray.data_append];simp[strOfNums]
theorem Me(l:Λ)(i j:Nat):(strOfNums l).extract i j=strOfNums ((l.take j).drop i):=by
 apply ByteArray.ext;rw[ByteArray.data_extract];apply Array.toList_inj.1;rw[Array.toList_extract];simp[strOfNums,List.extract_eq_take_drop,List.map_drop,List.map_take,List.drop_take]
theorem B3(l:Λ):(strOfNums l).toList=l.map λn=>UInt8.ofNat n.toNat:=by
 rw[ByteArray.toList_eq];exact strOfNums_data l
theorem B4{a b:Λ}(e:Bytes a)(f:Bytes b):((strOfNums a).toList == (strOfNums b).toList)=decide (a=b):=by
 rw[U1,beq_iff_eq,ro,B3,B3];refine⟨λh=>str_inj e f ?_,λh=>by rw[h]⟩;unfold strOfNums;rw[h]
section
variable{P:X8}{w:x5}
theorem px{a:o4}(e:P.underlying t=σ .string):ad P (X7 #[t] a #[ch l]) w K=K (Δ l.length):=ad.of λI _=>by
 simp[X7,run_underlying e,goInt,oq]
theorem rV{b:Int}{i:Nat}(a:y=(i:Int))(f:P.underlying t=σ .string)(h:Bytes l)(hi:l[i]?=σ b):ad P (Instr.index t (ch l) (.int k y)) w K=K (.int .u8 b):=ad.of λI _=>by
 subst a;obtain⟨h1,j⟩:=Mc h hi;have e:(0:Int)<=(i:Int):=Ω
 simp only[Instr.index,asIntOf,W5,V2,W8,run_underlying f];rw[m3 e,u7,h1];simp only[V2,j]
theorem xd{a b:Λ}(h:a.length+b.length<=9223372036854775807):ad P (aS .add t cx cy (ch a) (ch b)) w K=K (ch (a++b)):=ad.of λI _=>by
 have:=run_string_add_sum (P:=P) (w:=I) (strOfNums a) (strOfNums b) (by rw[oq,oq];exact h);simp only[aS,eqGuard,binOp];simp[this,Md]
theorem B5{a b:Λ}(e:Bytes a)(f:Bytes b):ad P (aS .eql t cx cy (ch a) (ch b)) w K=K (.bool (decide (a=b))):=ad.of λI _=>by
 simp[aS,eqGuard,binOp,Op.stringOp,B4 e f]
theorem Mf{a b:Λ}(e:Bytes a)(f:Bytes b):ad P (aS .neq t cx cy (ch a) (ch b)) w K=K (.bool (decide (a≠b))):=ad.of λI _=>by
 simp[aS,eqGuard,binOp,Op.stringOp,B4 e f]
theorem B6{i:Nat}(a:y=(i:Int))(f:P.underlying t=σ .string)(hi:i<=l.length):ad P (V5 t (ch l) (σ (.int k y)) ν ν) w K=K (ch (l.drop i)):=ad.of λI _=>by
 have j:=tO (P:=P) I (sl:=sp) (n:=(strOfNums l).size) (c:=(strOfNums l).size) (low:=σ (.int k y)) (high:=ν) (mx:=ν) (l:=i) (h:=(strOfNums l).size) (m:=(strOfNums l).size) (pn i y a) k4 fy (by rw[oq];exact hi) (o6 _) (o6 _);have e:(strOfNums l).extract i (strOfNums l).size=strOfNums (l.drop i):=by rw[Me,oq,o9]
 simp[V5,Instr.slice,run_underlying f,j,e]
theorem xe{s:o4}(V:P.underlying s=σ (.slice e))(he:P.underlying e=σ (.int .u8))(f:P.underlying t=σ .string)(h:aQ .u8 w v l):ad P (convert s t v) w K=K (ch l):=ad.of λI J=>by
 obtain⟨q,b,o,base,cap,rfl,_,_,x,y⟩:=h.W J;have q:l.length=l.length*1:=by simpa using q
 by_cases z:0<l.length
 .rw[x z];refine run_convert_bytes_arg I s e V he b o l.length cap l rfl (λi hi=>?_) t f;have r:l[i]?=σ l[i]:=v8 hi;rw[r8,r];exact y i _ (mq r)
 .have A:l=[]:=b8 Ω;subst A;cases base with
  |none=>
   rw[run_convert_bytes_nil I s e V he _ _ t f];rfl
  |some a=>
   rw[run_convert_bytes_string I s t e _ _ _ V he f];have:=run_bytesToString (P:=P) I a 0 cap [] (by have:=run_loadCells_list (P:=P) I a [] (λj v B=>by simp at B);simpa using this);simp only[List.length_nil];rw[this];rfl
theorem xf{s:o4}{u:TypeDesc}{K:x4->x5->Prop}(V:P.underlying s=σ u)(y:P.underlying t=σ (.slice e))(he:P.underlying e=σ (.int .u8))(z:Bytes l)(hm:l.length<=1000000000)(A:∀v I,Ext w I->aQ .u8 I v l->(∀r,(∃a n c,v= .slice (σ a) n c/\a.block=r)->w.heap.size<=r)->K v I):aL P (convert s t (ch l)) w K:=by
 have B:=Lib.bytesWorld_at_new w e (strOfNums l);have q:=λj f=>Lib.bytesWorld_at_old w e (strOfNums l) j f;have C:=Lib.bytesWorld_size w e (strOfNums l);refine .of (Lib.run_convert_string_bytes w s t e (strOfNums l) V y he) ⟨rfl,⟨rfl,Nat.le_succ _⟩,rfl,Ω,λr o h _=>?_⟩ (A _ _ ⟨Ω,λr o h _=>?_⟩ ?_ ?_)
 .rw[q r (Y1.1 h).1];exact h
 .rw[q r (Y1.1 h).1];exact h
 .rw[oq];refine⟨Ξ,w.heap.size,0,_,_,rfl,?_,?_,λ_=>rfl,λj v ac=>?_⟩
  .exact grownCap_ge w _ _ _
  .exact grownCap_le_maxLen w _ _ _ (by simp[maxLen];omega)
  .have f:j<l.length:=by have:=(x6.1 ac).1;simpa using this
   have x:l[j]?=σ l[j]:=v8 f;rw[V0,Lib.bytesWorld_cell w e (strOfNums l) j (by rw[oq];exact f)];rw[mq x]at ac;rw[<-Z5 ac,strOfNums_data,r8,u4,x];have:=z l[j] (S3 f);simp only[Y6,Option.getD_some];congr 2;rw[UInt8.toNat_ofNat'];omega
 .rintro r ⟨a,n,c,h1,rfl⟩;cases h1;exact o6 _
end
end Go.Vc
namespace Go.Proofs.YtlcdcbgoaljiiaaGreatDoor
open Go Go.Vc Go.RowKit Go.Proofs Go.Proofs.Tryz
set_option maxRecDepth 100000
theorem B7{b:Int}(h:cZ b=s2):cf b=sp:=by
 have h:=rs h
 grind [cf]
theorem B8{b:Int}{p:Λ}(h:cZ b=s2):lex (b::p)=lex p:=by
 grind [mz,List.dropWhile_cons]
theorem Mg{b:Int}{p:Λ}(h:cZ b=sp)(a:cf b=sp):lex (b::p)=([],sp):=by
 grind [mz,List.dropWhile_cons]
theorem B9{b:Int}{p:Λ}(h:cf b=s2):lex (b::p)=match p.dropWhile cf with
  |[]=>([b::p.takeWhile cf],s2)
  |c::r=>if cZ c then((b::p.takeWhile cf)::(lex (c::r)).1,(lex (c::r)).2)else([],sp):=by
 grind [B7,mz,List.takeWhile_cons,List.dropWhile]
def kg:Λ->List (Λ)->Λ->Bool->List (Λ)×Bool
 |[],out,w,op=>(if op then out++[w]else out,s2)
 |b::p,out,w,op=>
  if cZ b then kg p (if op then out++[w]else out) [] sp
  else if cf b then kg p out (if op then w++[b]else[b]) s2
  else(out,sp)
theorem rW:∀(p:Λ)(out:List (Λ))(w:Λ),kg p out w sp=(out++(lex p).1,(lex p).2)/\
  kg p out w s2=match p.dropWhile cf with
   |[]=>(out++[w++p.takeWhile cf],s2)
   |c::r=>if cZ c then(out++[w++p.takeWhile cf]++(lex (c::r)).1,(lex (c::r)).2)else(out,sp)
 |[],out,w=>by simp[kg,mz []]
 |b::p,out,w=>by
  by_cases V:cZ b=s2
  .have hw:=B7 V;refine⟨?_,?_⟩
   .rw[kg,m3 V,(rW p _ _).1,B8 V];simp
   .rw[kg,m3 V,m3 rfl,(rW p _ _).1,List.dropWhile_cons,m5 (by simp[hw])]
    grind [List.takeWhile_cons,B8]
  .have a:cZ b=sp:=by grind
   by_cases hw:cf b=s2
   .refine⟨?_,?_⟩
    .rw[kg,m5 V,m3 hw,m5 Ξ,(rW p _ _).2,B9 hw];cases p.dropWhile cf<;>grind
    .rw[kg,m5 V,m3 hw,m3 rfl,(rW p _ _).2,List.dropWhile_cons,m3 hw,List.takeWhile_cons,m3 hw]
     grind
   grind [kg,Mg,List.dropWhile_cons]
theorem Mh(p:Λ):kg p [] [] sp=lex p:=by grind [rW]
def qC:Nat->Nat->Λ
 |0,_=>[]
 |k+1,n=>(if n<10 then[]else qC k (n / 10))++[48+((n % 10:Nat):Int)]
def gA(n:Nat):Λ:=qC (n+1) n
theorem Ca:∀{k m n:Nat},n<k->n<m->qC k n=qC m n
 |k+1,m+1,n,h1,a=>by
  unfold qC;by_cases h:n<10
  .grind
  .rw[m5 h,m5 h,Ca (k:=k) (m:=m) (n:=n / 10) Ω Ω]
theorem py(n:Nat):gA n=(if n<10 then[]else gA (n / 10))++[48+((n % 10:Nat):Int)]:=by
 grind [gA,qC,Ca]
theorem Cb:∀(k n:Nat),n<k->∀b∈gA n,48<=b/\b<=57
 |k+1,n,hk,b,a=>by
  rw[py]at a;rcases j9.1 a with a|a
  .by_cases h:n<10
   .grind
   .rw[m5 h]at a;exact Cb k (n / 10) Ω b a
  grind
theorem Cc(n:Nat):∀b∈gA n,48<=b/\b<=57:=Cb (n+1) n Ω
def rX(l:Λ):Int:=l.foldl (λn b=>10*n+(b-48)) 0
theorem Mi(l:Λ)(b:Int):rX (l++[b])=10*rX l+(b-48):=by simp[rX]
theorem xg:∀(k n:Nat),n<k->rX (gA n)=n
 |k+1,n,hk=>by
  rw[py,Mi];by_cases h:n<10
  .grind [rX]
  .rw[m5 h,xg k (n / 10) Ω];omega
theorem Mj{a b:Nat}(h:gA a=gA b):a=b:=by
 have h1:=xg (a+1) a Ω;have e:=xg (b+1) b Ω
 grind
theorem xh:∀(k n:Nat),n<10 ^ k->1<=k->(gA n).length<=k
 |k+1,n,h,_=>by
  rw[py,j6];by_cases a:n<10
  .grind
  .rw[m5 a];have hk:1<=k:=by
    grind
   have ae:(10:Nat) ^ (k+1)=10*10 ^ k:=Ω
   have:=xh k (n / 10) Ω hk
   grind
def eY(t:Λ):Λ:=t.flatMap λv=>gA v.toNat++[32]
theorem Mk(t:Λ)(v:Int):eY (t++[v])=eY t++(gA v.toNat++[32]):=by simp[eY]
theorem Cd{r:Λ}(a:∀b∈l,b≠32):(l++32::r).takeWhile (λb=>decide (b≠32))=l/\(l++32::r).dropWhile (λb=>decide (b≠32))=32::r:=by
 induction l<;>grind [List.takeWhile_cons,List.dropWhile_cons]
theorem Ce:∀{a b:Λ},(∀x∈a,0<=x)->(∀x∈b,0<=x)->eY a=eY b->a=b
 |[],[],_,_,_=>rfl
 |[],y::b,_,_,h=>by simp[eY]at h
 |x::a,[],_,_,h=>by simp[eY]at h
 |x::a,y::b,j,q,h=>by
  have e:∀(z:Int)(l:Λ),eY (z::l)=gA z.toNat++32::eY l:=by grind [eY]
  rw[e,e]at h;have d:∀z:Int,∀c∈gA z.toNat,c≠32:=λz c s=>by have:=Cc _ c s;omega
  have s1:=Cd (r:=eY a) (d x);have f:=Cd (r:=eY b) (d y);rw[h]at s1;have w:=s1.1.symm.F f.1;have A:=s1.2.symm.F f.2;have J:=j x (.head _);have C:=q y (.head _);have:=Mj w;have B:x=y:=Ω
  subst B;rw[Ce (by grind) (by grind) (List.cons.inj A).2]
theorem Cf(t:Λ):Bytes (eY t):=λb a=>by
 obtain⟨v,_,a⟩:=List.mem_flatMap.1 a;rcases j9.1 a with a|a
 .have:=Cc _ b a;omega
 grind
theorem Cg{b:Int}:aq x8 J2 [.int .u8 b] w λv I=>v= .bool (cZ b)/\Ext w I:=by
 refine aE func176 ?_;refine a6 (λv U=>v= .bool (cZ b)/\Ext w U) (λ_ _ h=>h) λaz a=>?_;rw[bl,ao];refine⟨λh=>a _ _ ⟨by unfold cZ;rw[ms (.inl h)],Ext.refl _⟩,λh1=>?_⟩;rw[bl,ao];refine⟨λh=>a _ _ ⟨by unfold cZ;rw[ms (.inr (.inl h))],Ext.refl _⟩,λe=>?_⟩;rw[bl,ao];refine⟨λh=>a _ _ ⟨by unfold cZ;rw[ms (.inr (.inr (.inl h)))],Ext.refl _⟩,λf=>?_⟩;rw[bl];refine a _ _ ⟨?_,Ext.refl _⟩;congr 1;unfold cZ;rw[U1,ro,ro];omega
theorem Ml{b:Int}:aq x8 J1 [.int .u8 b] w λv I=>v= .bool (cf b)/\Ext w I:=by
 refine aE func175 ?_;refine a6 (λv U=>v= .bool (cf b)/\Ext w U) (λ_ _ h=>h) λaz a=>?_;rw[cU,ao];refine⟨λh=>?_,λh=>a _ _ ⟨by unfold cf;rw[rc Ω],Ext.refl _⟩⟩;rw[lL];refine a _ _ ⟨?_,Ext.refl _⟩;congr 1;unfold cf;rw[U1,ro,ro];omega
def nI(w:x5)(g:Nat)(a:x4)(p:Λ)(at_:Nat)(bad:Int):Prop:=Bytes p/\p.length<=100000/\at_<=p.length/\ak w g jg [a,Δ (at_:Int),Δ bad]/\∃bf,aH .u8 cT w bf a p
theorem nI.W{g:Nat}{a:x4}{p:Λ}{at_:Nat}{bad:Int}(h:nI w g a p at_ bad)(J:Ext w I):nI I g a p at_ bad:=by
 obtain⟨h1,e,f,j,bf,q⟩:=h;exact⟨h1,e,f,j.W J,bf,q.W J⟩
theorem Mm(h:aQ .u8 w v l)(B:l.length<=100000):aq x8 JW [v] w λf I=>Ext w I/\∃g,aH .u8 cT I g f l:=by
 have e:=h;obtain⟨C,b,o,base,cap,rfl,E,hm,q,G⟩:=h;refine aE func169 ?_;rw[tN cV.u,b4];refine⟨λr=>⟨Ext.refl _,0,?_⟩,λ_=>?_⟩
 .have:l=[]:=by
   cases base with
   |none=>
        by_cases e:0<l.length
        .have:=q e;cases this
        .exact b8 Ω
   |some a=>cases r
  subst this;exact aH.nil _ _ _ _
 .refine k5 (k:=1) (cs:=#[]) cV.u cT.i Ω Ψ λg U H j s=>?_;have x:aH .u8 cT U g (.slice (σ ⟨g,0,ν⟩) 0 0) []:=aH.of (n:=0) (b7.full (by simpa using s) rfl Ξ);refine kC cV.u cT.i rfl x (e.W j) Θ Θ λf y ab J z A=>?_;exact⟨j.put A Ω,y,by simpa using z⟩
theorem Ch(h:aQ .u8 w v l)(q:Bytes l)(e:l.length<=100000):aq x8 AZ [v] w λr I=>Ext w I/\∃g,r=Γ g/\w.heap.size<=g/\∃a,nI I g a l 0 (-1):=by
 refine aE func106 ?_;refine(Mm h e).Y ?_;rintro a U _ ⟨f,bf,ae⟩;rw[dn (cs:=#[a,Δ 0,Δ (-1)]) (by obtain⟨_,_,_,_,_,rfl,_⟩:=ae.ls;kernel_rfl)];refine br λg ab x j s=>?_;have s1:=f.size;exact⟨f.F j,g,rfl,Ω,a,q,e,W3 _,s,bf,ae.W j⟩
def runN(f:Int->Bool)(p:Λ):Nat:=(p.takeWhile f).length
theorem Mn(f:Int->Bool)(p:Λ):runN f p<=p.length:=(List.takeWhile_sublist f).length_le
theorem Ci{f:Int->Bool}{p:Λ}{i:Nat}{b:Int}(hi:p[i]?=σ b)(ah:f b=s2):i+runN f (p.drop i)=(i+1)+runN f (p.drop (i+1)):=by
 have a:=x6.1 hi;unfold runN;rw[X2 a.1,a.2,List.takeWhile_cons,m3 ah,W0];omega
theorem Cj{f:Int->Bool}{p:Λ}{i:Nat}(h:∀b,p[i]?=σ b->f b=sp):runN f (p.drop i)=0:=by
 unfold runN;cases ae:p[i]? with
 |none=>
  rw[List.drop_of_length_le (List.getElem?_eq_none_iff.1 ae)];rfl
 |some b=>
  have a:=x6.1 ae;rw[X2 a.1,a.2,List.takeWhile_cons,m5 (by simp[h b ae])];rfl
theorem Mo{g at_:Nat}{y:x4}{p:Λ}{bad:Int}(h:nI w g y p at_ bad):aq x8 J0 [Γ g] w λv I=>v=Δ ((at_+runN cZ (p.drop at_):Nat):Int)/\Ext w I:=by
 obtain⟨J,K,z,a,bf,ae⟩:=h;refine aE func174 ?_;rw[aO jg.p 1 a rfl];refine⟨λv U=>Ext w U/\∃i:Nat,v=Δ (i:Int)/\i<=p.length/\i+runN cZ (p.drop i)=at_+runN cZ (p.drop at_),λv _=>p.length-(b1 v).toNat,⟨Ext.refl _,at_,rfl,z,rfl⟩,?_⟩;rintro _ U ⟨j,i,rfl,hi,he⟩;refine a6 (λv ab=>Ext w ab/\∃c:Bool,v= .bool c/\(c=s2↔ ∃b,p[i]?=σ b/\cZ b=s2)) ?_ ?_
 .rintro _ ab ⟨q,c,rfl,r⟩;rw[b4];refine⟨λA=>?_,λah=>?_⟩
  .obtain⟨b,e,B⟩:=r.1 A;have C:=(x6.1 e).1;rw[aT,lm Ω Ω];exact⟨⟨q,i+1,rfl,C,by rw[<-he,Ci e B]⟩,by simp only[b1];omega⟩
  .have E:=Cj (f:=cZ) (p:=p) (i:=i) λb a=>by
    cases V:cZ b with
    |false=>rfl
    |true=>rw[r.2 ⟨b,a,V⟩]at ah;cases ah
   exact⟨by rw[<-he,E,Nat.add_zero],q⟩
 .intro az s;have x:=a.W j;rw[aO jg.p 0 x rfl,ba cV.u (ae.W j).ls,aW,ao];refine⟨λL=>?_,λM=>s _ _ ⟨j,sp,rfl,⟨λh=>(by cases h),λ⟨b,a,_⟩=>by have:=(x6.1 a).1;omega⟩⟩⟩;have G:i<p.length:=Ω
  have e:=v8 G;rw[aO jg.p 0 x rfl,bp cV.u cT.i Ψ (ae.W j).ls e];refine Cg.Y ?_;rintro _ N _ ⟨rfl,H⟩;exact s _ _ ⟨j.F H,_,rfl,⟨λh=>⟨_,e,h⟩,λ⟨b,a,h⟩=>by rw[e]at a;cases a;exact h⟩⟩
inductive Mp where
 |word (from_ to:Nat)
 |none
 |text (at_:Nat)
def gU(p:Λ)(at_:Nat):Nat:=at_+runN cZ (p.drop at_)
def kh(p:Λ)(a:Nat):Nat:=a+runN cf (p.drop a)
open Classical in
noncomputable def qD(p:Λ)(at_:Nat):Mp:=
 if kh p (gU p at_)<p.length/\(∀c,p[kh p (gU p at_)]?=σ c->cZ c=sp)then .text (kh p (gU p at_))else if gU p at_=kh p (gU p at_)then .none else .word (gU p at_) (kh p (gU p at_))
def rY(w:x5)(g:Nat)(e:x4)(p:Λ)(at_:Nat)(v:x4)(I:x5):Prop:=
 match qD p at_ with
 | .word a b=>v= .tuple #[ch ((p.take b).drop a),Δ (a:Int),Δ 0]/\ai (λr=>r=g) w I/\nI I g e p b (-1)
 | .none=>∃n:Nat,v= .tuple #[ch [],Δ (n:Int),Δ 2]/\Ext w I
 | .text b=>v= .tuple #[ch [],Δ (b:Int),Δ 11]/\ai (λr=>r=g) w I/\nI I g e p at_ (b:Int)
theorem iU{a7:Nat->Prop}{a b:x5}(h:ai S a b)(k:ai a7 b c)(j:∀r,r<a.heap.size->a7 r->S r):ai S a c:=
 ⟨X0 h.size k.size,λr o e V f=>k.a8 r o (h.a8 r o e V f) V λhu=>f (j r (Y1.1 e).1 hu)⟩
theorem cC{g:Nat}{q:o4}(h:aH k e w g v l)(s:ak w j q cs)(y:e≠q){r:Nat}(x:lc v r):r≠j:=by
 obtain⟨rfl,_⟩:=ca h x;obtain⟨_,⟨rfl,_⟩|⟨_,_,_,f,_⟩⟩:=h
 .obtain⟨a,n,c,h,_⟩:=x;cases h
 .rintro rfl;unfold ak at s f;rw[s]at f;injection f with h1;injection h1 with A z;exact y z.symm
theorem Mq{s:o4}{e f:o8}{b i:Nat}(q:x8.underlying s=σ (.slice t))(hi:aU x8 t 1 b z)(h:aQ .u8 w v l)(r:i<=j)(x:j<=l.length)(y:∀a,aQ .u8 w a ((l.take j).drop i)->K a):ad x8 (V5 s v (σ (.int e (i:Int))) (σ (.int f (j:Int))) ν) w K:=by
 refine tY q hi h (pn i _ rfl) (po j _ rfl) r x λa be=>y a (aQ.of (n:=j-i) ?_);have A:((ints .u8 l).drop (i*1)).take ((j-i)*1)=ints .u8 ((l.take j).drop i):=by
  rw[U3,U3,ints,ints,List.map_drop,List.map_take,List.drop_take]
 rw[A]at be;exact be
theorem Mr{g at_:Nat}{E:x4}{p:Λ}(h:nI w g E p at_ (-1)):aq x8 wN [Γ g] w (rY w g E p at_):=by
 obtain⟨O,P,ak,e,bf,ae⟩:=id h;refine aE func112 ?_;rw[dj tM.u,b9,bb,aO jg.p 2 e rfl,cU,ao];refine⟨λh=>Ω,λ_=>?_⟩;refine(Mo h).Y ?_;rintro _ ab _ ⟨rfl,am⟩;obtain⟨a,Q⟩:∃a,a=at_+runN cZ (p.drop at_):=⟨_,rfl⟩;rw[<-Q];have an:a<=p.length:=by have:=Mn cZ (p.drop at_);rw[List.length_drop]at this;omega
 refine⟨λv G=>Ext ab G/\∃i:Nat,v=Δ (i:Int)/\a<=i/\i<=p.length/\i+runN cf (p.drop i)=a+runN cf (p.drop a),λv _=>p.length-(b1 v).toNat,⟨Ext.refl _,a,rfl,o6 _,an,rfl⟩,?_⟩;rintro _ G ⟨R,i,rfl,ap,hi,he⟩;have H:=am.F R;have S:=e.W H;have U:=ae.W H;refine a6 (λv y=>Ext G y/\∃c:Bool,v= .bool c/\(c=s2↔ ∃b,p[i]?=σ b/\cf b=s2)) ?_ ?_
 rotate_left
 .intro az q;rw[aO jg.p 0 S rfl,ba cV.u U.ls,aW,ao];refine⟨λau=>?_,λav=>q _ _ ⟨Ext.refl _,sp,rfl,⟨λh=>(by cases h),λ⟨b,e,_⟩=>by have:=(x6.1 e).1;omega⟩⟩⟩;have z:i<p.length:=Ω
  have j:=v8 z;rw[aO jg.p 0 S rfl,bp cV.u cT.i Ψ U.ls j];refine Ml.Y ?_;rintro _ y _ ⟨rfl,A⟩;exact q _ _ ⟨A,_,rfl,⟨λh=>⟨_,j,h⟩,λ⟨b,e,h⟩=>by rw[j]at e;cases e;exact h⟩⟩
 rintro _ y ⟨A,c,rfl,s⟩;have I:=H.F A;have W:=e.W I;have X:=ae.W I;rw[b4];refine⟨λJ=>?_,λah=>?_⟩
 .obtain⟨b,j,aw⟩:=s.1 J;have ax:=(x6.1 j).1;rw[aT,lm Ω Ω];exact⟨⟨R.F A,i+1,rfl,Ω,ax,by rw[<-he,Ci j aw]⟩,by simp only[b1];omega⟩
 have aD:=Cj (f:=cf) (p:=p) (i:=i) λb e=>by
  cases V:cf b with
  |false=>rfl
  |true=>rw[s.2 ⟨b,e,V⟩]at ah;cases ah
 have ay:i=a+runN cf (p.drop a):=Ω
 refine a6 (λv K=>Ext y K/\∃c:Bool,v= .bool c/\(c=s2↔i<p.length/\∀c,p[i]?=σ c->cZ c=sp)) ?_ ?_
 rotate_left
 .intro az q;rw[aO jg.p 0 W rfl,ba cV.u X.ls,aW,ao];refine⟨λau=>?_,λav=>q _ _ ⟨Ext.refl _,sp,rfl,⟨λh=>(by cases h),λh=>Ω⟩⟩⟩;have z:i<p.length:=Ω
  have j:=v8 z;rw[aO jg.p 0 W rfl,bp cV.u cT.i Ψ X.ls j];refine Cg.Y ?_;rintro _ K _ ⟨rfl,L⟩;rw[bR];refine q _ _ ⟨L,_,rfl,⟨λh=>⟨z,λc s=>?_⟩,λh=>by rw[h.2 _ j];rfl⟩⟩;rw[j]at s;cases s;cases V:cZ p[i]with
  |false=>rfl
  |true=>rw[V]at h;cases h
 rintro _ K ⟨L,aF,rfl,Y⟩;have x:=I.F L;have B:=e.W x;have C:=ae.W x;have Z:∀r,lc E r->r≠g:=λr aA=>cC C B Φ aA;have M:qD p at_=open Classical in if i<p.length/\(∀c,p[i]?=σ c->cZ c=sp)then .text i else if a=i then .none else .word a i:=by
  unfold qD;rw[show gU p at_=a from Q.symm,show kh p a=i from ay.symm]
 rw[b4];refine⟨λJ=>?_,λac=>?_⟩
 .rw[b5,aZ jg.p rfl];refine bs (g:=g) (o:=2) al.i rfl rfl B Ξ λaG ad aH aB=>?_;unfold rY;rw[M,m3 (Y.1 J)];exact⟨rfl,(x.aa _).F ad,O,P,ak,aB,bf,bE C ad Z⟩
 .have af:¬(i<p.length/\∀c,p[i]?=σ c->cZ c=sp):=λh=>by rw[Y.2 h]at ac;cases ac
  rw[bl,ao];refine⟨λaI=>?_,λaJ=>?_⟩
  .intro aK N _ _;rw[aO jg.p 0 (B.W N) rfl,ba cV.u (C.W N).ls];unfold rY;rw[M,m5 af,m3 Ω];exact⟨p.length,rfl,x.F N⟩
  .rw[b5,aZ jg.p rfl];refine bs (g:=g) (o:=1) al.i rfl rfl B Ξ λaL ag aM ai=>?_;have aj:=bE C ag Z;rw[aO jg.p 0 ai rfl];refine Mq cV.u cT.i aj.ls ap hi λaN aC=>?_;rw[xe cV.u cT.u df.u aC];unfold rY;rw[M,m5 af,m5 Ω];exact⟨rfl,(x.aa _).F ag,O,P,hi,ai,bf,aj⟩
end Go.Proofs.YtlcdcbgoaljiiaaGreatDoor
