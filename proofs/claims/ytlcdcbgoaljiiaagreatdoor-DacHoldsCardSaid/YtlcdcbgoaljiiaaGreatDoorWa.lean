/- own texts, made small by a tool (wip/ holds them as they were written): no statement of the seat. -/
import Derived.RangeFuncNested
import Derived.RangeFuncLeaves
import Derived.OrdersIn
import Derived.KernelRfl
import Derived.Deep.Upon
import Derived.RangeFuncBound
import Derived.Deep.MidRow
import Derived.Laws.Cover3
import Derived.Laws.Pointers
import Derived.Laws.StructEq
import Derived.Laws.Tables
import Derived.Below
import Derived.Laws.MakeOwn
import Derived.Lib.Overlaps
import Derived.Lib.AppendZerosOnto
import Derived.Lib.SliceRun
import Derived.OpenShut
import Derived.Lib.ConvBytes
import Derived.Laws.BytesArg
import Derived.Laws.Concat
import Derived.MapKept
import Derived.Carry
import Derived.WideKeyArr
import Derived.WideKeyMaps
import Derived.Laws.IdiomRangeMap
import Derived.Shelf.SlSortCmp.NoneTotal
import Derived.Shelf.SlSortCmp.WholeK
import Derived.Ground.SlsfProg
import Derived.WideKeyEntry
import Derived.WalkKit
import Derived.Test.YtlcdcbgoaljiiaaGreatDoorProg
import Derived.Test.YtlcdcbgoaljiiaaGreatDoorChecked
set_option linter.unusedVariables false
set_option linter.unusedSimpArgs false
set_option linter.unnecessarySimpa false
open Array renaming getElem?_eq_some_iff→Y2
open BitVec renaming ofInt→U6
open Bool renaming false→sp,true→s2,not_true→Y5,not_false→X6,eq_iff_iff→V9,and_eq_true→T8
open Decidable renaming not_not→X1
open Go renaming Value→x4,World→x5,TypeId→o4,IntKind→o8,Builtin→Z0,Program→W0,Oper→U9,Operand→S0,FuncId→S8
open Go.Addr renaming add_mid→U8
open Go.Builtin renaming append_→b9,len_→X8
open Go.Instr renaming loadAt→u5,fieldAt→u6,storeAt→o7,indexAt→n9,extract→Z7,buildSlice→Y4,sliceAt→V5,alloc→R3
open Go.IntKind renaming i64→X5,u64→U4
open Go.Proofs.Tryz renaming prog→x8
open Go.Result renaming andThen→W9
open Go.Sem renaming run_bind→W6,run_pure→V2
open Go.Sort renaming Holds→S1
open Go.Value renaming int→V3
open Go.World renaming putObj_heap_other→S9
open Int renaming toNat_natCast→u7,eq_ofNat_of_zero_le→Y6,le_refl→S5
open List renaming getElem?_eq_some_iff→x6,mem_of_getElem?→x7,getElem?_eq_getElem→v8,getElem?_map→u4,take_add_one→u9,getD_eq_getElem?_getD→r8,length_map→r9,replicate→o5,take_length→o9,mem_map→l9,mem_append→j5,eq_nil_of_length_eq_zero→j6,take_of_length_le→j9,length_append→c9,map_append→Z2,length_take→Z3,length_set→Z9,ext_getElem?→Y3,range→X0,getElem?_append_right→X2,drop_eq_getElem_cons→X4,getElem?_set→X7,length_eq_one_iff→W3,length_cons→W5,getElem?_take_of_lt→V1,getElem?_append_left→V6,map_set→U2,set_append_right→U7,append_nil→T4,map_map→T5,getElem_mem→S2,mem_of_mem_take→R2
open Nat renaming le_refl→o6,le_trans→X3,zero_le→X9,zero_add→V0,mul_le_mul_right→V4,sub_self→V7,mul_one→U3,add_mul→T6,beq→S4
open Option renaming toList_some→j4,isNone_some→b8,map_some→Y7,map→V8
open Option.some renaming inj→Z5,injEq→W7
open Prod.mk renaming injEq→R4
set_option maxHeartbeats 16000000
open Option renaming some→σ,none→ν
abbrev Λ:=List Int
namespace Go
theorem _root_.Eq.F{α:Sort _}{a b c:α}(h:a=b)(g:b=c):a=c:=h.trans g
theorem _root_.Iff.F{a b c:Prop}(h:a<->b)(g:b<->c):a<->c:=h.trans g
theorem _root_.List.Perm.F{α:Type _}{a b c:List α}(h:a.Perm b)(g:b.Perm c):a.Perm c:=h.trans g
set_option linter.defProp false in
def _root_.Go.Calls.Y:=@Calls.mono
theorem _root_.m3{c:Prop}{h:Decidable c}(hc:c){α:Sort _}{t e:α}:ite c t e=t:=if_pos hc
theorem _root_.m5{c:Prop}{h:Decidable c}(hnc:¬c){α:Sort _}{t e:α}:ite c t e=e:=if_neg hnc
theorem _root_.m6{a b:Prop}(h:a)(g:¬a):b:=absurd h g
theorem _root_.ms{p:Prop}[Decidable p](h:p):decide p=true:=decide_eq_true h
theorem _root_.rc{p:Prop}[Decidable p](h:¬p):decide p=false:=decide_eq_false h
theorem _root_.ro{p:Prop}[Decidable p]:(decide p=true)=p:=decide_eq_true_eq
theorem _root_.rs{p:Prop}[Decidable p](h:decide p=true):p:=of_decide_eq_true h
theorem Ω{p:Prop}(h:p:=by omega):p:=h
theorem Ψ{p:Prop}(h:p:=by kernel_rfl):p:=h
theorem Φ{p:Prop}(h:p:=by decide):p:=h
theorem Ξ{p:Prop}(h:p:=by simp):p:=h
theorem Θ{p:Prop}(h:p:=by simp;omega):p:=h
abbrev Γ(n:Nat):Value:=.pointer (some ⟨n,0,none⟩)
abbrev Δ:Int→Value:=Value.int .i64
end Go
variable{a y:Int}{c h j n:Nat}{I w:x5}{S:Nat->Prop}{aY s1 sv v z:x4}{args cs vs xs:List x4}{K:x4->Prop}{an l:Λ}{D:List Nat}{k:o8}{e f t:o4}{cx cy:Bool}
namespace Go.Vc
open Go Go.RowKit
def gf:Obj->Bool
 | .loop _=>sp
 | .deferred _=>sp
 | .mapIter ..=>sp
 |_=>s2
def book:Obj->Bool
 | .loop _=>s2
 | .deferred _=>s2
 |_=>sp
theorem zQ{o:Obj}(h:book o=s2):gf o=sp:=by cases o<;>first|rfl|cases h
def tt:Obj->Bool
 | .mapIter ..=>s2
 |_=>sp
theorem HF{o:Obj}(h:tt o=s2):gf o=sp:=by cases o<;>first|rfl|cases h
structure Ext(w I:x5):Prop where
 size:w.heap.size<=I.heap.size
 a7:∀(r:Nat)(o:Obj),w.heap[r]?=σ o->gf o=s2->I.heap[r]?=σ o
theorem Ext.refl(w:x5):Ext w w:=⟨o6 _,λ_ _ h _=>h⟩
theorem Ext.F{a b c:x5}(h:Ext a b)(k:Ext b c):Ext a c:=
 ⟨X3 h.size k.size,λr o e V=>k.a7 r o (h.a7 r o e V) V⟩
structure ai(S:Nat->Prop)(w I:x5):Prop where
 size:w.heap.size<=I.heap.size
 a7:∀(r:Nat)(o:Obj),w.heap[r]?=σ o->gf o=s2->¬S r->I.heap[r]?=σ o
theorem Ext.ab(S:Nat->Prop)(h:Ext w I):ai S w I:=⟨h.size,λr o a V _=>h.a7 r o a V⟩
theorem ai.W(h:ai S w I)(e:∀r,r<w.heap.size->¬S r):Ext w I:=
 ⟨h.size,λr o a V=>h.a7 r o a V (e r (Y2.1 a).1)⟩
theorem ai.refl(S:Nat->Prop)(w:x5):ai S w w:=⟨o6 _,by grind⟩
theorem ai.F{a b c:x5}(h:ai S a b)(k:ai S b c):ai S a c:=
 ⟨X3 h.size k.size,λr o f V e=>k.a7 r o (h.a7 r o f V e) V e⟩
theorem ai.Y{T:Nat->Prop}{a b:x5}(h:ai S a b)(f:∀r,r<a.heap.size->S r->T r):ai T a b:=
 ⟨h.size,λr o e V j=>h.a7 r o e V λq=>j (f r (Y2.1 e).1 q)⟩
theorem Ext.then{a b c:x5}(h:Ext a b)(k:ai S b c)(f:∀r,r<a.heap.size->¬S r):Ext a c:=
 ⟨X3 h.size k.size,λr o e V=>k.a7 r o (h.a7 r o e V) V (f r (Y2.1 e).1)⟩
def k2(w I:x5):Prop:=I.tape=w.tape/\w.drawn<=I.drawn
theorem k2.lK(h:I.tape=w.tape:=by rfl)(k:I.drawn=w.drawn:=by rfl):k2 w I:=⟨h,Nat.le_of_eq k.symm⟩
theorem k2.F{a b c:x5}(k:k2 b c)(h:k2 a b):k2 a c:=⟨k.1.F h.1,X3 h.2 k.2⟩
structure cU(w I:x5):Prop where
 os:I.os=w.os
 tape:k2 w I
 output:I.output=w.output
 size:w.heap.size<=I.heap.size
 a7:∀(r:Nat)(o:Obj),w.heap[r]?=σ o->gf o=sp->I.heap[r]?=σ o
structure cQ(n:Nat)(w I:x5):Prop where
 os:I.os=w.os
 tape:k2 w I
 output:I.output=w.output
 size:w.heap.size<=I.heap.size
 a7:∀(r:Nat)(o:Obj),w.heap[r]?=σ o->book o=s2->I.heap[r]?=σ o
 old:∀(r:Nat)(o:Obj),r<n->w.heap[r]?=σ o->gf o=sp->I.heap[r]?=σ o
theorem cU.b(h:cU w I):cQ n w I:=⟨h.os,h.tape,h.output,h.size,λr o a V=>h.a7 r o a (zQ V),λr o _ a V=>h.a7 r o a V⟩
theorem cQ.refl(n:Nat)(w:x5):cQ n w w:=⟨rfl,.lK,rfl,o6 _,λ_ _ h _=>h,by grind⟩
theorem cQ.F{a b c:x5}(h:cQ n a b)(k:cQ n b c):cQ n a c:=
 ⟨k.os.F h.os,k.tape.F h.tape,k.output.F h.output,X3 h.size k.size,λr o e V=>k.a7 r o (h.a7 r o e V) V,λr o f e V=>k.old r o f (h.old r o f e V) V⟩
theorem cQ.cR(h:cQ n w I)(e:w.heap.size<=n):cU w I:=
 ⟨h.os,h.tape,h.output,h.size,λr o a V=>h.old r o (Nat.lt_of_lt_of_le (Y2.1 a).1 e) a V⟩
structure gg(n:Nat)(w I:x5):Prop where
 os:I.os=w.os
 tape:k2 w I
 output:I.output=w.output
 size:w.heap.size<=I.heap.size
 old:∀(r:Nat)(o:Obj),r<n->w.heap[r]?=σ o->gf o=sp->I.heap[r]?=σ o
theorem cQ.o(h:cQ n w I):gg n w I:=⟨h.os,h.tape,h.output,h.size,h.old⟩
theorem cU.o(h:cU w I):gg n w I:=⟨h.os,h.tape,h.output,h.size,λr o _ a V=>h.a7 r o a V⟩
theorem gg.Y{m:Nat}(h:gg n w I)(hm:m<=n):gg m w I:=⟨h.os,h.tape,h.output,h.size,λr o a=>h.old r o (Nat.lt_of_lt_of_le a hm)⟩
theorem cQ.zR{m:Nat}{a b c:x5}(h:cQ n a b)(k:gg m b c)(hm:a.heap.size<=m):cQ n a c:=
 ⟨k.os.F h.os,k.tape.F h.tape,k.output.F h.output,X3 h.size k.size,
  λr o e V=>k.old r o (Nat.lt_of_lt_of_le (Y2.1 e).1 hm) (h.a7 r o e V) (zQ V),
  λr o f e V=>k.old r o (Nat.lt_of_lt_of_le (Y2.1 e).1 hm) (h.old r o f e V) V⟩
def fp(w I:x5):Prop:=∀(r:Nat)(o:Obj),w.heap[r]?=σ o->tt o=s2->I.heap[r]?=σ o
theorem fp.refl(w:x5):fp w w:=λ_ _ h _=>h
theorem fp.F{a b c:x5}(h:fp a b)(k:fp b c):fp a c:=λr o e V=>k r o (h r o e V) V
theorem cU.kD(h:cU w I):fp w I:=λr o a V=>h.a7 r o a (HF V)
abbrev gh:=Bool×Nat
theorem cU.refl(w:x5):cU w w:=⟨rfl,.lK,rfl,o6 _,λ_ _ h _=>h⟩
theorem cU.F{a b c:x5}(h:cU a b)(k:cU b c):cU a c:=
 ⟨k.os.F h.os,k.tape.F h.tape,k.output.F h.output,X3 h.size k.size,λr o e V=>k.a7 r o (h.a7 r o e V) V⟩
theorem tu(w:x5)(n:Nat):Ext w {w with drawn:=n}:=⟨o6 _,λ_ _ h _=>h⟩
theorem rz(w:x5)(n:Nat)(h:w.drawn<=n):cU w {w with drawn:=n}:=⟨rfl,⟨rfl,h⟩,rfl,o6 _,λ_ _ h _=>h⟩
theorem rA(w:x5)(o:Obj):Ext w {w with heap:=w.heap.push o}:=
 ⟨Ξ,λr o' h _=>by
  grind⟩
theorem rB(w:x5)(o:Obj):cU w {w with heap:=w.heap.push o}:=
 ⟨rfl,.lK,rfl,Ξ,λr o' h _=>by
  grind⟩
inductive eT where
 |v (x:x4)
 |b (c:Bool)
 |u
def eT.val:eT->x4
 | .v x=>x
 | .b c=>.bool c
 | .u=>undef
def eT.ofConst:x4->eT
 | .bool c=>.b c
 |x=>.v x
theorem eT.HG(x:x4):(eT.ofConst x).val=x:=by cases x<;>rfl
abbrev Env:=List (Nat×eT)
def look:Env->Nat->Option eT
 |[],_=>ν
 |(s,x)::r,t=>bif S4 s t then σ x else look r t
def e4(e:Env):S0->Option eT
 | .tmp t=>look e t
 | .const x=>σ (eT.ofConst x)
 | .global g=>σ (.v (Γ g))
 | .func f=>σ (.v (.func (.func f) #[] #[]))
def c6(e:Env)(x:S0):x4:=
 match e4 e x with
 |some y=>y.val
 |none=>undef
def known(e:Env):List S0->Bool
 |[]=>s2
 |x::r=>(e4 e x).isSome&&known e r
def S1(N:Nat)(e:Env)(a:Act):Prop:=
 a.tmps.size=N/\∀t x,look e t=σ x->a.tmps.getD t undef=x.val
theorem S1.e4{N:Nat}{e:Env}{a:Act}(h:S1 N e a){x:S0}{y:eT}(J:Vc.e4 e x=σ y):a.eval x=y.val:=by
 cases x with
 |tmp t=>exact h.2 t y J
 |const v=>simp[Vc.e4]at J;subst J;simp[Act.eval,eT.HG]
 |global g=>simp[Vc.e4]at J;subst J;rfl
 |func f=>simp[Vc.e4]at J;subst J;rfl
theorem S1.eval{N:Nat}{e:Env}{a:Act}(h:S1 N e a){x:S0}(J:(Vc.e4 e x).isSome=s2):a.eval x=c6 e x:=by
 obtain⟨y,f⟩:=Option.isSome_iff_exists.1 J;rw[h.e4 f];simp[c6,f]
theorem zS{e:Env}:∀{l:List S0},known e l=s2->∀x∈l,(e4 e x).isSome=s2
 :=by
 intro a;induction a<;>grind [known]
def ew(e:Env)(d:Option Tmp)(x:eT):Env:=
 match d with
 |some t=>(t,x)::e
 |none=>e
def k3(N:Nat)(d:Option Tmp):Bool:=
 match d with
 |some t=>Nat.blt t N
 |none=>s2
theorem S1.put{N:Nat}{e:Env}{a:Act}(h:S1 N e a){d:Option Tmp}(r:k3 N d=s2){x:eT}(ac:x.val=v):
  S1 N (ew e d x) (a.put d v):=by
 cases d with
 |none=>exact h
 |some t=>
  have q:t<N:=by grind [k3,Nat.blt_eq]
  refine⟨by simp[Act.put,h.1],λs y V=>?_⟩;simp only[ew,look]at V;cases f:S4 t s with
  |true=>
   have j:=Nat.eq_of_beq_eq_true f;subst j;simp only[f,cond_true,W7]at V;subst V;simp[Act.put,h.1,q,ac]
  |false=>
   have j:=Nat.ne_of_beq_eq_false f;simp only[f,cond_false]at V;have:=h.2 s y V;simp only[Act.put,Array.getD_eq_getD_getElem?]at this ⊢
   grind
def eU(r:Option Nat):Fence:={Fence.wide with round:=r}
theorem wm(r:Option Nat)(n:Nat):(eU r).depth.isSome=s2->1<=n:=by grind [eU,Fence.wide]
theorem zT{r:Option Nat}{P:W0}{f:S8}{args:Array x4}{R:Ending->x5->Prop}(h:Calls P f args w R):CallsIn (eU r) n P f args w R:=by
 have:=(callsIn_wide (n:=n)).2 h;exact this
section
variable(P:W0)
def aM{α:Type}(s:Sem α)(w:x5)(K:α->x5->Prop):Prop:=∃v I,s.run P w= .ok v I/\cU w I/\K v I
def tv{α:Type}(free:gh)(s:Sem α)(w:x5)(K:α->x5->Prop):Prop:=∃v I,s.run P w= .ok v I/\(free.1=sp->cQ free.2 w I)/\K v I
def Split(x:x4)(A B:Prop):Prop:=∃c,x= .bool c/\(c=s2->A)/\(c=sp->B)
def bf:Bool->S0
 |true=>.const (.bool s2)
 |false=>.tmp 0
def qo:S0->Bool
 | .const _=>s2
 |_=>sp
theorem HH(op:BinOp)(t:o4)(x y:S0)(a b:x4):eqGuard op t x y a b=eqGuard op t (bf (qo x)) (bf (qo y)) a b:=by
 cases x<;>cases y<;>rfl
def aT(op:BinOp)(t:o4)(cx cy:Bool)(a b:x4):Sem x4:=do eqGuard op t (bf cx) (bf cy) a b;binOp op t a b
def tw(s:Sem Next):Sem x4:=do
 match <-s with
 | .value v=>pure v
 |_=>stuck "no value"
def b1(x:x4):Sem x4:=tw (execOp (λ_=>x) {dst:=ν,op:=.nilCheck (.tmp 0),type:=0,pos:= "",after:=#[],guard:=ν})
def cg(a:S0->x4):List S0->List x4
 |[]=>[]
 |x::r=>a x::cg a r
theorem tx(a:S0->x4):∀l,cg a l=l.map a
 |[]=>rfl
 |x::r=>by simp[cg,tx a r]
theorem wn(a:S0->x4)(l:Array S0):(cg a l.toList).toArray=l.map a:=by
 grind [tx]
def partsOf(a:S0->x4):List (Nat×S0)->List (Nat×x4)
 |[]=>[]
 |x::r=>(x.1,a x.2)::partsOf a r
theorem zU(a:S0->x4):∀l,partsOf a l=l.map λ(i,x)=>(i,a x)
 |[]=>rfl
 |x::r=>by simp[partsOf,zU a r]
theorem HI(a:S0->x4)(l:Array (Nat×S0)):(partsOf a l.toList).toArray=l.map λ(i,x)=>(i,a x):=by
 grind [zU]
def opsOf:Op->List S0
 | .alloc _| .ready _| .waits _=>[]
 | .move x| .assign x| .box _ x| .load _ x| .nilCheck x| .unOp _ _ x| .convert _ _ x| .sliceToArrayPointer _ x| .makeInterface _ x
 | .makeChan _ x| .fieldAddr _ x _| .field _ x _| .range _ x| .next x _| .entry x| .typeAssert x _ _ _| .extract x _| .panic x| .recv _ x _=>[x]
 | .pick c a b=>[c,a,b]
 | .build _ e| .buildSlice _ _ e=>e.toList.map (·.2)
 | .store _ a v| .binOp _ _ a v _| .makeSlice _ a v| .indexAddr _ a v| .index _ a v| .lookup _ a v _| .mapEntry _ a v| .send a v=>[a,v]
 | .makeFunc _ first j=>first.toList++j.toList
 | .makeMap _ r=>match r with
  |some x=>[x]
  |none=>[]
 | .slice _ x l h m=>x::((match l with
  |some y=>[y]
  |none=>[])++((match h with
  |some y=>[y]
  |none=>[])++(match m with
  |some y=>[y]
  |none=>[])))
 | .mapUpdate _ m k v| .entryStore _ m k v| .insert _ m k v=>[m,k,v]
 | .call c=>match c.callee with
  | .value f=>f::c.args.toList
  | .invoke r _=>r::c.args.toList
  | .builtin _=>c.args.toList
 | .go _| .defer _| .select ..=>[]
theorem HJ{op:Op}(h1:∀c,op≠ .go c)(a:∀c,op≠ .defer c)(e:∀cs b,op≠ .select cs b):∀x∈op.operands,x∈opsOf op:=by
 intro x J;cases op<;>simp only[Op.operands,opsOf]at J ⊢<;>try (first|(simp at J;done)|(simp at J ⊢;exact J))
 all_goals grind [Call.operands]
def rC(e:S0->x4):Op->Option (Sem x4)
 | .pick c a b=>σ (do pure (if <-asBool (e c)then e a else e b))
 | .alloc j=>σ (R3 j s2 (.tuple #[]))
 | .box j x=>σ (Instr.box j (e x))
 | .build t parts=>σ (Instr.build t (partsOf e parts.toList).toArray)
 | .buildSlice t len parts=>σ (Y4 t len (partsOf e parts.toList).toArray)
 | .load t a=>σ (u5 t (e a))
 | .nilCheck x=>σ (b1 (e x))
 | .binOp op jN x y _=>σ (aT op jN (qo x) (qo y) (e x) (e y))
 | .unOp op _ x=>σ (Op.unary op (e x))
 | .convert src dst x=>σ (convert src dst (e x))
 | .makeInterface jN x=>σ (Instr.makeInterface jN (e x))
 | .makeFunc fn first q=>σ (Instr.makeFunc fn (cg e first.toList).toArray (cg e q.toList).toArray)
 | .makeMap t r=>σ (Instr.makeMap t (r.map e))
 | .makeSlice t l c=>σ (Instr.makeSlice t (e l) (e c))
 | .slice t x lo hi mx=>σ (V5 t (e x) (lo.map e) (hi.map e) (mx.map e))
 | .fieldAddr s x f=>σ (u6 s (e x) f)
 | .field jN x f=>σ (Instr.field jN (e x) f)
 | .indexAddr t x h=>σ (n9 t (e x) (e h))
 | .index jN x h=>σ (Instr.index jN (e x) (e h))
 | .lookup jN x h ok=>σ (Instr.lookup jN (e x) (e h) ok)
 | .mapEntry t m k=>σ (Instr.mapEntry t (e m) (e k))
 | .range jN x=>σ (Instr.range jN (e x))
 | .entry w=>σ (Instr.entry (e w))
 | .typeAssert x jN z ok=>σ (Instr.typeAssert (e x) jN z ok)
 | .extract t h=>σ (Z7 (e t) h)
 |_=>ν
def wo(e:S0->x4):Op->Option (Sem Unit)
 | .store t a x=>σ (o7 t (e a) (e x))
 | .mapUpdate t m k x=>σ (Instr.mapUpdate t (e m) (e k) (e x))
 | .insert t m k x=>σ (Instr.mapUpdate t (e m) (e k) (e x))
 | .entryStore t m s x=>σ (Instr.entryStore t (e m) (e s) (e x))
 |_=>ν
def qp(b:Z0)(ats:Array o4)(a:o4)(args:Array x4):Option (Sem x4):=
 match b with
 | .append=>σ (b9 ats a args)
 | .cap=>σ (Z0.cap_ ats a args)
 | .clear=>σ (Z0.clear_ ats a args)
 | .copy=>σ (Z0.copy_ ats a args)
 | .delete=>σ (Z0.delete_ ats a args)
 | .len=>σ (X8 ats a args)
 | .max=>σ (Z0.max_ ats a args)
 | .min=>σ (Z0.min_ ats a args)
 |_=>ν
theorem HK{s:Sem Next}(h:(tw s).run P w= .ok v I):s.run P w= .ok (.value v) I:=by
 unfold tw at h;rw[W6]at h;cases V:s.run P w with
 |halt x U=>grind [W9]
 |ok x U=>
  rw[V]at h;cases x<;>simp_all [W9,stuck,V2]
theorem HL(x:x4)(b:Bool)(t:o4):Instr.next x b 0=Instr.next x b t:=rfl
theorem wp{e:S0->x4}{o:U9}{s:Sem x4}(h:rC e o.op=σ s)(a:s.run P w= .ok v I):
  (execOp e o).run P w= .ok (.value v) I:=by
 cases aC:o.op with
 |nilCheck x=>
  rw[aC]at h;cases h;have:=HK P a
  grind [execOp]
 |pick c x y=>
  rw[aC]at h;cases h;unfold execOp;simp only[aC,W6,V2]at a ⊢;cases f:(asBool (e c)).run P w<;>grind [W9]
 |binOp op jN x y j=>
  rw[aC]at h;cases h;unfold execOp;simp only[aC];unfold aT at a;rw[<-HH]at a;simp only[W6,V2]at a ⊢;rw[a];rfl
 |_=>
  rw[aC]at h
  first
   |(cases h;done)
   |(cases h;simp only[wn,HI]at a;grind [execOp,W6,W9,V2])
   |(cases h;unfold execOp;simp only[aC,W6,a,W9,V2])
theorem HM{a:S0->x4}{o:U9}{s:Sem Unit}(h:wo a o.op=σ s){v:Unit}(e:s.run P w= .ok v I):
  (execOp a o).run P w= .ok .skip I:=by
 cases aC:o.op with
 |_=>
  rw[aC]at h
  first
   |(cases h;done)
   |(cases h;grind [execOp,W6,W9,V2])
def Enters(f:S8):Prop:=∀args w,(callFunc f args).run P w= .ok (.enter f args) w
inductive aq(f:S8)(args:List x4)(w:x5)(K:x4->x5->Prop):Prop
 |code (h1:Enters P f) (h2:Calls P f args.toArray w λe I=>∃v,e= .returned v/\cU w I/\K v I)
 |ext (v:x4) (I:x5) (h1:(callFunc f args.toArray).run P w= .ok (.value v) I) (h2:cU w I) (h3:K v I)
inductive ip(f:S8)(args:List x4)(w:x5)(K:x4->x5->Prop):Prop
 |code (h1:Enters P f) (h2:Calls P f args.toArray w λe I=>∃v,e= .returned v/\K v I)
 |ext (v:x4) (I:x5) (h1:(callFunc f args.toArray).run P w= .ok (.value v) I) (h3:K v I)
theorem ip.calls{f:S8}{K:x4->x5->Prop}(h:ip P f args w K)(a:Enters P f):Calls P f args.toArray w λe I=>∃v,e= .returned v/\K v I:=by
 cases h with
 |code _ h=>exact h
 |ext v I h1=>rw[a]at h1;cases h1
def jm(l:Nat)(args:List x4)(w:x5)(K:x4->x5->Prop):Prop:=
 YieldAt Fence.wide 0 P l args.toArray w λe I=>∃v,e= .returned v/\K v I
theorem jm.Y{P:W0}{l:Nat}{K a:x4->x5->Prop}(h:jm P l args w K)(e:∀v I,K v I->a v I):jm P l args w a:=by
 obtain⟨fn,tmps,f,body,j,q⟩:=h;exact⟨fn,tmps,f,body,j,RoundIn.mono q λ_ I ⟨v,h1,r⟩=>⟨v,h1,e v I r⟩⟩
def tz(free:Bool)(f:x4)(args:List x4)(w:x5)(K:x4->x5->Prop):Prop:=
 match f with
 | .func (.func g) first cap=>bif free then ip P g (first.toList++args++cap.toList) w K else aq P g (first.toList++args++cap.toList) w K
 | .func (.yield l) first _=>bif free then free=s2/\jm P l (first.toList++args) w K else jm P l (first.toList++args) w λv I=>cU w I/\K v I
 |_=>False
def ad(s:Sem x4)(w:x5)(K:x4->Prop):Prop:=∃v,(∀I,Ext w I->s.run P I= .ok v I)/\K v
def HN:List (Nat×Nat):=[(9,22),(22,22)]
def HO(s d:Nat):Bool:=HN.any λp=>S4 p.1 s&&S4 p.2 d
def lL(o:U9):Bool:=
 match o.op with
 | .convert s d _=>!HO s d
 | .move _| .assign _| .pick .. | .load .. | .nilCheck _| .binOp .. | .unOp .. | .makeInterface .. | .makeFunc .. | .slice .. | .fieldAddr .. | .field ..
 | .indexAddr .. | .index .. | .lookup .. | .extract .. | .build .. | .typeAssert ..=>s2
 | .call c=>
  match c.callee with
  | .builtin .len| .builtin .cap| .builtin .min| .builtin .max=>s2
  |_=>sp
 |_=>sp
def ch(s:Sem x4)(v:x4)(I:x5):Prop:=∀a,Ext I a->s.run P a= .ok v a
def nt(o:U9)(e:Env)(w:x5)(K:Env->(x5->Prop)->Prop):Prop:=
 bif known e (opsOf o.op)then
  match o.op with
  | .move x| .assign x=>
   match e4 e x with
   |some y=>K (ew e o.dst y) (λ_=>True)
   |none=>False
  | .pick c a b=>
   match e4 e c with
   |some (.b s2)=>(match e4 e a with|some y=>K (ew e o.dst y) (λ_=>True)|none=>False)
   |some (.b sp)=>(match e4 e b with|some y=>K (ew e o.dst y) (λ_=>True)|none=>False)
   |some (.v x)=>Split x (K (ew e o.dst (.v (c6 e a))) (λ_=>True)) (K (ew e o.dst (.v (c6 e b))) (λ_=>True))
   |some .u=>False
   |none=>False
  | .call c=>
   match c.callee with
   | .builtin b=>
    match qp b c.argTypes o.type (cg (c6 e) c.args.toList).toArray with
    |some s=>ad P s w λv=>K (ew e o.dst (.v v)) (ch P s v)
    |none=>False
   |_=>False
  |op=>
   match rC (c6 e) op with
   |some s=>ad P s w λv=>K (ew e o.dst (.v v)) (ch P s v)
   |none=>False
 else False
def wq(free:gh)(o:U9)(e:Env)(w:x5)(K:Env->x5->Prop):Prop:=
 bif known e (opsOf o.op)then
  match o.op with
  | .call c=>
   match c.callee with
   | .builtin b=>
    match qp b c.argTypes o.type (cg (c6 e) c.args.toList).toArray with
    |some s=>aM P s w λv I=>K (ew e o.dst (.v v)) I
    |none=>False
   | .value (.func f)=>
    bif free.1 then ip P f (cg (c6 e) c.args.toList) w λv I=>K (ew e o.dst (.v v)) I
    else aq P f (cg (c6 e) c.args.toList) w λv I=>K (ew e o.dst (.v v)) I
   | .value x=>tz P free.1 (c6 e x) (cg (c6 e) c.args.toList) w λv I=>K (ew e o.dst (.v v)) I
   | .invoke _ _=>False
  | .next x str=>tv P free (Instr.next (c6 e x) str 0) w λv I=>K (ew e o.dst (.v v)) I
  |op=>
   match rC (c6 e) op with
   |some s=>aM P s w λv I=>K (ew e o.dst (.v v)) I
   |none=>
    match wo (c6 e) op with
    |some s=>aM P s w λ_ I=>K (ew e o.dst (.v undef)) I
    |none=>False
 else False
def qq(free:gh)(o:U9)(e:Env)(w:x5)(K:Env->x5->Prop):Prop:=
 bif lL o then nt P o e w (λa _=>K a w)else wq P free o e w K
theorem Enters.of{f:S8}{fn:Func}{c:Code}(ah:P.funcs[f]?=σ fn)(a:fn.body=σ c)(e:(fn.name == "runtime.NumGoroutine")=sp):Enters P f:=by
 intro args w
 grind [callFunc,W6,program,Sem.run,W9,V2]
variable{P}
variable{N:Nat}{r:Option Nat}{o:U9}{e:Env}{a:Act}{w:x5}
theorem lM(f:S1 N e a)(hk:known e (opsOf o.op)=s2)(V:∀cs b,o.op≠ .select cs b)(h:∀c,o.op≠ .go c:=by simp_all)(j:∀c,o.op≠ .defer c:=by simp_all):
  execOp a.eval o=execOp (c6 e) o:=
 execOp_congr o V λx J=>f.eval (by grind [zS,HJ])
theorem rD{next:Act->x5->Prop}{Q:Exit->Act->x5->Prop}(f:S1 N e a)(hk:known e (opsOf o.op)=s2)(V:∀cs b,o.op≠ .select cs b)(j:∀c,o.op≠ .defer c){v:x4}{I:x5}(q:(execOp (c6 e) o).run P w= .ok (.value v) I)(h:next (a.put o.dst v) I)(s:∀c,o.op≠ .go c:=by simp_all):o.wpIn (eU r) 0 P a w next Q:=by
 refine⟨λ_ _=>trivial,?_⟩
 grind [U9.semAt_eq,lM,U9.uponIn_value]
theorem HP{next:Act->x5->Prop}{Q:Exit->Act->x5->Prop}(f:S1 N e a)(hk:known e (opsOf o.op)=s2)(V:∀cs b,o.op≠ .select cs b)(j:∀c,o.op≠ .defer c){I:x5}(q:(execOp (c6 e) o).run P w= .ok .skip I)(h:next (a.put o.dst undef) I)(s:∀c,o.op≠ .go c:=by simp_all):o.wpIn (eU r) 0 P a w next Q:=by
 refine⟨λ_ _=>trivial,?_⟩
 grind [U9.semAt_eq,lM,U9.uponIn_skip]
def fO(N:Nat)(free:gh)(K:Env->x5->Prop)(o:U9)(a:Act)(w:x5)(a':Act)(I:x5):Prop:=
 ∃e v,K e I/\S1 N e a'/\a'=a.put o.dst v/\(free.1=sp->cQ free.2 w I)
theorem fO.of{free:gh}{K:Env->x5->Prop}{x:eT}(f:K (ew e o.dst x) I)(h:S1 N e a)(j:k3 N o.dst=s2)(J:x.val=v)(q:free.1=sp->cQ free.2 w I):fO N free K o a w (a.put o.dst v) I:=⟨_,v,f,h.put j J,rfl,q⟩
theorem zV{free:gh}{K:Env->x5->Prop}{Q:Exit->Act->x5->Prop}{f:S8}{args:Array x4}(q:S1 N e a)(s:k3 N o.dst=s2)(h:Calls P f args w λj I=>∃v,j= .returned v/\(free.1=sp->cQ free.2 w I)/\K (ew e o.dst (.v v)) I):
  o.uponIn (eU r) 0 P a (fO N free K o a w) Q (.ok (.enter f args) w):=by
 rw[U9.uponIn_enter];refine⟨wm _ _,CallsIn.mono (zT h) ?_⟩;rintro j I ⟨v,rfl,x,y⟩;exact fO.of y q s rfl x
theorem nu{x:S0}{y:eT}(h:e4 e x=σ y):c6 e x=y.val:=by simp[c6,h]
theorem zW{l:List S0}{x:S0}(hk:known e l=s2)(J:x∈l):∃y,e4 e x=σ y:=Option.isSome_iff_exists.1 (zS hk x J)
theorem zX{K:Env->(x5->Prop)->Prop}(h:nt P o e w K)(r:S1 N e a)(H:k3 N o.dst=s2):
  ∃v,∃st:x5->Prop,(∀I,Ext w I->(execOp a.eval o).run P I= .ok (.value v) I)/\(∃A,K A st/\S1 N A (a.put o.dst v))/\(∀c,o.op≠ .defer c)/\
   (∀I,st I->∀j,Ext I j->(execOp a.eval o).run P j= .ok (.value v) j):=by
 unfold nt at h;cases hk:known e (opsOf o.op)with
 |false=>grind
 |true=>
  rw[hk]at h;simp only[cond_true]at h;have put:∀{x:eT}{v:x4}{st:x5->Prop},K (ew e o.dst x) st->x.val=v->∃A,K A st/\S1 N A (a.put o.dst v):=λh1 B=>⟨_,h1,r.put H B⟩;cases aC:o.op with
  |move x=>
   rw[aC]at h;simp only at h;cases J:e4 e x with
   |none=>grind
   |some y=>
    rw[J]at h;have all:∀I:x5,(execOp a.eval o).run P I= .ok (.value y.val) I:=λI=>by
     rw[lM r hk (by simp[aC])]
     grind [execOp,V2,nu]
    exact⟨y.val,_,by grind,put h rfl,Ξ,by grind⟩
  |assign x=>
   rw[aC]at h;simp only at h;cases J:e4 e x with
   |none=>grind
   |some y=>
    rw[J]at h;have all:∀I:x5,(execOp a.eval o).run P I= .ok (.value y.val) I:=λI=>by
     rw[lM r hk (by simp[aC])]
     grind [execOp,V2,nu]
    exact⟨y.val,_,by grind,put h rfl,Ξ,by grind⟩
  |pick c x y=>
   rw[aC]at h;simp only at h;have E:=hk;rw[aC]at E;obtain⟨Q,J⟩:=zW E (x:=x) (by simp[opsOf]);obtain⟨R,G⟩:=zW E (x:=y) (by simp[opsOf]);have C:∀(t:Bool)(I:x5),c6 e c= .bool t->(execOp a.eval o).run P I= .ok (.value (if t=s2 then c6 e x else c6 e y)) I:=by
    grind [lM,execOp,asBool,V2]
   cases f:e4 e c with
   |none=>grind
   |some L=>
    rw[f]at h;cases L with
    |b t=>
     cases t with
     |true=>
      simp only[J]at h;exact⟨_,_,λI _=>C s2 I (nu f),put h (by simp[nu J]),Ξ,λ_ _ I _=>C s2 I (nu f)⟩
     |false=>
      simp only[G]at h;exact⟨_,_,λI _=>C sp I (nu f),put h (by simp[nu G]),Ξ,λ_ _ I _=>C sp I (nu f)⟩
    |v z=>
     obtain⟨t,M,O,ah⟩:=h;have q:=λI=>C t I (by rw[nu f];exact M);cases t with
     |true=>exact⟨_,_,λI _=>q I,put (O rfl) rfl,Ξ,by grind⟩
     |false=>exact⟨_,_,λI _=>q I,put (ah rfl) rfl,Ξ,by grind⟩
    |u=>exact h.elim
  |call c=>
   rw[aC]at h;simp only at h;cases f:c.callee with
   |builtin b=>
    rw[f]at h;simp only at h;rw[wn]at h;cases V:qp b c.argTypes o.type (c.args.map (c6 e))with
    |none=>grind
    |some s=>
     rw[V]at h;obtain⟨v,q,F⟩:=h;have all:∀I:x5,s.run P I= .ok v I->(execOp a.eval o).run P I= .ok (.value v) I:=λI q=>by
      rw[lM r hk (by simp[aC])];unfold execOp;cases b<;>simp only[qp]at V<;>first|(cases V;done)|(cases V;simp[aC,f,resolve,invoke,builtin,q,W9])
     exact⟨v,_,by grind,put F rfl,Ξ,λI h1 j B=>all j (h1 j B)⟩
   |value x=>grind
   |invoke x m=>grind
  |_=>
   rw[aC]at h
   first
    |(simp only[rC]at h;done)
    |(obtain⟨v,q,F⟩:=h
      refine⟨v,_,λI hw=>?_,put F rfl,Ξ,λI h1 j B=>?_⟩
      .rw[lM r hk (by simp[aC])];exact wp P (by rw[aC];rfl) (q I hw)
      .rw[lM r hk (by simp[aC])];exact wp P (by rw[aC];rfl) (h1 j B))
theorem HQ{free:gh}{K:Env->x5->Prop}{Q:Exit->Act->x5->Prop}(h:wq P free o e w K)(j:S1 N e a)(C:k3 N o.dst=s2):
  o.wpIn (eU r) 0 P a w (fO N free K o a w) Q:=by
 unfold wq at h;cases hk:known e (opsOf o.op)with
 |false=>grind
 |true=>
  rw[hk]at h;simp only[cond_true]at h;cases aC:o.op with
  |call c=>
   rw[aC]at h;simp only at h;cases F:c.callee with
   |builtin b=>
    rw[F]at h;simp only at h;rw[wn]at h;cases V:qp b c.argTypes o.type (c.args.map (c6 e))with
    |none=>grind
    |some s=>
     rw[V]at h;obtain⟨v,I,z,A,q⟩:=h;refine rD j hk (by simp[aC]) (by simp[aC]) (v:=v) ?_ (fO.of q j C rfl λ_=>A.b);unfold execOp;cases b<;>simp only[qp]at V<;>first|(cases V;done)|(cases V;simp[aC,F,resolve,invoke,builtin,z,W9])
   |value x=>
    rw[F]at h;have step:∀(d:Deferred)(y:x4),c6 e x=y->Deferred.ofValue y (c.args.map (c6 e))=pure d->
      (invoke d.target d.args).run P w=(execOp (c6 e) o).run P w:=by
     grind [execOp,resolve]
    have G:∀(g:S8)(first cap:Array x4),c6 e x= .func (.func g) first cap->
      (execOp (c6 e) o).run P w=(callFunc g (first.toList++cg (c6 e) c.args.toList++cap.toList).toArray).run P w:=by
     intro g first cap B
     rw[<-step {target:=.fn (.func g) cap,args:=first++c.args.map (c6 e)} _ B rfl];simp only[invoke];have H:first++c.args.map (c6 e)++cap=(first.toList++cg (c6 e) c.args.toList++cap.toList).toArray:=by grind [tx]
     rw[H]
    have enter:∀(g:S8)(first cap:Array x4),c6 e x= .func (.func g) first cap->Enters P g->
      (execOp (c6 e) o).run P w= .ok (.enter g (first.toList++cg (c6 e) c.args.toList++cap.toList).toArray) w:=by
     intro g first cap B E
     rw[G g first cap B,E]
    have go:∀(g:S8)(first cap:Array x4),c6 e x= .func (.func g) first cap->
      (bif free.1 then ip P g (first.toList++cg (c6 e) c.args.toList++cap.toList) w λv I=>K (ew e o.dst (.v v)) I
       else aq P g (first.toList++cg (c6 e) c.args.toList++cap.toList) w λv I=>K (ew e o.dst (.v v)) I)->
      o.wpIn (eU r) 0 P a w (fO N free K o a w) Q:=by
     intro g first cap B h
     obtain⟨fr,M⟩:=free;cases fr with
     |true=>
      rcases h with⟨E,L⟩|⟨v,I,z,q⟩
      .refine⟨λ_ _=>trivial,?_⟩
       grind [U9.semAt_eq,lM,zV]
      .rw[<-G g first cap B]at z;exact rD j hk (by simp[aC]) (by simp[aC]) z (fO.of q j C rfl (by grind))
     |false=>
      rcases h with⟨E,L⟩|⟨v,I,z,A,q⟩
      .refine⟨λ_ _=>trivial,?_⟩;rw[U9.semAt_eq _ _ _ (by simp[aC]),lM j hk (by simp[aC])];rw[enter g first cap B E];exact zV j C (L.Y (by grind [cU.b]))
      .rw[<-G g first cap B]at z;exact rD j hk (by simp[aC]) (by simp[aC]) z (fO.of q j C rfl λ_=>A.b)
    have J:tz P free.1 (c6 e x) (cg (c6 e) c.args.toList) w (λv I=>K (ew e o.dst (.v v)) I)->
      o.wpIn (eU r) 0 P a w (fO N free K o a w) Q:=by
     intro h;unfold tz at h;split at h
     .grind
     .rename_i l first cap B
      obtain⟨fn,tmps,O,body,R,S⟩:jm P l (first.toList++cg (c6 e) c.args.toList) w λv I=>(free.1=sp->cQ free.2 w I)/\K (ew e o.dst (.v v)) I:=by
       obtain⟨fr,M⟩:=free;cases fr with
       |true=>exact jm.Y h.2 (by grind)
       |false=>exact jm.Y h λv I hk=>⟨λ_=>hk.1.b,hk.2⟩
      refine⟨λ_ _=>trivial,?_⟩;rw[U9.semAt_eq _ _ _ (by simp[aC]),lM j hk (by simp[aC])];have:(execOp (c6 e) o).run P w= .ok (.round l fn tmps O body) w:=by
       rw[<-step {target:=.fn (.yield l) cap,args:=first++c.args.map (c6 e)} _ B rfl,<-R];have H:(first.toList++cg (c6 e) c.args.toList).toArray=first++c.args.map (c6 e):=by grind [tx]
       rw[H];rfl
      rw[this,U9.uponIn_round];refine⟨wm _ _,?_⟩;have T:=S;refine RoundIn.mono T ?_;rintro U I ⟨v,rfl,A,q⟩;exact fO.of q j C rfl A
     grind
    cases x with
    |func f=>exact go f #[] #[] rfl (by simpa using h)
    |tmp t=>exact J h
    |const v=>exact J h
    |global g=>exact J h
   |invoke x m=>grind
  |next x str=>
   rw[aC]at h;obtain⟨v,I,z,A,q⟩:=h;refine rD j hk (by simp[aC]) (by simp[aC]) (v:=v) ?_ (fO.of q j C rfl A)
   grind [HL,execOp,W6,W9,V2]
  |_=>
   rw[aC]at h
   first
    |(simp only[rC,wo]at h;done)
    |(obtain⟨v,I,z,A,q⟩:=h
      exact rD j hk (by simp[aC]) (by simp[aC]) (wp P (by rw[aC];rfl) z) (fO.of q j C rfl λ_=>A.b))
    |(obtain⟨v,I,z,A,q⟩:=h
      exact HP j hk (by simp[aC]) (by simp[aC]) (HM P (by rw[aC];rfl) z) (fO.of q j C rfl λ_=>A.b))
theorem tA{free:gh}{K:Env->x5->Prop}{Q:Exit->Act->x5->Prop}(h:qq P free o e w K)(j:S1 N e a)(q:k3 N o.dst=s2):
  o.wpIn (eU r) 0 P a w (fO N free K o a w) Q:=by
 unfold qq at h;cases s:lL o with
 |false=>grind [HQ]
 |true=>
  rw[s]at h;have h:nt P o e w (λf _=>K f w):=h;obtain⟨v,st,x,⟨f,y,z⟩,A,_⟩:=zX h j q;refine⟨λ_ _=>trivial,?_⟩;rw[U9.semAt_eq _ _ _ A,x w (Ext.refl _),U9.uponIn_value];exact⟨f,v,y,z,rfl,λ_=>cQ.refl _ _⟩
end
section
variable{P:W0}
def Still{α:Type}(P:W0)(s:Sem α):Prop:=∀w v U,s.run P w= .ok v U->U=w/\∀I,s.run P I= .ok v I
theorem Still.pure{α:Type}(a:α):Still P (Pure.pure a:Sem α):=λw v U h=>by
 rw[V2]at h;cases h;exact⟨rfl,λI=>by rw[V2]⟩
theorem Still.bind{α β:Type}{s:Sem α}{f:α->Sem β}(V:Still P s)(ah:∀a,Still P (f a)):Still P (s >>= f):=λw v U h=>by
 rw[W6]at h;cases e:s.run P w with
 |halt x aa=>grind [W9]
 |ok a aa=>
  rw[e]at h;obtain⟨rfl,j⟩:=V w a aa e;obtain⟨rfl,q⟩:=ah a _ v U h;exact⟨rfl,λI=>by rw[W6,j I];exact q I⟩
theorem Still.never{α:Type}{s:Sem α}(h:∀w v U,s.run P w≠ .ok v U):Still P s:=λw v U be=>m6 be (h w v U)
theorem Still.stuck{α:Type}(m:String):Still P (stuck m:Sem α):=.never λw v U h=>by simp[Go.stuck]at h
theorem Still.unsupported{α:Type}(m):Still P (unsupported m:Sem α):=.never λw v U h=>by simp[Go.unsupported]at h
theorem Still.program:Still P program:=λw v U h=>by cases h;exact⟨rfl,λ_=>rfl⟩
theorem Still.underlying(t:o4):Still P (underlying t):=Still.bind .program (by grind [Still.pure,Still.stuck])
theorem Still.typeInfo(t:o4):Still P (typeInfo t):=Still.bind .program λp=>by
 grind [Still.pure,Still.stuck]
theorem Still.sizeOf(t:o4):Still P (sizeOf t):=Still.bind (.typeInfo t) λ_=>Still.pure _
theorem Still.boundsPanic{α:Type}(k:o8)(x y:Int)(c:BoundsCode):Still P (boundsPanic k x y c:Sem α):=.never λw v U h=>by
 have e:∀(s:Sem Bool)(w:x5)(v:α)(U:x5),(s >>= λb=>(runtimePanic (.bounds (X5.wrap x) y b c):Sem α)).run P w≠ .ok v U:=by
  intro s w v U h;rw[W6]at h;cases f:s.run P w with
  |halt x aa=>rw[f]at h;simp[W9]at h
  |ok a aa=>rw[f]at h;simp[W9,Go.runtimePanic,Go.goPanic]at h
 unfold Go.boundsPanic at h;dsimp only at h;split at h
 .exact e _ _ _ _ h
 .exact e _ _ _ _ h
theorem Still.asIntOf(v:x4):Still P (asIntOf v):=by
 unfold Go.asIntOf;split
 .exact Still.pure _
 .exact Still.unsupported _
 .exact Still.stuck _
theorem Still.sureAddr(v:x4):Still P (Instr.sureAddr v):=by
 unfold Instr.sureAddr
 grind [Still.pure,Still.stuck]
theorem Still.extract(v:x4)(i:Nat):Still P (Z7 v i):=by
 unfold Z7
 grind [Still.pure,Still.stuck]
theorem Still.indexAt(t:o4)(x i:x4):Still P (n9 t x i):=by
 have tail:∀(t:o4)(k:o8)(i:Int)(base:Option Addr)(len:Nat)(e:o4),Still P (do
   let f:=len<=1&&(match <-Go.underlying t with| .array ..=>s2|_=>sp)
   match base with
   |some a=>
    if 0<=i/\i<len then Pure.pure (x4.pointer (σ (a.add (i.toNat*(<-Go.sizeOf e)))))
    else if f then Go.unsupported (.noEntry "op/indexAddr.an index out of range at an array of length 0 or 1 (ledger 616)")
    else Go.boundsPanic k i len .index
   |none=>Go.boundsPanic k i 0 .index):=by
  intro t k i base len e;refine .bind (.underlying t) λd=>?_;cases base with
  |none=>grind [Still.boundsPanic]
  |some a=>
   dsimp only;split
   .exact .bind (.sizeOf e) λ_=>.pure _
   grind [Still.unsupported,Still.boundsPanic]
 unfold n9;refine .bind (.asIntOf i) λh=>?_;refine .bind (.underlying t) λd=>?_;split
 .refine .bind (.sureAddr _) λb=>?_;refine .bind (.pure _) λy=>?_;exact tail _ _ _ _ _ _
 .refine .bind (.pure _) λy=>?_;exact tail _ _ _ _ _ _
 .refine .bind (.stuck _) λy=>?_;exact tail _ _ _ _ _ _
end
section
variable(P:W0)
def tB(free:gh)(ops:Array U9)(o:U9)(e:Env)(w:x5)(K:Env->x5->Prop):Prop:=
 match o.guard with
 |none=>qq P free o e w K
 |some (j,b)=>
  match(ops[j]?).bind (·.dst)with
  |none=>False
  |some s=>
   match look e s with
   |some (.b c)=>bif xor c b then K (ew e o.dst .u) w else qq P free o e w K
   |some (.v x)=>
    Split x (bif b then qq P free o ((s,.b s2)::e) w K else K (ew ((s,.b s2)::e) o.dst .u) w)
     (bif b then K (ew ((s,.b sp)::e) o.dst .u) w else qq P free o ((s,.b sp)::e) w K)
   |some .u=>K (ew e o.dst .u) w
   |none=>False
def qs(free:gh)(ops:Array U9):List U9->Env->x5->(Env->x5->Prop)->Prop
 |[],e,w,K=>K e w
 |o::l,e,w,K=>tB P free ops o e w λa I=>qs free ops l a I K
def wr(ops:Array U9)(o:U9)(e:Env)(w:x5)(K:Env->(x5->Prop)->Prop):Prop:=
 match o.guard with
 |none=>nt P o e w K
 |some (j,b)=>
  match(ops[j]?).bind (·.dst)with
  |none=>False
  |some s=>
   match look e s with
   |some (.b c)=>bif xor c b then K (ew e o.dst .u) (λ_=>True)else nt P o e w K
   |some (.v x)=>
    Split x (bif b then nt P o ((s,.b s2)::e) w K else K (ew ((s,.b s2)::e) o.dst .u) (λ_=>True))
     (bif b then K (ew ((s,.b sp)::e) o.dst .u) (λ_=>True)else nt P o ((s,.b sp)::e) w K)
   |some .u=>K (ew e o.dst .u) (λ_=>True)
   |none=>False
def nv(o:U9):Bool:=
 match o.op with
 | .move _| .assign _| .extract .. | .indexAddr ..=>s2
 |_=>sp
def od(ops:Array U9):List Nat->Option Nat
 |[]=>ν
 |i::r=>match ops[i]? with
  |some o=>bif lL o then σ i else od ops r
  |none=>od ops r
def ws(p:Nat->Prop):List Nat->Prop
 |[]=>True
 |[i]=>p i
 |i::r=>p i/\ws p r
def mo(a:Array Nat)(j k:Nat):Bool:=!(S4 k j)&&(!((a.getD j 0).testBit k)&& !((a.getD k 0).testBit j))
def tC(same:Bool)(q:Nat)(w:x5)(st:x5->Prop)(a:List (x5×List (Nat×(x5->Prop)))):List (x5×List (Nat×(x5->Prop))):=
 match same,a with
 |true,g::r=>(g.1,(q,st)::g.2)::r
 |_,a=>(w,[(q,st)])::a
def rE(a:Array Nat)(j:Nat):List (Nat×(x5->Prop))->Bool
 |[]=>sp
 |x::r=>mo a j x.1||rE a j r
def rF(a:Array Nat)(j:Nat)(I:x5):List (Nat×(x5->Prop))->Prop
 |[]=>True
 |x::r=>bif mo a j x.1 then x.2 I/\rF a j I r else rF a j I r
def pb(a:Array Nat)(j:Nat)(I:x5)(C:Prop):List (x5×List (Nat×(x5->Prop)))->Prop
 |[]=>C
 |g::r=>bif rE a j g.2 then(Ext g.1 I\/rF a j I g.2)/\pb a j I C r else pb a j I C r
def oe(free:gh)(ops:Array U9)(f:Array Nat):Nat->Array Bool->Bool->List (x5×List (Nat×(x5->Prop)))->Env->x5->(Env->x5->Prop)->Prop
 |0,a,_,_,e,w,K=>match Region.ready .any ops a with|[]=>K e w|_=>False
 |fuel+1,a,same,h,e,w,K=>
  match Region.ready .any ops a with
  |[]=>K e w
  |i::r=>
   match od ops (i::r)with
   |some q=>
    bif Region.free .any ops a q then
     match ops[q]? with
     |some o=>wr P ops o e w λs st=>
       bif nv o then oe free ops f fuel (a.setIfInBounds q s2) same h s w K
       else oe free ops f fuel (a.setIfInBounds q s2) s2 (tC same q w st h) s w K
     |none=>False
    else False
   |none=>
    ws (λj=>match ops[j]? with
     |some o=>tB P free ops o e w λs I=>pb f j I (oe free ops f fuel (a.setIfInBounds j s2) sp h s I K) h
     |none=>False) (i::r)
def wu(free:gh)(ops:Array U9)(e:Env)(w:x5)(K:Env->x5->Prop):Prop:=
 bif Region.noSelect ops then oe P free ops (Region.before ops) ops.size (Array.replicate ops.size sp) sp [] e w K else False
end
section
variable{P:W0}{N:Nat}{r:Option Nat}{free:gh}{ops:Array U9}
theorem HR{e:Env}{a:Act}(f:S1 N e a){s:Nat}{c:Bool}(q:(ops[j]?).bind (·.dst)=σ s){x:eT}(V:look e s=σ x)(J:x.val= .bool c):
  yielded ops a.tmps j=σ c:=by
 have h:=f.2 s x V;rw[J]at h;have r:a.tmps[s]?=σ (.bool c):=by
  rw[Array.getD_eq_getD_getElem?]at h
  grind [undef]
 grind [yielded]
theorem tD{e:Env}{a:Act}(f:S1 N e a){o:U9}{s:Nat}{b c:Bool}(h:o.guard=σ (j,b))(q:(ops[j]?).bind (·.dst)=σ s){x:eT}(V:look e s=σ x)(J:x.val= .bool c):Region.wanted o (yielded ops a.tmps)= !(xor c b):=by
 simp only[Region.wanted,h,HR f q V J]
 grind
theorem zY{e:Env}{a:Act}(f:S1 N e a){o:U9}{s:Nat}{b:Bool}(q:o.guard=σ (j,b))(r:(ops[j]?).bind (·.dst)=σ s)(V:look e s=σ .u):Region.wanted o (yielded ops a.tmps)=sp:=by
 have h:=f.2 s .u V;have w:yielded ops a.tmps j=ν:=by
  rw[Array.getD_eq_getD_getElem?]at h
  grind [yielded,eT.val,undef]
 grind [Region.wanted]
theorem S1.lit{e:Env}{a:Act}(h:S1 N e a){s:Nat}{x:eT}{c:Bool}(V:look e s=σ x)(J:x.val= .bool c):S1 N ((s,.b c)::e) a:=by
 refine⟨h.1,λt y f=>?_⟩;simp only[look]at f;cases j:S4 s t with
 |true=>
  have:s=t:=Nat.eq_of_beq_eq_true j;subst this;simp only[j,cond_true,W7]at f;subst f;rw[h.2 s x V,J];rfl
 |false=>simp only[j,cond_false]at f;exact h.2 t y f
theorem zZ{o:U9}{e:Env}{a:Act}{K:Env->x5->Prop}{Q:Exit->Act->x5->Prop}(h:tB P free ops o e w K)(f:S1 N e a)(q:k3 N o.dst=s2):
  (Region.wanted o (yielded ops a.tmps)=s2/\o.wpIn (eU r) 0 P a w (fO N free K o a w) Q)\/
  (Region.wanted o (yielded ops a.tmps)=sp/\fO N free K o a w (a.put o.dst undef) w):=by
 unfold tB at h;cases z:o.guard with
 |none=>grind [Region.wanted,tA]
 |some E=>
  obtain⟨j,b⟩:=E;rw[z]at h;simp only at h;cases A:(ops[j]?).bind (·.dst)with
  |none=>grind
  |some s=>
   rw[A]at h;simp only at h;cases V:look e s with
   |none=>grind
   |some x=>
    rw[V]at h;cases x with
    |b c=>
     simp only at h;have hw:=tD f z A V rfl;cases J:xor c b with
     |true=>
      rw[J]at h hw;exact .inr ⟨hw,fO.of h f q rfl λ_=>cQ.refl _ _⟩
     |false=>
      grind [tA]
    |v y=>
     simp only at h;obtain⟨c,rfl,B,ah⟩:=h;have hw:=tD f z A V rfl;have C:=f.lit V rfl;cases c with
     |true=>
      have B:=B rfl;cases b with
      |true=>grind [tA]
      |false=>exact .inr ⟨hw,fO.of B C q rfl λ_=>cQ.refl _ _⟩
     |false=>
      have ah:=ah rfl;cases b with
      |true=>exact .inr ⟨hw,fO.of ah C q rfl λ_=>cQ.refl _ _⟩
      |false=>grind [tA]
    |u=>exact .inr ⟨zY f z A V,fO.of h f q rfl λ_=>cQ.refl _ _⟩
def iq(D:List Nat)(a a':Act):Prop:=a'.defers=a.defers/\∀t,t∉D->a'.tmps.getD t undef=a.tmps.getD t undef
theorem iq.refl(D:List Nat)(a:Act):iq D a a:=⟨rfl,λ_ _=>rfl⟩
theorem iq.F{a b c:Act}(h:iq D a b)(k:iq D b c):iq D a c:=⟨k.1.F h.1,λt e=>(k.2 t e).F (h.2 t e)⟩
theorem iq.put(a:Act){d:Option Tmp}(v:x4)(e:∀t,d=σ t->t∈D):iq D a (a.put d v):=by
 cases d with
 |none=>exact iq.refl _ _
 |some s=>
  refine⟨rfl,λt f=>?_⟩;have h:s≠t:=by grind
  simp only[Act.put,Array.getD_eq_getD_getElem?]
  grind
def og(N:Nat)(free:gh)(K:Env->x5->Prop)(D:List Nat)(a:Act)(w:x5)(a':Act)(I:x5):Prop:=
 ∃e,K e I/\S1 N e a'/\iq D a a'/\(free.1=sp->cQ free.2 w I)
theorem og.step{K:Env->x5->Prop}{a e a':Act}{U:x5}(h:og N free K D e U a' I)(hk:iq D a e)(f:free.1=sp->cQ free.2 w U):
  og N free K D a w a' I:=by
 obtain⟨j,h1,q,r,s⟩:=h;exact⟨j,h1,q,hk.F r,λah=>(f ah).F (s ah)⟩
def pc(N:Nat)(l:List U9):Bool:=l.all λo=>k3 N o.dst
theorem HS{K:Env->x5->Prop}{Q:Exit->Act->x5->Prop}(L:∀o∈ops.toList,∀t,o.dst=σ t->t∈D)(M:pc N ops.toList=s2):
  ∀(l:List U9)(k:Nat)(e:Env)(a:Act)(w:x5),(∀j,l[j]?=ops[k+j]?)->qs P free ops l e w K->S1 N e a->
   (∀a' I,og N free K D a w a' I->Q .normal a' I)->wpOpsIn (eU r) 0 P ops Q (List.range' k l.length) a w:=by
 intro l;induction l with
 |nil=>
  intro k e a w _ h f q;exact q a w ⟨e,h,f,iq.refl _ _,λ_=>cQ.refl _ _⟩
 |cons o l z=>
  intro k e a w x h f q;have y:=x 0;simp only[List.getElem?_cons_zero,Nat.add_zero]at y;have O:o∈ops.toList:=by
   grind
  have A:k3 N o.dst=s2:=by
   grind [pc]
  have B:∀j,l[j]?=ops[k+1+j]?:=λj=>by
   have:=x (j+1)
   grind
  have next:∀s U,fO N free (λC I=>qs P free ops l C I K) o a w s U->wpOpsIn (eU r) 0 P ops Q (List.range' (k+1) l.length) s U:=by
   rintro s U ⟨E,v,F,G,rfl,H⟩;refine z (k+1) E _ U B F G λa' I ae=>q a' I (ae.step (by grind [iq.put]) H)
  simp only[qs]at h;show wpOpsIn (eU r) 0 P ops Q (k::List.range' (k+1) l.length) a w;unfold wpOpsIn;rw[<-y];simp only;rcases zZ h f A with⟨hw,J⟩|⟨hw,J⟩
  .rw[m3 hw];exact U9.wpIn_mono next J
  .rw[hw];exact⟨λ_ _=>trivial,next _ _ J⟩
theorem HT{K:Env->x5->Prop}{Q:Exit->Act->x5->Prop}{id:Nat}{e:Env}{a:Act}(f:∀o∈ops.toList,∀t,o.dst=σ t->t∈D)(j:pc N ops.toList=s2)(h:qs P free ops ops.toList e w K)(q:S1 N e a)(s:∀a' I,og N free K D a w a' I->Q .normal a' I):
  (Code.region id ops sp).wpIn (eU r) 0 P Q a w:=by
 refine wpIn_region ?_;have:=HS (r:=r) f j ops.toList 0 e a w (by grind) h q s
 grind [List.range_eq_range']
end
section
variable{P:W0}{N:Nat}{r:Option Nat}{free:gh}{ops:Array U9}{Q:Exit->Act->x5->Prop}
theorem HU(e:Option Nat)(o:U9)(V:∀cs b,o.op≠ .select cs b)(a:Act)(d:Option Tmp)(v:x4)(h:∀t,d=σ t->t∉o.looksAt ops):
  o.semAt e (a.put d v).eval=o.semAt e a.eval:=by
 have he:=execOp_put o V a d v h;unfold U9.semAt;split
 .rename_i l c q;have:resolve (a.put d v).eval c o.type=resolve a.eval c o.type:=resolve_congr c o.type λx J=>Act.eval_put λt f j=>h t f (by
   subst j;refine List.mem_append_left _ (List.mem_filterMap.2 ⟨.tmp t,?_,rfl⟩)
   grind [Op.operands])
  rw[this]
 .exact he
def oh(o:U9)(w0:x5)(st:x5->Prop)(I:x5):Prop:=nv o=s2\/Ext w0 I\/∃U,st U/\Ext U I
theorem oh.W{o:U9}{w0:x5}{st:x5->Prop}(h:oh o w0 st w)(k:Ext w I):oh o w0 st I:=by
 rcases h with h|h|⟨U,h1,a⟩
 .exact .inl h
 .exact .inr (.inl (h.F k))
 .exact .inr (.inr ⟨U,h1,a.F k⟩)
theorem HV{o:U9}(hm:nv o=s2){a:S0->x4}(h:(execOp a o).run P w= .ok (.value v) w):(execOp a o).run P I= .ok (.value v) I:=by
 unfold nv at hm;split at hm
 .grind [execOp,V2]
 .grind [execOp,V2]
 .rename_i x i J;unfold execOp at h ⊢;simp only[J]at h ⊢;exact((Still.bind (Still.extract _ _) λ_=>Still.pure _) _ _ _ h).2 _
 .rename_i t x i J;unfold execOp at h ⊢;simp only[J]at h ⊢;exact((Still.bind (Still.indexAt _ _ _) λ_=>Still.pure _) _ _ _ h).2 _
 .cases hm
def jO(P:W0)(ops:Array U9)(o:U9)(v:x4)(a:Act)(w0:x5->Prop):Prop:=
 (Region.wanted o (yielded ops a.tmps)=s2/\(∀c,o.op≠ .defer c)/\∀I,w0 I->(execOp a.eval o).run P I= .ok (.value v) I)\/
 (Region.wanted o (yielded ops a.tmps)=sp/\v=undef)
theorem jO.put{o e:U9}{a:Act}{w0:x5->Prop}(f:jO P ops o v a w0)(V:∀cs b,o.op≠ .select cs b)(h:∀t,e.dst=σ t->t∉o.looksAt ops)(u:x4):
  jO P ops o v (a.put e.dst u) w0:=by
 unfold jO at*;rw[execOp_put o V a e.dst u h,wanted_put o a e.dst u h];exact f
theorem jO.go{i:Nat}{e:U9}{a:Act}{w0:x5->Prop}(hi:ops[i]?=σ e)(f:jO P ops e v a w0)(hw:w0 w){K:Act->x5->Prop}(h:K (a.put e.dst v) w):
  wpOpIn (eU r) 0 P ops Q i K a w:=by
 unfold wpOpIn;simp only[hi];rcases f with⟨h1,j,q⟩|⟨h1,rfl⟩
 .rw[m3 h1];refine⟨λ_ _=>trivial,?_⟩
  grind [U9.semAt_eq,U9.uponIn_value]
 .rw[h1];exact⟨λ_ _=>trivial,h⟩
theorem HW{e f:U9}(s:ops[j]?=σ f)(y:e.apart ops f=s2)(z:∀cs b,e.op≠ .select cs b)(A:∀cs b,f.op≠ .select cs b)(E:∀c a w,¬Q (.panic c) a w){K:Act->x5->Prop}{a:Act}{w:x5}{w0:x5->Prop}(q:jO P ops e v a w0)(h:wpOpIn (eU r) 0 P ops Q j K (a.put e.dst v) w):
  wpOpIn (eU r) 0 P ops Q j (λa' I=>jO P ops e v a' w0/\K (a'.put e.dst v) I) a w:=by
 obtain⟨h1,F,B⟩:=U9.apart_spec y;have a7:∀(a:Act),jO P ops e v a w0->∀u,jO P ops e v (a.put f.dst u) w0:=λa q u=>q.put z B u;have G:∀d,jO P ops e v {a with defers:=d::a.defers} w0:=λd=>q;unfold wpOpIn at*;simp only[s]at*;rw[wanted_put f a e.dst v h1]at h;split
 .rename_i hw;simp only[hw,if_true]at h;obtain⟨_,h⟩:=h;refine⟨λ_ _=>trivial,?_⟩;rw[HU _ f A a e.dst v h1]at h;generalize (f.semAt (eU r).round a.eval).run P w=C at*;cases C with
  |ok n I=>
   cases n<;>simp only[U9.uponIn]at h ⊢
   all_goals grind [Act.put_comm,Act.put_defers]
  |halt x I=>
   cases x<;>simp only[U9.uponIn]at h ⊢
   grind
 .rename_i hw;simp only[hw]at h;exact⟨λ_ _=>trivial,a7 a q _,by grind [Act.put_comm]⟩
def nw(ops:Array U9)(a:Array Nat):Bool:=
 (X0 ops.size).all λj=>(X0 ops.size).all λk=>!((a.getD j 0).testBit k)||
  (match ops[j]? with
   |some o=>o.after.any λe=>Region.binds .any e&&Nat.blt e.on j&&(S4 e.on k||(a.getD e.on 0).testBit k)
   |none=>sp)
def Down(ops:Array U9)(a:Array Bool):Prop:=
 ∀(x:Nat)(o:U9),ops[x]?=σ o->a.getD x sp=s2->∀e∈o.after,Region.binds .any e=s2->a.getD e.on sp=s2
theorem z1{a:Array Nat}(f:nw ops a=s2){k:Nat}(q:j<ops.size)(hk:k<ops.size)(h:(a.getD j 0).testBit k=s2):
  ∃o,ops[j]?=σ o/\∃e∈o.after,Region.binds .any e=s2/\e.on<j/\(e.on=k\/(a.getD e.on 0).testBit k=s2):=by
 simp only[nw,List.all_eq_true,List.mem_range]at f
 grind [Nat.blt_eq,Nat.eq_of_beq_eq_true]
theorem HX{f:Array Nat}{a:Array Bool}(q:nw ops f=s2)(r:Down ops a):∀(j k:Nat),j<ops.size->k<ops.size->a.getD j sp=s2->
  (f.getD j 0).testBit k=s2->a.getD k sp=s2:=by
 intro j;induction j using Nat.strongRecOn with
 |_ j y=>
  intro k s hk w h;obtain⟨o,aC,e,he,x,z,h⟩:=z1 q s hk h;have A:=r j o aC w e he x
  grind
theorem HY{e:Array Nat}{a:Array Bool}(q:nw ops e=s2)(r:Down ops a){k:Nat}(hk:k<ops.size)(f:j∈Region.ready .any ops a)(h:(e.getD j 0).testBit k=s2):a.getD k sp=s2:=by
 obtain⟨_,o,aC,s⟩:=mem_ready.1 f
 grind [z1,HX]
theorem Down.set{a:Array Bool}(h:Down ops a){i:Nat}(r:i∈Region.ready .any ops a):Down ops (a.setIfInBounds i s2):=by
 intro x o J f e he j;by_cases q:x=i
 .grind [mem_ready,getD_set_true]
 .rw[getD_set_ne sp (Ne.symm q)]at f;exact getD_set_true (h x o J f e he j)
def pd(ops:Array U9)(i:Nat):Bool:=match ops[i]? with
 |some o=>lL o
 |none=>sp
def oi(a:Array Nat)(e:List (x5×List (Nat×(x5->Prop))))(j:Nat)(I:x5):Prop:=∀g∈e,∀x∈g.2,mo a j x.1=s2->Ext g.1 I\/x.2 I
theorem wv{a:Array Nat}{j:Nat}{I:x5}:∀{l:List (Nat×(x5->Prop))},rF a j I l->∀x∈l,mo a j x.1=s2->x.2 I
 |[],_,_,h,_=>by cases h
 |y::l,h,x,J,hu=>by
  unfold rF at h;cases e:mo a j y.1 with
  |true=>
   rw[e]at h;cases J with
   |head=>exact h.1
   |tail _ J=>exact wv h.2 x J hu
  |false=>
   rw[e]at h;cases J with
   |head=>grind
   |tail _ J=>exact wv (by grind) x J hu
theorem HZ{e:Array Nat}:∀{l:List (Nat×(x5->Prop))},rE e j l=sp->∀x∈l,mo e j x.1=sp
 :=by
 intro a;induction a<;>grind [rE]
theorem wx{e:Array Nat}{j:Nat}{I:x5}{C:Prop}:∀{w:List (x5×List (Nat×(x5->Prop)))},pb e j I C w->C/\oi e w j I
 |[],h=>⟨h,λg y=>by cases y⟩
 |g::r,h=>by
  unfold pb at h;cases hu:rE e j g.2 with
  |true=>
   rw[hu]at h;obtain⟨h1,f⟩:=wx h.2;refine⟨h1,λq a x J s=>?_⟩;cases a with
   |head=>grind [wv]
   |tail _ a=>exact f q a x J s
  |false=>
   rw[hu]at h;obtain⟨h1,f⟩:=wx (show pb e j I C r from h);refine⟨h1,λq a x J s=>?_⟩;cases a with
   |head=>grind [HZ]
   |tail _ a=>exact f q a x J s
def wy(ops:Array U9)(a:Array Nat)(e:List (x5×List (Nat×(x5->Prop))))(j:Nat)(w I:x5):Prop:=(pd ops j=s2->Ext w I)/\(pd ops j=sp->oi a e j I)
def kf(r:Option Nat)(P:W0)(ops:Array U9)(f:Array Nat)(Q:Exit->Act->x5->Prop):Nat->Array Bool->List (x5×List (Nat×(x5->Prop)))->Act->x5->Prop
 |0,e,_,a,w=>Region.ready .any ops e=[]/\Q .normal a w
 |fuel+1,e,h,a,w=>(Region.ready .any ops e=[]->Q .normal a w)/\
  ∀i∈Region.ready .any ops e,wpOpIn (eU r) 0 P ops Q i (λa' I=>wy ops f h i w I/\kf r P ops f Q fuel (e.setIfInBounds i s2) h a' I) a w
theorem kf.any{f:Array Nat}:∀(fuel:Nat)(e:Array Bool)(h:List (x5×List (Nat×(x5->Prop))))(a:Act)(w:x5),kf r P ops f Q fuel e h a w->wpAnyIn (eU r) 0 P .any ops Q fuel e a w
 :=by
 intro a;induction a<;>grind [wpOpIn_mono,kf,wpAnyIn]
theorem H0{e:Array Nat}{a:Array Bool}(h:nw ops e=s2)(q:Down ops a){i:Nat}{f:U9}(hi:ops[i]?=σ f)(r:i∈Region.ready .any ops a)(s:j∈Region.ready .any ops a)(w:j≠i):mo e j i=s2:=by
 grind [mem_ready,mo,Nat.eq_of_beq_eq_true,HY]
theorem kf.take{q:Array Nat}(O:nw ops q=s2)(R:Region.noSelect ops=s2)(S:∀c a w,¬Q (.panic c) a w){i:Nat}{s:U9}(hi:ops[i]?=σ s)(ac:lL s=s2){w0:x5}{B C:List (x5×List (Nat×(x5->Prop)))}(G:∀j I,oi q C j I->oi q B j I){st:x5->Prop}(T:nv s=sp->∀j I,mo q j i=s2->oi q C j I->Ext w0 I\/st I):
  ∀(fuel:Nat)(f:Array Bool)(a:Act)(w:x5),Down ops f->
   (∀j z,ops[j]?=σ z->j≠i->f.getD j s2=sp->(∀e∈z.after,Region.binds .any e=s2->e.on≠i)->s.apart ops z=s2)->
   i∈Region.ready .any ops f->jO P ops s v a (oh s w0 st)->oh s w0 st w->
   kf r P ops q Q fuel (f.setIfInBounds i s2) C (a.put s.dst v) w->kf r P ops q Q (fuel+1) f B a w:=by
 have ad:=Region.noSelect_spec R;have U:pd ops i=s2:=by grind [pd]
 have kg:∀(fuel:Nat)(f:Array Bool)(a:Act)(w:x5),kf r P ops q Q fuel f C a w->kf r P ops q Q fuel f B a w:=by
  intro fuel;induction fuel with
  |zero=>intro f a w h;exact h
  |succ fuel J=>intro f a w h;exact⟨h.1,λj x=>wpOpIn_mono (λa' I be=>⟨⟨be.1.1,λF=>G _ _ (be.1.2 F)⟩,by grind⟩) (h.2 j x)⟩
 have ae:∀w,wy ops q B i w w:=λw=>⟨λ_=>Ext.refl _,λh=>by rw[U]at h;cases h⟩;intro fuel;induction fuel with
 |zero=>
  intro f a w _ _ K E hw H;refine⟨by grind,λj x=>?_⟩;by_cases y:j=i
  .subst y;exact E.go hi hw (by grind)
  .have:=ready_mono x y;rw[H.1]at this;cases this
 |succ fuel J=>
  intro f a w L V K E hw H;refine⟨by grind,λj x=>?_⟩;by_cases y:j=i
  .subst y;exact E.go hi hw (by grind)
  .have h1:=H.2 j (ready_mono x y);have hu:=H0 O L hi K x y;obtain⟨af,z,W,ag⟩:=mem_ready.1 x;have ah:∀e∈z.after,Region.binds .any e=s2->e.on≠i:=by grind [mem_ready]
   have X:=HW W (by grind) (by grind) (by grind) S E h1;have Y:∀k ok,ops[k]?=σ ok->k≠i->(f.setIfInBounds j s2).getD k s2=sp->
     (∀e∈ok.after,Region.binds .any e=s2->e.on≠i)->s.apart ops ok=s2:=λk ok hk Z M aa=>by
    refine V k ok hk Z ?_ aa;by_cases ab:j=k
    .grind
    .rw[getD_set_ne s2 ab]at M;exact M
   refine wpOpIn_mono (λa' I A=>⟨⟨A.2.1.1,λF=>G _ _ (A.2.1.2 F)⟩,J (f.setIfInBounds j s2) a' I (L.set x) Y (by grind [ready_mono]) A.1 ?_ ?_⟩) X
   .cases hm:nv s with
    |true=>exact .inl hm
    |false=>
     cases N:pd ops j with
     |true=>exact hw.W (A.2.1.1 N)
     |false=>exact .inr ((T hm j I hu (A.2.1.2 N)).imp id (by grind [Ext.refl]))
   grind [Array.setIfInBounds_comm]
theorem z6{p:Nat->Prop}:∀{l:List Nat},ws p l->∀i∈l,p i
 |[],_,_,h=>by cases h
 |[i],h,j,a=>by cases a with
  |head=>exact h
  |tail _ h=>cases h
 |i::k::l,h,j,a=>by
  obtain⟨h1,e⟩:=h;cases a with
  |head=>exact h1
  |tail _ a=>exact z6 e j a
theorem H2:∀{l:List Nat}{q:Nat},od ops l=σ q->q∈l/\∃o,ops[q]?=σ o/\lL o=s2
 :=by
 intro a;induction a<;>grind [od]
theorem H3{o:U9}{e:Env}{a:Act}{K:Env->(x5->Prop)->Prop}(h:wr P ops o e w K)(q:S1 N e a)(A:k3 N o.dst=s2):
  ∃v st,jO P ops o v a (oh o w st)/\∃f,K f st/\S1 N f (a.put o.dst v):=by
 unfold wr at h;have F:∀{e:Env},S1 N e a->nt P o e w K->Region.wanted o (yielded ops a.tmps)=s2->∃v st,jO P ops o v a (oh o w st)/\∃f,K f st/\S1 N f (a.put o.dst v):=λq h hw=>by
  obtain⟨v,st,h1,B,C,G⟩:=zX h q A;exact⟨v,st,.inl ⟨hw,C,λI J=>J.elim (λhm=>HV hm (h1 w (Ext.refl w))) (by grind)⟩,B⟩
 have skip:∀{e:Env},S1 N e a->K (ew e o.dst .u) (λ_=>True)->Region.wanted o (yielded ops a.tmps)=sp->∃v st,jO P ops o v a (oh o w st)/\∃f,K f st/\S1 N f (a.put o.dst v):=λq h hw=>
  ⟨undef,_,.inr ⟨hw,rfl⟩,_,h,q.put A rfl⟩
 cases r:o.guard with
 |none=>grind [Region.wanted]
 |some E=>
  obtain⟨j,b⟩:=E;rw[r]at h;simp only at h;cases z:(ops[j]?).bind (·.dst)with
  |none=>grind
  |some s=>
   rw[z]at h;simp only at h;cases V:look e s with
   |none=>grind
   |some x=>
    rw[V]at h;cases x with
    |b c=>
     simp only at h;have hw:=tD q r z V rfl
     grind
    |v y=>
     simp only at h;obtain⟨c,rfl,H,ah⟩:=h;have hw:=tD q r z V rfl;have L:=q.lit V rfl
     grind
    |u=>grind [zY]
theorem H4:∀{l:List Nat},od ops l=ν->∀j∈l,pd ops j=sp
 :=by
 intro a;induction a<;>grind [od,pd]
theorem H5{s:Array Nat}{same:Bool}{q:Nat}{st:x5->Prop}{e:List (x5×List (Nat×(x5->Prop)))}(V:same=s2->∃a r,e=(w,a)::r):
  (∀j I,oi s (tC same q w st e) j I->oi s e j I)/\(∀j I,mo s j q=s2->oi s (tC same q w st e) j I->Ext w I\/st I)/\∃a r,tC same q w st e=(w,a)::r:=by
 cases same with
 |true=>
  obtain⟨a,r,rfl⟩:=V rfl;refine⟨λj I h g f x J hu=>?_,λj I hu h=>h (w,(q,st)::a) (.head _) (q,st) (.head _) hu,_,_,rfl⟩;cases f with
  |head=>exact h (w,(q,st)::a) (.head _) x (.tail _ J) hu
  |tail _ f=>exact h g (.tail _ f) x J hu
 |false=>
  refine⟨λj I h g f x J hu=>h g (.tail _ f) x J hu,λj I hu h=>h (w,[(q,st)]) (.head _) (q,st) (.head _) hu,_,_,rfl⟩
theorem H6{K:Env->x5->Prop}{y:Array Nat}(S:nw ops y=s2)(T:Region.noSelect ops=s2)(V:∀c a w,¬Q (.panic c) a w)(aj:∀o∈ops.toList,∀t,o.dst=σ t->t∈D)(ak:pc N ops.toList=s2):
  ∀(fuel:Nat)(f:Array Bool)(same:Bool)(s:List (x5×List (Nat×(x5->Prop))))(e:Env)(a:Act)(w:x5),Down ops f->(same=s2->∃aa r,s=(w,aa)::r)->
   oe P free ops y fuel f same s e w K->S1 N e a->
   (∀a' I,og N free K D a w a' I->Q .normal a' I)->kf r P ops y Q fuel f s a w:=by
 have al:∀{j:Nat}{o:U9},ops[j]?=σ o->o∈ops.toList:=λh=>by
  grind
 have ok:∀{j:Nat}{o:U9},ops[j]?=σ o->k3 N o.dst=s2:=by grind [pc]
 intro fuel;induction fuel with
 |zero=>
  intro f same s e a w A H h C B;unfold oe at h;cases z:Region.ready .any ops f with
  |nil=>rw[z]at h;exact⟨z,B a w ⟨e,h,C,iq.refl _ _,λ_=>cQ.refl _ _⟩⟩
  |cons i l=>grind
 |succ fuel L=>
  intro f same s e a w A H h C B;unfold oe at h;cases z:Region.ready .any ops f with
  |nil=>
   rw[z]at h;refine⟨λ_=>B a w ⟨e,h,C,iq.refl _ _,λ_=>cQ.refl _ _⟩,λi hi=>?_⟩;rw[z]at hi;cases hi
  |cons i l=>
   rw[z]at h;simp only at h;cases E:od ops (i::l)with
   |some q=>
    rw[E]at h;simp only at h;obtain⟨am,o,aC,W⟩:=H2 E;cases M:Region.free .any ops f q with
    |false=>grind
    |true=>
     rw[M,aC]at h;simp only[cond_true]at h;obtain⟨v,st,X,F,x,Y⟩:=H3 h C (ok aC);have G:q∈Region.ready .any ops f:=by grind
     cases hm:nv o with
     |true=>
      rw[hm]at x;refine kf.take S T V aC W (λ_ _ h=>h) (by grind) fuel f a w A (Region.free_spec aC M) G X (.inr (.inl (Ext.refl _))) ?_;exact L _ same s F _ w (A.set G) H x Y λa' I ae=>B a' I (ae.step (by grind [iq.put]) λ_=>cQ.refl _ _)
     |false=>
      rw[hm]at x;obtain⟨h1,ab,ac⟩:=H5 H;refine kf.take S T V aC W h1 (λ_=>ab) fuel f a w A (Region.free_spec aC M) G X (.inr (.inl (Ext.refl _))) ?_;exact L _ s2 _ F _ w (A.set G) (λ_=>ac) x Y λa' I ae=>B a' I (ae.step (by grind [iq.put]) λ_=>cQ.refl _ _)
   |none=>
    rw[E]at h;simp only at h;refine⟨by grind,λj Z=>?_⟩;have O:=Z;rw[z]at O;have ad:=H4 E j O;have ae:=z6 h j O;cases aC:ops[j]? with
    |none=>rw[aC]at ae;exact ae.elim
    |some o=>
     rw[aC]at ae;simp only at ae;unfold wpOpIn;simp only[aC];have next:∀R U,fO N free (λF I=>pb y j I (oe P free ops y fuel (f.setIfInBounds j s2) sp s F I K) s) o a w R U->
       wy ops y s j w U/\kf r P ops y Q fuel (f.setIfInBounds j s2) s R U:=by
      rintro R U ⟨af,v,x,ag,rfl,ah⟩;obtain⟨x,ai⟩:=wx x;exact⟨⟨λh=>(by rw[ad]at h;cases h),λ_=>ai⟩,
       L _ sp s af _ U (A.set Z) (by grind) x ag λa' I ae=>B a' I (ae.step (by grind [iq.put]) ah)⟩
     rcases zZ ae C (ok aC)with⟨hw,J⟩|⟨hw,J⟩
     .rw[m3 hw];exact U9.wpIn_mono next J
     .rw[hw];exact⟨λ_ _=>trivial,next _ _ J⟩
theorem H7(hm:P.follows .mixedOrders=s2){K:Env->x5->Prop}{id:Nat}{e:Env}{a:Act}(j:nw ops (Region.before ops)=s2)(q:∀c a w,¬Q (.panic c) a w)(s:∀o∈ops.toList,∀t,o.dst=σ t->t∈D)(y:pc N ops.toList=s2)(h:∀I,Ext w I->Ext I w->cU w I->wu P free ops e I K)(z:S1 N e a)(A:∀a' I,og N free K D a w a' I->Q .normal a' I):
  (Code.region id ops s2).wpIn (eU r) 0 P Q a w:=by
 refine wpIn_region_any hm ?_;have h:=h {w with drawn:=w.drawn+1} (tu w _) ⟨o6 _,λ_ _ h _=>h⟩ (by grind [rz]);unfold wu at h;cases f:Region.noSelect ops with
 |false=>grind
 |true=>
  rw[f]at h;refine kf.any _ _ _ _ _ (H6 j f q s y ops.size _ sp [] e a _ ?_ (by grind) h z λa' I ae=>A a' I (ae.step (iq.refl _ _) λ_=>(rz w _ (Nat.le_succ _)).b));intro x o _ B;rcases Nat.lt_or_ge x ops.size with be|be
  .simp[be]at B
  grind
end
def lN(t:Nat):List Nat->Bool
 |[]=>sp
 |s::r=>bif S4 s t then s2 else lN t r
theorem H8{t:Nat}:∀{l:List Nat},lN t l=s2↔t∈l
 :=by
 intro a;induction a<;>grind [lN,Nat.eq_of_beq_eq_true,Nat.ne_of_beq_eq_false]
def pe:List U9->List Nat
 |[]=>[]
 |o::l=>match o.dst with
  |some d=>d::pe l
  |none=>pe l
def tmpsOf:List S0->List Nat
 |[]=>[]
 | .tmp t::l=>t::tmpsOf l
 |_::l=>tmpsOf l
def H9(ops:Array U9)(o:U9):List Nat:=
 match o.guard with
 |some (j,_)=>match(ops[j]?).bind (·.dst)with
  |some s=>[s]
  |none=>[]
 |none=>[]
def tE(D:List Nat):List Nat->List Nat
 |[]=>[]
 |t::r=>bif lN t D then tE D r else t::tE D r
def wz(D:List Nat):List Nat->List Nat
 |[]=>[]
 |t::r=>bif lN t D then t::wz D r else wz D r
def z7(ops:Array U9):List U9->List Nat->List Nat
 |[],_=>[]
 |o::l,D=>tE D (tmpsOf (opsOf o.op)++H9 ops o)++z7 ops l (match o.dst with
  |some d=>d::D
  |none=>D)
def dR:Code->List Nat
 | .region _ ops _=>pe ops.toList
 | .seq a b=>dR a++dR b
 | .cond _ a b=>dR a++dR b
 | .block _ c=>dR c
 | .loop c=>dR c
 | .scope c=>dR c
 |_=>[]
def k4(id:Nat):Code->Nat
 | .seq a b=>k4 id a+k4 id b
 | .cond _ a b=>k4 id a+k4 id b
 | .block _ c=>k4 id c
 | .loop c=>k4 id c
 | .scope c=>k4 id c
 | .exit i=>bif S4 i id then 1 else 0
 | .rangeFunc _ _ _ b=>k4 id b
 |_=>0
def Ia(ops:Array U9):Bool:=
 let a:=Region.before ops;let e:=λ(i:Nat)=>match ops[i]? with|some o=>!(lL o)|none=>sp
 (X0 ops.size).any λj=>e j&&((X0 j).any λi=>e i&&(!((a.getD j 0).testBit i)&& !((a.getD i 0).testBit j)))
def mp:Code->Nat
 | .region _ ops e=>bif (e&&Ia ops)||ops.any (·.guard.isSome)then 2 else 1
 | .seq a b=>bif S4 (mp a) 0 then 0 else mp b
 | .cond _ a b=>mp a+mp b
 | .block id c=>mp c+k4 id c
 | .loop _=>0
 | .scope c=>mp c
 | .exit _=>0
 | .goto _=>0
 | .ret=>0
 | .refuse _=>0
 |_=>1
def nx:Code->List Nat
 | .region _ ops _=>pe ops.toList
 | .seq a b=>nx a++nx b
 | .cond _ a b=>bif S4 (mp a) 0 then nx b else bif S4 (mp b) 0 then nx a else wz (nx a) (nx b)
 | .block id c=>bif S4 (k4 id c) 0 then nx c else[]
 | .scope c=>nx c
 |_=>[]
def reads:Code->List Nat
 | .region _ ops _=>z7 ops ops.toList []
 | .seq a b=>reads a++tE (nx a) (reads b)
 | .cond c a b=>tmpsOf [c]++(reads a++reads b)
 | .block _ c=>reads c
 | .loop c=>reads c
 | .scope c=>reads c
 | .rangeFunc f _ a b=>tmpsOf [f]++(reads a++reads b)
 |_=>[]
def lO:Code->Bool
 | .seq a b=>lO a||lO b
 | .cond _ a b=>lO a||lO b
 | .block _ c=>lO c
 | .loop c=>lO c
 | .scope c=>lO c
 | .rangeFunc ..=>s2
 |_=>sp
def wf(N:Nat):Code->Bool
 | .region _ ops e=>pc N ops.toList&&(!e||nw ops (Region.before ops))
 | .seq a b=>wf N a&&wf N b
 | .cond _ a b=>wf N a&&wf N b
 | .block _ c=>wf N c
 | .loop c=>wf N c
 | .scope c=>wf N c
 | .rangeFunc _ f a b=>(f.toList.all λt=>Nat.blt t N)&&(wf N a&&wf N b)
 |_=>s2
def pf:Nat->Type->Type
 |0,β=>β
 |n+1,β=>x4->pf n β
def app{β:Type}:(n:Nat)->pf n β->List x4->β
 |0,f,_=>f
 |n+1,f,[]=>app n (f undef) []
 |n+1,f,v::r=>app n (f v) r
def lam{β:Type}:(n:Nat)->(List x4->β)->pf n β
 |0,f=>f []
 |n+1,f=>λv=>lam n λr=>f (v::r)
def tF:(n:Nat)->pf n Prop->Prop
 |0,p=>p
 |n+1,p=>∀v,tF n (p v)
theorem wA{β:Type}:∀(n:Nat)(f:List x4->β)(vs:List x4),vs.length=n->app n (lam n f) vs=f vs
 :=by
 intro a b c;induction c generalizing a b<;>grind [app,lam]
theorem tG:∀(n:Nat)(p:pf n Prop)(vs:List x4),tF n p->app n p vs
 |0,_,_,h=>h
 |n+1,_,[],h=>tG n _ [] (h undef)
 |n+1,_,v::r,h=>tG n _ r (h v)
def Ib(n:Nat)(vs:List x4)(w:x5)(B:List x4->x5->(List x4->x5->Prop)->Prop):Prop:=
 ∃(a:pf n (x5->Prop))(e:pf n (x5->Nat)),app n a vs w/\
  tF n (lam n λus=>∀I,app n a us I->B us I λf h=>app n a f h/\app n e f h<app n e us I)
def Ic(w:x5)(B:x5->(x5->Prop)->Prop):Prop:=
 ∃(a:x5->Prop)(e:x5->Nat),a w/\∀I,a I->B I λf=>a f/\e f<e I
def b7(a:x4)(w:x5)(B:x4->x5->(x4->x5->Prop)->Prop):Prop:=
 ∃(e:x4->x5->Prop)(f:x4->x5->Nat),e a w/\∀a I,e a I->B a I λa' h=>e a' h/\f a' h<f a I
def ce(a b:x4)(w:x5)(B:x4->x4->x5->(x4->x4->x5->Prop)->Prop):Prop:=
 ∃(e:x4->x4->x5->Prop)(f:x4->x4->x5->Nat),e a b w/\∀a b I,e a b I->B a b I λa' h j=>e a' h j/\f a' h j<f a b I
def kE(a b c:x4)(w:x5)(B:x4->x4->x4->x5->(x4->x4->x4->x5->Prop)->Prop):Prop:=
 ∃(e:x4->x4->x4->x5->Prop)(f:x4->x4->x4->x5->Nat),e a b c w/\
  ∀a b c I,e a b c I->B a b c I λa' h j q=>e a' h j q/\f a' h j q<f a b c I
def rG(a b c d:x4)(w:x5)(B:x4->x4->x4->x4->x5->(x4->x4->x4->x4->x5->Prop)->Prop):Prop:=
 ∃(e:x4->x4->x4->x4->x5->Prop)(f:x4->x4->x4->x4->x5->Nat),e a b c d w/\
  ∀a b c d I,e a b c d I->B a b c d I λa' h j q r=>e a' h j q r/\f a' h j q r<f a b c d I
def rH(a b c d e:x4)(w:x5)(B:x4->x4->x4->x4->x4->x5->(x4->x4->x4->x4->x4->x5->Prop)->Prop):Prop:=
 ∃(f:x4->x4->x4->x4->x4->x5->Prop)(h:x4->x4->x4->x4->x4->x5->Nat),f a b c d e w/\∀a b c d e I,f a b c d e I->B a b c d e I λa' j q r s x=>f a' j q r s x/\h a' j q r s x<h a b c d e I
def Ie(a b c d e f:x4)(w:x5)(B:x4->x4->x4->x4->x4->x4->x5->(x4->x4->x4->x4->x4->x4->x5->Prop)->Prop):Prop:=
 ∃(h:x4->x4->x4->x4->x4->x4->x5->Prop)(j:x4->x4->x4->x4->x4->x4->x5->Nat),h a b c d e f w/\∀a b c d e f I,h a b c d e f I->B a b c d e f I λa' q r s x y z=>h a' q r s x y z/\j a' q r s x y z<j a b c d e f I
def cG{α:Type}(aA:α)(B:α->Prop):Prop:=B aA
def wB(n:Nat)(w:x5)(K:x5->Prop):Prop:=∀I,Ext w I->Ext I w/\gg n w I->K I
def Over(n:Nat)(w:x5)(K:x5->Prop):Prop:=∀I,Ext w I->Ext I w/\gg n w I->fp w I->K I
def ey(w:x5)(K:x5->Prop):Prop:=∀I,Ext w I->Ext I w->cU w I->K I
def lP(e:Env):List Nat->Option (List x4)
 |[]=>σ []
 |t::r=>match look e t with
  |some x=>match lP e r with
   |some vs=>σ (x.val::vs)
   |none=>ν
  |none=>ν
def kF:List Nat->List x4->Env->Env
 |t::r,v::vs,e=>(t,.v v)::kF r vs e
 |_,_,e=>e
def oj(D:List Nat):Env->Env
 |[]=>[]
 |(t,x)::r=>bif lN t D then oj D r else(t,x)::oj D r
def rI(N:Nat)(D R:List Nat):List Nat:=(X0 N).filter λt=>lN t D&&lN t R
def rJ(N:Nat)(D R:List Nat)(e:Env):List Nat:=(X0 N).filter λt=>lN t D&&((look e t).isSome&&lN t R)
def kG:Code->Bool
 | .seq a b=>kG a||kG b
 | .cond _ a b=>kG a||kG b
 | .block _ c=>kG c
 | .loop c=>kG c
 | .scope c=>kG c
 | .rangeFunc _ _ a b=>kG a||kG b
 | .ret=>s2
 |_=>sp
def If(i:Nat)(l:List Nat):List Nat:=bif lN i l then l else i::l
def tH:List Nat->List Nat->List Nat
 |[],l=>l
 |i::r,l=>If i (tH r l)
def wC(i:Nat):List Nat->List Nat
 |[]=>[]
 |j::r=>bif S4 i j then wC i r else j::wC i r
def k5:Code->List Nat
 | .seq a b=>tH (k5 a) (k5 b)
 | .cond _ a b=>tH (k5 a) (k5 b)
 | .block id c=>wC id (k5 c)
 | .loop c=>k5 c
 | .scope c=>k5 c
 | .rangeFunc _ _ a b=>tH (k5 a) (k5 b)
 | .exit i=>[i]
 |_=>[]
def ol:List (Nat×(x5->Prop))->Nat->x5->Prop
 |[],_,_=>False
 |(j,k)::r,i,w=>(i=j/\k w)\/ol r i w
def tI(K:Nat->x5->Prop):List Nat->List (Nat×(x5->Prop))
 |[]=>[]
 |i::r=>(i,λw=>K i w)::tI K r
theorem Ig{K:Nat->x5->Prop}:∀{l:List Nat}{i:Nat}{w:x5},ol (tI K l) i w->K i w
 :=by
 intro a;induction a<;>grind [ol,tI]
section
variable(P:W0)
def qt{a:Type}(G:Bool)(g:S8)(cap:List x4)(q:a)(r:a->Prop)(s:a->List x4->a->x5->Prop)(h:x5->Prop):Prop:=
 Enters P g/\∀(l:Nat)(aA e:a->x5->Prop)(w:x5),
  (∀k U aa,Ext U aa->cQ w.heap.size U aa->aA k U->aA k aa)->(∀k U aa,Ext U aa->cQ w.heap.size U aa->e k U->e k aa)->
  (∀k j vs I,h I->s k vs j I->aA k I->jm P l vs I λv f=>(v= .bool s2/\h f/\aA j f/\(G=s2->cU I f))\/(v= .bool sp/\e k f))->
  h w->aA q w->ip P g (.func (.yield l) #[] #[]::cap) w λ_ I=>(∃k,r k/\aA k I)\/∃k,e k I
def wD(G:Bool)(g:S8)(cap:List x4)(n:Nat)(h:Nat->List x4->x5->Prop)(f:x5->Prop):Prop:=
 Enters P g/\∀(l:Nat)(aA a:Nat->x5->Prop)(w:x5),
  (∀k U aa,Ext U aa->cQ w.heap.size U aa->aA k U->aA k aa)->(∀k U aa,Ext U aa->cQ w.heap.size U aa->a k U->a k aa)->
  (∀k vs I,k<n->f I->h k vs I->aA k I->jm P l vs I λv e=>(v= .bool s2/\f e/\aA (k+1) e/\(G=s2->cU I e))\/(v= .bool sp/\a k e))->
  f w->aA 0 w->ip P g (.func (.yield l) #[] #[]::cap) w λ_ I=>aA n I\/∃k,k<n/\a k I
def rK{e:Type}(o G:Bool)(g:S8)(cap:List x4)(q:e)(s:e->Prop)(x:e->List x4->e->x5->Prop)(h:(Nat->Prop)->x5->Prop):Prop:=
 Enters P g/\∀(l:Nat)(aA f:(Nat->Prop)->e->x5->Prop)(w:x5),
  (∀D k U aa,ai (λr=>o=s2/\w.heap.size<=r/\¬D r) U aa->gg w.heap.size U aa->aA D k U->aA D k aa)->
  (∀D k U aa,ai (λr=>o=s2/\w.heap.size<=r/\¬D r) U aa->gg w.heap.size U aa->f D k U->f D k aa)->
  (∀D k j vs I,(∀r,D r->w.heap.size<=r/\r<I.heap.size)->w.heap.size<=I.heap.size->h D I->x k vs j I->aA D k I->jm P l vs I λv a=>
   (v= .bool s2/\(∃D',(∀r,D' r->D r\/I.heap.size<=r/\r<a.heap.size)/\(∀r,D r->D' r)/\h D' a/\aA D' j a)/\(G=s2\/o=s2->cU I a)/\I.heap.size<=a.heap.size/\(o=s2->ai (λr=>r<w.heap.size\/D r) I a))\/(o=sp/\v= .bool sp/\f D k a))->
  (h (λ_=>False) w)->aA (λ_=>False) q w->ip P g (.func (.yield l) #[] #[]::cap) w λ_ I=>(∃D k,s k/\aA D k I)\/∃D k,f D k I
abbrev qu(g:S8)(cap:List x4)(n:Nat)(a:Nat->List x4->x5->Prop)(e:x5->Prop):Prop:=wD P sp g cap n a e
def Ih(A:x4)(s:Nat)(w:x5)(B:List x4->x5->(Exit->x5->Prop)->Prop)(C E:x5->Prop)(F:List (Nat×(x5->Prop))):Prop:=
 ∃(h:Type)(o G:Bool)(g:S8)(cap:Array x4)(y:h)(z:h->Prop)(x:h->List x4->h->x5->Prop)(e:(Nat->Prop)->x5->Prop)(f:(Nat->Prop)->h->x5->Prop)(j:(Nat->Prop)->h->Exit->x5->Prop),
  A= .func (.func g) #[] cap/\rK P o G g cap.toList y z x e/\(∀k vs q w,x k vs q w->vs.length=s)/\
  (∀m w I,Ext w I->e m w->e m I)/\(∀m k U aa,ai (λr=>o=s2/\w.heap.size<=r/\¬m r) U aa->gg w.heap.size U aa->f m k U->f m k aa)/\(∀m k ex U aa,ai (λr=>o=s2/\w.heap.size<=r/\¬m r) U aa->gg w.heap.size U aa->j m k ex U->j m k ex aa)/\
  e (λ_=>False) w/\f (λ_=>False) y w/\
  tF s (lam s λvs=>∀m k q I,(∀r,m r->w.heap.size<=r/\r<I.heap.size)->w.heap.size<=I.heap.size->e m I->x k vs q I->f m k I->B vs I λex a=>match ex with
   | .normal=>bif o then(∃bY,(∀r,bY r->m r\/I.heap.size<=r/\r<a.heap.size)/\(∀r,m r->bY r)/\e bY a/\f bY q a)/\fp I a/\ai (λr=>r<w.heap.size\/m r) I a else e m a/\f m q a/\(G=s2->fp I a)
   |ex=>bif o then False else j m k ex a)/\
  (∀m k I,z k->f m k I->C I)/\(∀m k I,j m k .ret I->E I)/\(∀m k i I,j m k (.exit i) I->ol F i I)
def kH(A:x4)(w:x5)(B:x4->x5->(Exit->x5->Prop)->Prop)(C E:x5->Prop)(F:List (Nat×(x5->Prop))):Prop:=
 ∃(j:Type)(o G:Bool)(g:S8)(cap:Array x4)(y:j)(z:j->Prop)(x:j->List x4->j->x5->Prop)(f:(Nat->Prop)->x5->Prop)(h:(Nat->Prop)->j->x5->Prop)(q:(Nat->Prop)->j->Exit->x5->Prop),
  A= .func (.func g) #[] cap/\rK P o G g cap.toList y z x f/\(∀k vs s w,x k vs s w->vs.length=1)/\
  (∀m w I,Ext w I->f m w->f m I)/\(∀m k U aa,ai (λr=>o=s2/\w.heap.size<=r/\¬m r) U aa->gg w.heap.size U aa->h m k U->h m k aa)/\(∀m k ex U aa,ai (λr=>o=s2/\w.heap.size<=r/\¬m r) U aa->gg w.heap.size U aa->q m k ex U->q m k ex aa)/\
  f (λ_=>False) w/\h (λ_=>False) y w/\
  (∀a,∀m k s I,(∀r,m r->w.heap.size<=r/\r<I.heap.size)->w.heap.size<=I.heap.size->f m I->x k [a] s I->h m k I->B a I λex e=>match ex with
   | .normal=>bif o then(∃bY,(∀r,bY r->m r\/I.heap.size<=r/\r<e.heap.size)/\(∀r,m r->bY r)/\f bY e/\h bY s e)/\fp I e/\ai (λr=>r<w.heap.size\/m r) I e else f m e/\h m s e/\(G=s2->fp I e)
   |ex=>bif o then False else q m k ex e)/\
  (∀m k I,z k->h m k I->C I)/\(∀m k I,q m k .ret I->E I)/\(∀m k i I,q m k (.exit i) I->ol F i I)
def qv(A:x4)(w:x5)(B:x4->x4->x5->(Exit->x5->Prop)->Prop)(C E:x5->Prop)(F:List (Nat×(x5->Prop))):Prop:=
 ∃(j:Type)(o G:Bool)(g:S8)(cap:Array x4)(y:j)(z:j->Prop)(x:j->List x4->j->x5->Prop)(f:(Nat->Prop)->x5->Prop)(h:(Nat->Prop)->j->x5->Prop)(q:(Nat->Prop)->j->Exit->x5->Prop),
  A= .func (.func g) #[] cap/\rK P o G g cap.toList y z x f/\(∀k vs s w,x k vs s w->vs.length=2)/\
  (∀m w I,Ext w I->f m w->f m I)/\(∀m k U aa,ai (λr=>o=s2/\w.heap.size<=r/\¬m r) U aa->gg w.heap.size U aa->h m k U->h m k aa)/\(∀m k ex U aa,ai (λr=>o=s2/\w.heap.size<=r/\¬m r) U aa->gg w.heap.size U aa->q m k ex U->q m k ex aa)/\
  f (λ_=>False) w/\h (λ_=>False) y w/\
  (∀a b,∀m k s I,(∀r,m r->w.heap.size<=r/\r<I.heap.size)->w.heap.size<=I.heap.size->f m I->x k [a,b] s I->h m k I->B a b I λex e=>match ex with
   | .normal=>bif o then(∃bY,(∀r,bY r->m r\/I.heap.size<=r/\r<e.heap.size)/\(∀r,m r->bY r)/\f bY e/\h bY s e)/\fp I e/\ai (λr=>r<w.heap.size\/m r) I e else f m e/\h m s e/\(G=s2->fp I e)
   |ex=>bif o then False else q m k ex e)/\
  (∀m k I,z k->h m k I->C I)/\(∀m k I,q m k .ret I->E I)/\(∀m k i I,q m k (.exit i) I->ol F i I)
theorem wD.s{P:W0}{G:Bool}{g:S8}{cap:List x4}{e:Nat->List x4->x5->Prop}{a:x5->Prop}(h:wD P G g cap n e a):
  qt P G g cap 0 (λk=>k=n) (λk vs f w=>k<n/\f=k+1/\e k vs w) a:=by
 refine⟨h.1,λl aA j w q r x ha y=>?_⟩;have:=h.2 l aA (λk w=>j k w) w q r (λk vs I hk hz C A=>x k (k+1) vs I hz (by grind) A) ha y;cases this with
 |code h1 B=>exact .code h1 (B.Y (by grind))
 |ext v I h1 E=>exact .ext v I h1 (by grind)
theorem qt.x{P:W0}{e:Type}{G:Bool}{g:S8}{cap:List x4}{s:e}{y:e->Prop}{z:e->List x4->e->x5->Prop}{f:x5->Prop}(h:qt P G g cap s y z f):rK P sp G g cap s y z λ_=>f:=by
 refine⟨h.1,λl aA B w C E F hf N=>?_⟩;have:=h.2 l (λk I=>w.heap.size<=I.heap.size/\∃D,(∀r,D r->w.heap.size<=r/\r<I.heap.size)/\aA D k I) (λk I=>∃D,B D k I) w
  (λk U aa J q ⟨V,D,j,a⟩=>⟨X3 V J.size,D,λr A=>⟨(j r A).1,Nat.lt_of_lt_of_le (j r A).2 J.size⟩,C D k U aa (J.ab _) q.o a⟩) (λk U aa J q ⟨D,a⟩=>⟨D,E D k U aa (J.ab _) q.o a⟩)
  (λk H vs I hK L ⟨V,D,j,a⟩=>jm.Y (F D k H vs I j V hK L a) (by grind)) hf (by grind)
 cases this with
 |code h1 M=>exact .code h1 (M.Y (by grind))
 |ext v I h1 O=>exact .ext v I h1 (by grind)
theorem kH.old{P:W0}{E:x4}{B:x4->x5->(Exit->x5->Prop)->Prop}{F H:x5->Prop}{J:List (Nat×(x5->Prop))}(h:∃(e:Type)(G:Bool)(g:S8)(cap:Array x4)(s:e)(y:e->Prop)(r:e->List x4->e->x5->Prop)(f:x5->Prop)(j:e->x5->Prop)(q:e->Exit->x5->Prop),
  E= .func (.func g) #[] cap/\qt P G g cap.toList s y r f/\(∀k vs z w,r k vs z w->vs.length=1)/\
  (∀w I,Ext w I->f w->f I)/\(∀k w I,Ext w I->j k w->j k I)/\(∀k ex w I,Ext w I->q k ex w->q k ex I)/\
  f w/\j s w/\
  (∀a,∀k z I,f I->r k [a] z I->j k I->B a I λex A=>match ex with
   | .normal=>f A/\j z A/\(G=s2->fp I A)
   |ex=>q k ex A)/\
  (∀k I,y k->j k I->F I)/\(∀k I,q k .ret I->H I)/\(∀k i I,q k (.exit i) I->ol J i I)):kH P E w B F H J:=by
 obtain⟨e,G,g,cap,s,y,r,f,j,q,h1,K,L,M,N,O,Q,R,W,S,T,V⟩:=h;exact⟨e,sp,G,g,cap,s,y,r,λ_=>f,λ_=>j,λ_=>q,h1,K.x,L,λ_=>M,λ_ k U aa C _=>N k U aa (C.W (by grind)),λ_ k ex U aa C _=>O k ex U aa (C.W (by grind)),Q,R,
  by grind,λ_=>S,λ_=>T,λ_=>V⟩
theorem qv.old{P:W0}{E:x4}{B:x4->x4->x5->(Exit->x5->Prop)->Prop}{F H:x5->Prop}{J:List (Nat×(x5->Prop))}(h:∃(e:Type)(G:Bool)(g:S8)(cap:Array x4)(s:e)(y:e->Prop)(r:e->List x4->e->x5->Prop)(f:x5->Prop)(j:e->x5->Prop)(q:e->Exit->x5->Prop),
  E= .func (.func g) #[] cap/\qt P G g cap.toList s y r f/\(∀k vs z w,r k vs z w->vs.length=2)/\
  (∀w I,Ext w I->f w->f I)/\(∀k w I,Ext w I->j k w->j k I)/\(∀k ex w I,Ext w I->q k ex w->q k ex I)/\
  f w/\j s w/\
  (∀a b,∀k z I,f I->r k [a,b] z I->j k I->B a b I λex A=>match ex with
   | .normal=>f A/\j z A/\(G=s2->fp I A)
   |ex=>q k ex A)/\
  (∀k I,y k->j k I->F I)/\(∀k I,q k .ret I->H I)/\(∀k i I,q k (.exit i) I->ol J i I)):qv P E w B F H J:=by
 obtain⟨e,G,g,cap,s,y,r,f,j,q,h1,K,L,M,N,O,Q,R,W,S,T,V⟩:=h;exact⟨e,sp,G,g,cap,s,y,r,λ_=>f,λ_=>j,λ_=>q,h1,K.x,L,λ_=>M,λ_ k U aa C _=>N k U aa (C.W (by grind)),λ_ k ex U aa C _=>O k ex U aa (C.W (by grind)),Q,R,
  by grind,λ_=>S,λ_=>T,λ_=>V⟩
def eV(N:Nat)(free:gh):Code->List Nat->Env->x5->(Exit->Env->x5->Prop)->Prop
 | .skip,_,e,w,K=>K .normal e w
 | .label _,_,e,w,K=>K .normal e w
 | .ret,_,e,w,K=>K .ret e w
 | .exit i,_,e,w,K=>K (.exit i) e w
 | .region _ ops q,_,e,w,K=>
  bif q then ey w λI=>wu P free ops e I (K .normal)
  else qs P free ops ops.toList e w (K .normal)
 | .seq x y,rd,e,w,K=>
  bif Nat.ble 2 (mp x)then
   cG (lam (rI N (dR x) (reads y++rd)).length λvs=>λI=>eV N free y rd (kF (rI N (dR x) (reads y++rd)) vs (oj (dR x) e)) I K)
    λaA=>eV N free x (reads y++rd) e w λex a I=>match ex with
     | .normal=>match lP a (rI N (dR x) (reads y++rd))with
      |some vs=>app (rI N (dR x) (reads y++rd)).length aA vs I
      |none=>False
     |ex=>K ex a I
  else eV N free x (reads y++rd) e w λex a I=>match ex with
   | .normal=>eV N free y rd a I K
   |ex=>K ex a I
 | .cond c x y,rd,e,w,K=>
  match e4 e c with
  |some (.b s2)=>eV N free x rd e w K
  |some (.b sp)=>eV N free y rd e w K
  |some (.v v)=>Split v (eV N free x rd e w K) (eV N free y rd e w K)
  |some .u=>False
  |none=>False
 | .block id c,rd,e,w,K=>eV N free c rd e w λex a I=>match ex with
  | .exit i=>bif S4 i id then K .normal a I else K (.exit i) a I
  |ex=>K ex a I
 | .loop c,rd,e,w,K=>
  match lP e (rJ N (dR c) (reads c++rd) e)with
  |some vs=>
   Ib (rJ N (dR c) (reads c++rd) e).length vs w λus I k=>
    eV N free c (reads c++rd) (kF (rJ N (dR c) (reads c++rd) e) us (oj (dR c) e)) I λex a h=>match ex with
     | .normal=>match lP a (rJ N (dR c) (reads c++rd) e)with
      |some r=>k r h
      |none=>False
     |ex=>K ex a h
  |none=>False
 | .scope c,rd,e,w,K=>eV N free c rd e w K
 | .rangeFunc f j s body,_,e,w,K=>
  bif free.1 then False else
  match e4 e f with
  |some z=>
   Ih P z.val j.size w
    (λvs I k=>eV N free s (reads body) (kF j.toList.reverse vs.reverse e) I λex a h=>match ex with
     | .normal=>Over w.heap.size h λA=>eV N free body [] a A λex _ B=>k ex B
     |_=>False)
    (λI=>K .normal e I) (bif kG body then λI=>K .ret e I else λ_=>False) (tI (λi I=>K (.exit i) e I) (k5 body))
  |none=>False
 | .goto _,_,_,_,_=>False
 | .refuse _,_,_,_,_=>False
end
theorem tJ{w0:x5}(h:cQ n w0 w){l:Nat}(j:w0.heap.size<=l)(o:Obj):cQ n w0 (w.putObj l o):=
 ⟨h.os,h.tape,h.output,by simpa using h.size,λr x a V=>by
  have e:=(Y2.1 a).1;rw[S9 Ω];exact h.a7 r x a V,λr x f a V=>by
  have e:=(Y2.1 a).1;rw[S9 Ω];exact h.old r x f a V⟩
theorem Ii{w0:x5}(h:fp w0 w){l:Nat}{a:Obj}(f:w.heap[l]?=σ a)(j:tt a=sp)(o:Obj):fp w0 (w.putObj l o):=λr x e V=>by
 have h1:=h r x e V
 grind [S9]
theorem rL{l:Nat}{a:Obj}(e:w.heap[l]?=σ a)(f:gf a=sp)(o:Obj):Ext w (w.putObj l o):=
 ⟨Ξ,by grind [S9]⟩
theorem z8{l:Nat}{o:Obj}(aC:gf o=sp):Ext (w.putObj l o) w:=
 ⟨Ξ,λr x a V=>by
  by_cases e:r=l
  .subst e;rcases Nat.lt_or_ge r w.heap.size with h|h
   .grind [x5.putObj_heap_same]
   .rw[Array.getElem?_eq_none (by simpa using h)]at a;cases a
  grind [S9]⟩
theorem qw(w:x5)(o:Obj):Ext w (w.alloc o):=rA w o
theorem qx(w:x5)(o:Obj):cU w (w.alloc o):=rB w o
def ny(D:Nat):Deferred:={target:=.collected D,args:=#[]}
def nz(w:x5)(e:List Deferred):Prop:=∃a:List Nat,e=a.map ny/\a.Nodup/\∀D∈a,w.heap[D]?=σ (.deferred (σ []))
theorem nz.cR{a:List Deferred}(h:nz w a)(e:cQ n w I):nz I a:=by
 obtain⟨f,h1,j,q⟩:=h;exact⟨f,h1,j,λD r=>e.a7 D _ (q D r) rfl⟩
section
variable{P:W0}{N:Nat}
def Ij(w:x5)(e f:List Deferred):Prop:=∃a:List Nat,f=a.map ny++e/\∀D∈a,w.heap.size<=D
def ir(n:Nat)(w:x5)(e:List Deferred)(I:x5)(a:List Deferred):Prop:=cQ n w I/\nz I a/\Ij w e a
theorem ir.refl{a:List Deferred}(h:nz w a):ir n w a w a:=⟨cQ.refl _ _,h,[],rfl,by grind⟩
theorem ir.F{U:x5}{a e f:List Deferred}(h:ir n w a U e)(k:ir n U e I f):ir n w a I f:=by
 obtain⟨j,A,q,a3,a4⟩:=h;obtain⟨r,s,x,B,y⟩:=k;refine⟨j.F r,s,x++q,by grind,λD z=>?_⟩;rcases j5.1 z with h|h
 .exact X3 j.size (y D h)
 grind
theorem ir.same{a:List Deferred}(h:nz w a)(e:cQ n w I):ir n w a I a:=⟨e,h.cR e,[],rfl,by grind⟩
def mq:Exit->Bool
 | .panic _=>sp
 | .outgrown=>sp
 | .goto _=>sp
 |_=>s2
def om(N:Nat)(free:gh)(f:Bool)(K:Exit->Env->x5->Prop)(D:List Nat)(a:Act)(w:x5)(ex:Exit)(a':Act)(I:x5):Prop:=
 mq ex=s2/\∃e,K ex e I/\S1 N e a'/\(∀t,t∉D->a'.tmps.getD t undef=a.tmps.getD t undef)/\(f=s2->a'.defers=a.defers)/\
  (free.1=sp->ir free.2 w a.defers I a'.defers)
theorem om.step{free:gh}{f j:Bool}{K:Exit->Env->x5->Prop}{D':List Nat}{a e a':Act}{U:x5}{ex:Exit}(h:om N free j K D' e U ex a' I)(z:∀t,t∈D'->t∈D)(hk:∀t,t∉D->e.tmps.getD t undef=a.tmps.getD t undef)(A:f=s2->j=s2)(ah:f=s2->e.defers=a.defers)(q:free.1=sp->ir free.2 w a.defers U e.defers):om N free f K D a w ex a' I:=by
 obtain⟨r,s,h1,x,B,C,y⟩:=h;exact⟨r,s,h1,x,by grind,by grind,λh=>(q h).F (y h)⟩
theorem Aa{t:Nat}{x:eT}:∀{e:Env},look (oj D e) t=σ x->look e t=σ x/\t∉D
 :=by
 intro a;induction a<;>grind [oj,look,H8,Nat.eq_of_beq_eq_true]
theorem wE{a:Act}{e:Env}:∀{S:List Nat}{vs:List x4},S1 N e a->(∀p∈S.zip vs,a.tmps.getD p.1 undef=p.2)->S1 N (kF S vs e) a
 |[],_,h,_=>by grind [kF]
 |t::r,[],h,_=>by grind [kF]
 |t::r,v::vs,h,j=>by
  have q:=wE (S:=r) (vs:=vs) h λp ae=>j p (by simp[ae]);refine⟨q.1,λs x V=>?_⟩;simp only[kF,look]at V;cases f:S4 t s with
  |true=>
   rw[f]at V;simp only[cond_true,W7]at V;subst V;rw[<-Nat.eq_of_beq_eq_true f];exact j (t,v) Ξ
  |false=>rw[f]at V;exact q.2 s x V
theorem tK{e:Env}{a:Act}(f:S1 N e a):∀{S:List Nat}{vs:List x4},lP e S=σ vs->vs.length=S.length/\∀p∈S.zip vs,a.tmps.getD p.1 undef=p.2
 |[],vs,h=>by simp[lP]at h;subst h;simp
 |t::r,vs,h=>by
  simp only[lP]at h;cases j:look e t with
  |none=>grind
  |some x=>
   rw[j]at h;simp only at h;cases ac:lP e r with
   |none=>grind
   |some us=>
    rw[ac]at h;simp only[W7]at h;subst h;obtain⟨h1,q⟩:=tK f ac;refine⟨by simp[h1],λp ae=>?_⟩;simp only[List.zip_cons_cons,List.mem_cons]at ae;rcases ae with rfl|ae
    .exact f.2 t x j
    grind
theorem Ik{a a':Act}{e f:Env}(j:S1 N e a)(q:S1 N f a')(hk:∀t,t∉D->a'.tmps.getD t undef=a.tmps.getD t undef):S1 N (oj D e) a':=
 ⟨q.1,λt x h=>by
  obtain⟨h1,r⟩:=Aa h;rw[hk t r];exact j.2 t x h1⟩
theorem Il{o:U9}{t:Nat}(a:o.dst=σ t)(l:List U9)(hm:o∈l):t∈pe l:=by
 induction l<;>grind [pe]
theorem Ab{free:gh}{f:Bool}{K:Exit->Env->x5->Prop}{a a':Act}(r:free.1=sp->nz w a.defers)(h:og N free (K .normal) D a w a' I):
  om N free f K D a w .normal a' I:=by
 obtain⟨j,h1,q,e,s⟩:=h;exact⟨rfl,j,h1,q,e.2,λ_=>e.1,λah=>by rw[e.1];grind [ir.same]⟩
theorem Ac:∀(a:List Nat)(vs:List x4)(p:Nat)(v:x4)(e:Env),a.length=vs.length->kF (a++[p]) (vs++[v]) e=kF a vs ((p,.v v)::e)
 |[],[],_,_,_,_=>rfl
 |[],_::_,_,_,_,h=>by simp at h
 |_::_,[],_,_,_,h=>by simp at h
 |q::a,u::vs,p,v,e,h=>by
  simp only[List.cons_append,kF];rw[Ac a vs p v e (by grind)]
theorem Ad:∀(a:List Nat)(vs:List x4)(kh:Array x4)(e:Env),a.length=vs.length->(a.all λt=>Nat.blt t N)=s2->S1 N e {tmps:=kh,defers:=[]}->
  S1 N (kF a.reverse vs.reverse e) {tmps:=(a.zip vs).foldl (λkh (p:Nat×x4)=>kh.setIfInBounds p.1 p.2) kh,defers:=[]}
 |[],[],_,_,_,_,h=>h
 |[],_::_,_,_,h,_,_=>by simp at h
 |_::_,[],_,_,h,_,_=>by simp at h
 |p::a,v::vs,kh,e,q,f,h=>by
  have j:a.length=vs.length:=by grind
  simp only[List.all_cons,T8]at f;simp only[List.zip_cons_cons,List.foldl_cons,List.reverse_cons];rw[Ac _ _ _ _ _ (by simpa using j)];exact Ad a vs _ _ j f.2 (h.put (d:=σ p) (x:=.v v) (v:=v) f.1 rfl)
def kI(free:gh)(c:Code):Bool:=free.1|| !lO c
theorem Ae:∀f a b:Bool,(f|| !(a||b))=s2->(f|| !a)=s2:=Φ
theorem Af:∀f a b:Bool,(f|| !(a||b))=s2->(f|| !b)=s2:=Φ
def exitCode:Exit->Option Code
 | .ret=>σ .ret
 | .exit id=>σ (.exit id)
 |_=>ν
end
section
variable{P:W0}{N:Nat}
def Sound(P:W0)(N:Nat)(c:Code):Prop:=
 ∀(free:gh)(r:Option Nat)(rd:List Nat)(e:Env)(a:Act)(w:x5)(K:Exit->Env->x5->Prop)(Q:Exit->Act->x5->Prop),
  wf N c=s2->(∀l,r=σ l->free.1=sp/\∃f,w.heap[l]?=σ (.loop f))->(free.1=sp->nz w a.defers)->
  eV P N free c rd e w K->S1 N e a->(∀ex a' I,om N free (kI free c) K (dR c) a w ex a' I->Q ex a' I)->(∀h a w,¬Q (.panic h) a w)->
  c.wpIn (eU r) 0 P Q a w
theorem Im{x y:Code}(J:Sound P N x)(S:Sound P N y):Sound P N (.seq x y):=by
 intro free r rd e a w K Q B G T h H L M;simp only[wf,T8]at B;have V:∀t,t∈dR x->t∈dR (.seq x y):=by grind [dR]
 have W:∀t,t∈dR y->t∈dR (.seq x y):=by grind [dR]
 have X:kI free (.seq x y)=s2->kI free x=s2:=λh=>Ae _ _ _ h;have Y:kI free (.seq x y)=s2->kI free y=s2:=λh=>Af _ _ _ h;refine wpIn_seq ?_;have Z:∀(j:Env)(f:Act)(U:x5),eV P N free y rd j U K->S1 N j f->(∀t,t∉dR x->f.tmps.getD t undef=a.tmps.getD t undef)->
   (kI free (.seq x y)=s2->f.defers=a.defers)->(free.1=sp->ir free.2 w a.defers U f.defers)->y.wpIn (eU r) 0 P Q f U:=by
  intro j f U h1 z hk ah q;refine S free r rd j f U K Q B.2 ?_ (λh=>(q h).2.1) h1 z ?_ M
  .intro l aa;obtain⟨O,ab,A⟩:=G l aa;exact⟨O,ab,(q O).1.a7 _ _ A rfl⟩
  .intro ex a' I ae;exact L ex a' I (ae.step W (by grind) Y ah q)
 have ad:∀(s:Exit->Env->x5->Prop),eV P N free x (reads y++rd) e w s->
   (∀j f U,om N free (kI free x) s (dR x) a w .normal f U->S1 N j f->s .normal j U->(∀t,t∉dR x->f.tmps.getD t undef=a.tmps.getD t undef)->
    (kI free (.seq x y)=s2->f.defers=a.defers)->(free.1=sp->ir free.2 w a.defers U f.defers)->y.wpIn (eU r) 0 P Q f U)->
   (∀ex j U,ex≠ .normal->s ex j U->K ex j U)->x.wpIn (eU r) 0 P (Exit.then (y.wpIn (eU r) 0 P Q) Q) a w:=by
  intro s ac q af;refine J free r _ e a w s _ B.1 G T ac H ?_ ?_
  .intro ex f U ae;cases ex with
   |normal=>
    have ag:=ae;obtain⟨A,j,h1,C,E,R,F⟩:=ae;exact q j f U ag C h1 E (by grind) F
   |_=>
    obtain⟨A,j,h1,C,E,R,F⟩:=ae;refine L _ f U ⟨A,j,af _ j U Ξ h1,C,λt ai=>E t λh=>ai (V t h),λh=>R (X h),F⟩
  .intro aj a w ak;exact M aj a w ak
 simp only[eV]at h;cases al:Nat.ble 2 (mp x)with
 |false=>
  grind
 |true=>
  rw[al]at h;refine ad _ h (λj f U _ z h1 hk ah q=>?_) ?_
  .simp only at h1;cases ac:lP j (rI N (dR x) (reads y++rd))with
   |none=>grind
   |some vs=>
    rw[ac]at h1;obtain⟨am,an⟩:=tK z ac;simp only at h1;rw[wA _ _ _ am]at h1;exact Z _ f U h1 (wE (Ik H z hk) an) hk ah q
  grind
theorem In{c:Code}(X:Sound P N c):Sound P N (.loop c):=by
 intro free r rd e a w K Q G Y av h A Z ab;simp only[wf]at G;simp only[eV]at h;generalize aw:rJ N (dR c) (reads c++rd) e=S at h;cases ac:lP e S with
 |none=>grind
 |some vs=>
  rw[ac]at h;simp only at h;obtain⟨ad,af,q,ag⟩:=h;obtain⟨ai,aj⟩:=tK A ac;let Inv:Act->x5->Prop:=λf U=>∃us,us.length=S.length/\app S.length ad us U/\(∀p∈S.zip us,f.tmps.getD p.1 undef=p.2)/\f.tmps.size=N/\
   (∀t,t∉dR c->f.tmps.getD t undef=a.tmps.getD t undef)/\(kI free c=s2->f.defers=a.defers)/\(free.1=sp->ir free.2 w a.defers U f.defers)
  let H:Act->List x4:=λf=>S.map λt=>f.tmps.getD t undef;have I:∀(f:Act)(us:List x4),us.length=S.length->(∀p∈S.zip us,f.tmps.getD p.1 undef=p.2)->H f=us:=by
   intro f us s B;apply List.ext_getElem
   .grind
   .intro i h1 j;have hi:i<S.length:=Ω
    have ax:(S[i],us[i])∈S.zip us:=by
     have:=S2 (l:=S.zip us) (n:=i) (by simp[List.length_zip,s,hi])
     grind
    grind
  refine wpIn_loop Inv (λf U=>app S.length af (H f) U) ⟨vs,ai,q,aj,A.1,λ_ _=>rfl,λ_=>rfl,by grind [ir.refl]⟩ ?_;rintro f U ⟨us,s,ak,B,al,hk,ah,y⟩;have z:=tG S.length _ us ag;rw[wA _ _ _ s]at z;have z:=z U ak;have am:S1 N (kF S us (oj (dR c) e)) f:=by
   refine wE ⟨al,λt x an=>?_⟩ B;obtain⟨h1,j⟩:=Aa an;rw[hk t j];exact A.2 t x h1
  refine X free r _ _ f U _ _ G ?_ (λh=>(y h).2.1) z am ?_ ?_
  .intro l ao;obtain⟨J,ap,q⟩:=Y l ao;exact⟨J,ap,(y J).1.a7 _ _ q rfl⟩
  .intro ex C aa ae;have L:∀t,t∉dR c->C.tmps.getD t undef=a.tmps.getD t undef:=by
    obtain⟨_,_,_,_,M,_,_⟩:=ae
    grind
   cases ex with
   |normal=>
    obtain⟨q,E,h1,j,M,O,F⟩:=ae;simp only at h1;cases R:lP E S with
    |none=>grind
    |some T=>
     rw[R]at h1;obtain⟨V,W⟩:=tK j R;refine⟨⟨T,V,h1.1,W,j.1,L,by grind,λh=>(y h).F (F h)⟩,?_⟩;rw[I f us s B,I C T V W];exact h1.2
   |_=>
    obtain⟨q,E,h1,j,M,O,F⟩:=ae;exact Z _ C aa ⟨q,E,h1,j,L,λh=>(O h).F (ah h),λh=>(y h).F (F h)⟩
  .intro aq a w au;exact ab aq a w au
theorem Io{o:Obj}(h:gf o=sp):book o=s2\/tt o=s2:=by cases o<;>first|exact .inl rfl|exact .inr rfl|cases h
theorem Ip{l:Nat}{f q h:x5}{s z:Obj}(B:f.heap[l]?=σ s)(a:cQ n f q)(e:cQ n (q.putObj l z) h)(C:l<h.heap.size)(hi:fp f h):cU f (h.putObj l s):=
 ⟨e.os.F a.os,k2.F e.tape a.tape,e.output.F a.output,by have h1:=a.size;have A:=e.size;simp at A ⊢;omega,λr x w V=>by
  by_cases y:r=l
  .grind [x5.putObj_heap_same]
  .rw[S9 y];rcases Io V with j|j
   .exact e.a7 r x (by rw[S9 y];exact a.a7 r x w j) j
   .exact hi r x w j⟩
theorem Iq{f:S0}{U:Array Tmp}{Y body:Code}(a2:Sound P N Y)(ag:Sound P N body):Sound P N (.rangeFunc f U Y body):=by
 intro free r rd e a w K Q aH V a6 h Z a8 bQ;simp only[wf,T8]at aH;obtain⟨ba,bb,bc⟩:=aH;simp only[eV]at h;obtain⟨fr,b⟩:=free;cases fr with
 |true=>exact h.elim
 |false=>
  simp only[cond_false]at h;cases ah:e4 e f with
  |none=>grind
  |some bR=>
   rw[ah]at h;obtain⟨aI,o,G,g,cap,bS,bT,bU,aj,aJ,aq,bd,⟨aK,be⟩,bf,hbV,ak,au,hbW,bg,bh,bi,bj,bX⟩:=h;have bk:∀m k ex I,mq ex=s2->ex≠ .normal->aq m k ex I->K ex e I:=by
    intro m k ex I aa bZ J;cases ex with
    |normal=>grind
    |ret=>
     have:=bj m k I J;cases V:kG body with
     |true=>grind
     |false=>rw[V]at this;grind
    |exit i=>grind [Ig]
    |_=>cases aa
   have bl:a.eval f= .func (.func g) #[] cap:=by rw[Z.e4 ah];exact bd
   refine wpIn_rangeFunc ?_;intro fn _;obtain⟨D,mark,l,s,y,bm,O,aL,bn,S,aM,al⟩:∃(D:Nat)(mark:List Deferred)(l:Nat)(s:x5)(y:LoopState->Option Code->Loop),
     (Instr.enterLoop fn a.tmps U Y body (eU r).round).run P w= .ok (l,mark) s/\
     y=(λst bo=>{state:=st,pending:=bo,fn,tmps:=a.tmps,params:=U,assign:=Y,body,defers:=D})/\
     s.heap[l]?=σ (.loop (y .ready ν))/\(mark=[]\/(mark=[ny D]/\s.heap[D]?=σ (.deferred (σ []))/\w.heap.size<=D/\D≠l))/\Ext w s/\cU w s/\w.heap.size<=l:=by
    cases r with
    |none=>
     refine⟨w.heap.size,[ny w.heap.size],w.heap.size+1,_,_,run_enterLoop_outer _ _ _ _ _,rfl,?_,.inr ⟨rfl,?_,o6 _,Ω⟩,?_,?_,Ω⟩
     .grind [x5.alloc_heap_new,x5.size_alloc]
     .grind [Below.heap_alloc,x5.alloc_heap_new]
     .exact (qw w _).F (qw _ _)
     .exact (qx w _).F (qx _ _)
    |some bp=>
     obtain⟨_,bq,H⟩:=V bp rfl;exact⟨bq.defers,[],w.heap.size,_,_,run_enterLoop_inner H _ _ _ _ _,rfl,x5.alloc_heap_new w _,.inl rfl,qw _ _,qx _ _,o6 _⟩
   let M:x5->Prop:=λj=>mark=[]\/(mark=[ny D]/\j.heap[D]?=σ (.deferred (σ []))/\w.heap.size<=D/\D≠l);have av:∀{m:Nat}{A B:x5},cQ m A B->M A->M B:=λC h=>h.imp id λ⟨h1,q,z⟩=>⟨h1,C.a7 _ _ q rfl,z⟩;have am:∀{A:x5}(o:Obj),M A->M (A.putObj l o):=by grind [S9]
   have br:cQ b w s:=aM.b;have aN:=(Y2.1 aL).1;have aO:∀{A B:x5},gg s.heap.size A B->M A->M B:=λC h=>h.imp id λ⟨h1,q,z⟩=>⟨h1,C.old _ _ (by
    grind) q rfl,z⟩
   have ac:∀{A:x5}(o:Obj),gg w.heap.size A (A.putObj l o):=λ{A}o=>⟨rfl,.lK,rfl,Ξ,by grind [S9]⟩;let aA:(Nat->Prop)->aI->x5->Prop:=λm k j=>aJ m k j/\j.heap[l]?=σ (.loop (y .ready ν))/\cQ b w j/\M j;let aP:(Nat->Prop)->aI->x5->Prop:=λm k j=>∃ex c,mq ex=s2/\exitCode ex=σ c/\aq m k ex j/\j.heap[l]?=σ (.loop (y .done (σ c)))/\cQ b w j/\M j;have own:∀{m:Nat->Prop}{A B:x5},ai (λr=>o=s2/\s.heap.size<=r/\¬m r) A B->ai (λr=>o=s2/\w.heap.size<=r/\¬m r) A B:=λh=>h.Y (by grind);have aw:=be l aA aP s (λm k A B he C ⟨h1,q,z,R⟩=>⟨ak m k A B (own he) (C.Y S.size) h1,C.old _ _ aN q rfl,z.zR C S.size,aO C R⟩)
    (λm k A B he C ⟨ex,c,H,h1,q,z,R,ad⟩=>⟨ex,c,H,h1,au m k ex A B (own he) (C.Y S.size) q,C.old _ _ aN z rfl,R.zR C S.size,aO C ad⟩) ?round (by grind) ⟨ak _ _ _ _ (S.ab _) aM.o bg,aL,br,bn⟩
   case round=>
    intro m k an vs j aQ bs haj aR ⟨hi,ax,bt,bu⟩;have ay:=bf k vs an j aR;have aS:=run_yield (P:=P) (args:=vs.toArray) ax (by rw[O];simp[ay]);rw[O]at aS;refine⟨fn,_,Y,body,aS,roundIn_of_wpIn trivial ?_⟩;have bw:(U.zip vs.toArray).foldl (λtmps x=>match x with|(t,a)=>tmps.setIfInBounds t a) a.tmps=(U.toList.zip vs).foldl (λkh (p:Nat×x4)=>kh.setIfInBounds p.1 p.2) a.tmps:=by
     grind [Array.toList_zip]
    have aT:=Ad U.toList vs a.tmps e (by simp[ay]) ba (show S1 N e {tmps:=a.tmps,defers:=[]}from⟨Z.1,Z.2⟩);rw[<-bw]at aT;have b0:=ax;refine a2 (sp,b) (σ l) _ _ _ j _ _ bb (by grind) (λ_=>⟨[],rfl,List.nodup_nil,by grind⟩) (by have ag:=tG _ _ vs bh;rw[wA _ _ _ ay]at ag;exact ag m k an j (λr V=>⟨X3 S.size (aQ r V).1,(aQ r V).2⟩) (X3 S.size bs) haj aR hi) aT ?_ (λ_ _ _ h=>h);intro ex aU E ae;obtain⟨H,b1,h1,q,z,R,ad⟩:=ae;obtain⟨W,bx,_⟩:=ad rfl;cases ex with
    |normal=>
     have af:=W.a7 _ _ ax rfl;have bz:=(Y2.1 af).1;refine⟨_,run_beginRound af (by rw[O]),?_⟩;have bA:Ext E (E.putObj l (.loop {y .ready ν with state:=.busy})):=rL af rfl _;have bB:(E.putObj l (.loop {y .ready ν with state:=.busy})).heap[l]?=σ (.loop {y .ready ν with state:=.busy}):=x5.putObj_heap_same bz;have bC:nz (E.putObj l (.loop {y .ready ν with state:=.busy})) aU.defers:=by
      obtain⟨ao,az,X,aB⟩:=bx;refine⟨ao,az,X,λD' ap=>?_⟩
      grind [S9]
     have aV:cQ b w (E.putObj l (.loop {y .ready ν with state:=.busy})):=tJ (bt.F W) al _;have aW:=am (.loop {y .ready ν with state:=.busy}) (av W bu);have bD:=h1 _ bA ⟨z8 rfl,ac _⟩ (Ii (fp.refl _) af rfl _);refine ag (sp,b) (σ l) _ _ aU _ _ _ bc (by grind) (λ_=>bC) bD q ?_ (λ_ _ _ h=>h);intro bE b2 F ae;obtain⟨aD,b3,g1,b4,b5,b6,bF⟩:=ae;obtain⟨L,_,_⟩:=bF rfl;have aE:F.heap[l]?=σ (.loop {y .ready ν with state:=.busy}):=L.a7 _ _ bB rfl;have b7:=(Y2.1 aE).1;have aX:=λbG=>run_endRound (P:=P) bG aE;have aF:∀(o:Obj),Ext F (F.putObj l o):=λo=>rL aE rfl o;have aY:∀(ex:Exit)(c:Code),mq ex=s2->exitCode ex=σ c->(bif o then False else aq m k ex F)->
       ∃v I,(Instr.endRound l (σ c)).run P F= .ok v I/\∃aG,Ending.returned v= .returned aG/\((aG= .bool s2/\(∃bY,(∀r,bY r->m r\/j.heap.size<=r/\r<I.heap.size)/\(∀r,m r->bY r)/\aj bY I/\aA bY an I)/\(G=s2\/o=s2->cU j I)/\j.heap.size<=I.heap.size/\(o=s2->ai (λr=>r<s.heap.size\/m r) j I))\/(o=sp/\aG= .bool sp/\aP m k I)):=by
      intro ex c aa bH bI;cases o with
      |true=>grind
      |false=>
       refine⟨_,_,aX (σ c),_,rfl,.inr ⟨rfl,rfl,ex,c,aa,bH,au m k ex _ _ ((aF _).ab _) (ac _) bI,?_,tJ (aV.F L) al _,am _ (av L aW)⟩⟩
       grind [x5.putObj_heap_same]
     cases bE with
     |normal=>
      have bJ:j.heap.size<=F.heap.size:=by
       have h1:=W.size;have q:=L.size;simp at q;omega
      obtain⟨⟨bY,d1,d2,az,X⟩,b8,bK⟩:(∃bY,(∀r,bY r->m r\/j.heap.size<=r/\r<F.heap.size)/\(∀r,m r->bY r)/\aj bY F/\aJ bY an F)/\(G=s2\/o=s2->fp j F)/\(o=s2->ai (λr=>r<s.heap.size\/m r) j F):=by
       cases o with
       |true=>exact⟨g1.1,λ_=>g1.2.1,λ_=>g1.2.2.Y (by grind)⟩
       |false=>grind
      refine⟨_,_,aX ν,_,rfl,.inl ⟨rfl,⟨bY,by simpa using d1,d2,by grind,ak _ _ _ _ ((aF _).ab _) (ac _) X,?_,tJ (aV.F L) al _,am _ (av L aW)⟩,λb9=>?_,?_,λaC=>(bK aC).F ((aF _).ab _)⟩⟩
      .grind [x5.putObj_heap_same]
      .grind [Ip]
      .simpa using bJ
     |ret=>exact aY .ret _ rfl rfl g1
     |exit id=>exact aY (.exit id) _ rfl rfl g1
     |goto t=>cases aD
     |panic bL=>cases aD
     |outgrown=>cases aD
    |_=>grind
   have aw:=ip.calls P aw aK;refine⟨l,mark,s,{target:=.fn (.func g) cap,args:=#[.func (.yield l) #[] #[]]},s,g,#[.func (.yield l) #[] #[]]++cap,s,bm,?_,λ_ _=>trivial,?_,wm _ _,?_⟩
   .simp only[resolve,bl];simp[go_sem]
   .simp only[invoke];exact aK _ _
   .have bM:(#[.func (.yield l) #[] #[]]++cap:Array x4)=(x4.func (.yield l) #[] #[]::cap.toList).toArray:=by grind
    rw[bM];refine CallsIn.mono (zT aw) ?_;rintro ca E ⟨v,rfl,bN⟩;have left:∀(T:Loop)(ex:Exit),mq ex=s2->E.heap[l]?=σ (.loop T)->T.state≠ .busy->cQ b w E->M E->K ex e (E.putObj l (.loop {T with state:=.exhausted}))->
      Q ex {a with defers:=mark++a.defers} (E.putObj l (.loop {T with state:=.exhausted})):=by
     intro T ex aa af cb W aZ bO;have L:cQ b w (E.putObj l (.loop {T with state:=.exhausted})):=tJ W al _;refine a8 ex _ _ ⟨aa,e,bO,⟨Z.1,Z.2⟩,λ_ _=>rfl,by grind [kI,lO],λ_=>⟨L,?_,?_⟩⟩
     case refine_2=>
      rcases aZ with hm|⟨hm,_,bP,_⟩
      .exact⟨[],by simp[hm],by grind⟩
      .exact⟨[D],by simp[hm],by grind⟩
     obtain⟨ao,az,X,aB⟩:=a6 rfl;have a1:=am (.loop {T with state:=.exhausted}) aZ;rcases a1 with hm|⟨hm,a1,bP,_⟩
     .exact⟨ao,by grind,X,λD' ap=>L.a7 _ _ (aB D' ap) rfl⟩
     .refine⟨D::ao,by grind,List.nodup_cons.2 ⟨λcc=>?_,X⟩,λD' ap=>?_⟩
      .grind
      .rcases List.mem_cons.1 ap with h|h
       .grind
       .exact L.a7 _ _ (aB D' h) rfl
    rcases bN with⟨m,k,hk,h1,q,z,R⟩|⟨m,k,ex,c,H,h1,q,z,R,ad⟩
    .refine⟨ν,_,by have:=run_endLoop (P:=P) q (by rw[O];simp);rw[O]at this;exact this,?_⟩;have:=left (y .ready ν) .normal rfl q (by grind) z R (bi m _ _ hk (ak m _ _ _ ((rL q rfl _).ab _) (ac _) h1))
     grind
    .refine⟨σ c,_,by have:=run_endLoop (P:=P) z (by rw[O];simp);rw[O]at this;exact this,?_⟩;have:=left (y .done (σ c)) ex H z (by grind) R ad (bk m k ex _ H (by intro he;rw[he]at h1;cases h1) (au m _ _ _ _ ((rL z rfl _).ab _) (ac _) q));rw[O]at this;cases ex with
     |normal=>cases h1
     |ret=>cases h1;grind [wpIn_ret]
     |exit id=>cases h1;grind [wpIn_exit]
     |goto t=>cases H
     |panic bL=>cases H
     |outgrown=>cases H
theorem tL{b:Frame}{a:Act}{k:List Item}{cs:List Frame}{c:Code}:
  step P (lone (b.atR a (.code (.scope c)::k)) cs w)= .next (lone (b.atR a (.code c:: .inScope c::k)) cs w):=
 step_lone_go (by simp[stepG,stepG.exec,Frame.atR])
theorem Ir{b:Frame}{a:Act}{k:List Item}{cs:List Frame}{c:Code}:
  step P (lone (b.atR a (.inScope c::k)) cs w)= .next (lone (b.atR a k) cs w):=
 step_lone_go (by simp[stepG,stepG.exec,Frame.atR])
theorem Is{F:Fence}{c:Code}{Q:Exit->Act->x5->Prop}{a:Act}(h:c.wpIn F n P (λex a' I=>mq ex=s2/\Q ex a' I) a w):
  (Code.scope c).wpIn F n P Q a w:=by
 intro b k cs A q r;have f:(lone (b.atR a (.code (.scope c)::k)) cs w).fenced P F:=fenced_calm q r rfl;obtain⟨e,s,x,⟨y,z⟩,j⟩:=h b (.inScope c::k) cs A q r;have J:∀id,exitTo id (.inScope c::k)=exitTo id k:=by grind [exitTo]
 cases e with
 |normal=>exact⟨.normal,s,x,z,.head f tL (StepsIn.trans j (.one (fenced_calm q r rfl) Ir))⟩
 |exit id=>
  exact⟨.exit id,s,x,z,λB hk=>.head f tL (j.1 B (by grind)),
   λC hk=>let⟨E,h1,G⟩:=j.2 C (by grind);⟨E,h1,.head f tL G⟩⟩
 |ret=>exact⟨_,s,x,z,.of_steps (.one f tL) j⟩
 |goto l=>cases y
 |panic H=>cases y
 |outgrown=>cases y
theorem sound(hm:P.follows .mixedOrders=s2)(c:Code):Sound P N c:=by
 induction c with
 |skip=>exact λfree r rd e a w K Q _ _ A h j q _=>wpIn_skip (q _ _ _ ⟨rfl,e,h,j,λ_ _=>rfl,λ_=>rfl,by grind [ir.refl]⟩)
 |label l=>exact λfree r rd e a w K Q _ _ A h j q _=>wpIn_label (q _ _ _ ⟨rfl,e,h,j,λ_ _=>rfl,λ_=>rfl,by grind [ir.refl]⟩)
 |ret=>exact λfree r rd e a w K Q _ _ A h j q _=>wpIn_ret (q _ _ _ ⟨rfl,e,h,j,λ_ _=>rfl,λ_=>rfl,by grind [ir.refl]⟩)
 |exit i=>exact λfree r rd e a w K Q _ _ A h j q _=>wpIn_exit (q _ _ _ ⟨rfl,e,h,j,λ_ _=>rfl,λ_=>rfl,by grind [ir.refl]⟩)
 |goto l=>exact λfree r rd e a w K Q _ _ A h j q _=>h.elim
 |refuse s=>exact λfree r rd e a w K Q _ _ A h j q _=>h.elim
 |region id ops W=>
  intro free r rd e a w K Q B E A h j q F;simp only[wf,T8]at B;have T:∀o∈ops.toList,∀t,o.dst=σ t->t∈pe ops.toList:=by grind [Il]
  simp only[eV]at h;cases W with
  |false=>exact HT T B.1 h j λa' I ae=>q _ _ _ (Ab A ae)
  |true=>
   simp only[Y5,Bool.false_or]at B;exact H7 hm B.2 F T B.1 (λI h1 G H=>h I h1 G H) j λa' I ae=>q _ _ _ (Ab A ae)
 |seq x y J R=>grind [Im]
 |cond c x y J R=>
  intro free r rd e a w K Q B E A h j q F;simp only[wf,T8]at B;have U:∀ex a' I,om N free (kI free x) K (dR x) a w ex a' I->Q ex a' I:=λex a' I ae=>q ex a' I (by
   obtain⟨O,L,h1,G,H,M,S⟩:=ae;exact⟨O,L,h1,G,by grind [dR],(λh=>M (Ae _ _ _ h)),S⟩)
  have V:∀ex a' I,om N free (kI free y) K (dR y) a w ex a' I->Q ex a' I:=λex a' I ae=>q ex a' I (by
   obtain⟨O,L,h1,G,H,M,S⟩:=ae;exact⟨O,L,h1,G,by grind [dR],(λh=>M (Af _ _ _ h)),S⟩)
  simp only[eV]at h;cases C:e4 e c with
  |none=>grind
  |some v=>
   rw[C]at h;cases v with
   |b t=>
    cases t with
    |true=>exact wpIn_cond (j.e4 C) (J free r rd e a w K Q B.1 E A h j U F)
    |false=>exact wpIn_cond (j.e4 C) (R free r rd e a w K Q B.2 E A h j V F)
   |v z=>
    obtain⟨t,X,Y,ah⟩:=h;refine wpIn_cond ((j.e4 C).F X) ?_;cases t with
    |true=>exact J free r rd e a w K Q B.1 E A (Y rfl) j U F
    |false=>exact R free r rd e a w K Q B.2 E A (ah rfl) j V F
   |u=>exact h.elim
 |block id c C=>
  intro free r rd e a w K Q B E A h j q F;simp only[wf]at B;simp only[eV]at h;refine wpIn_block (C free r rd e a w _ _ B E A h j ?_ λZ a w aa=>F Z a w aa);intro ex a' I ae;obtain⟨O,L,h1,G,H,M⟩:=ae;cases ex with
  |exit i=>
   simp only[Exit.inBlock];simp only at h1;by_cases hi:i=id
   .rw[m3 hi];rw[hi,Nat.beq_refl]at h1;exact q _ _ _ ⟨rfl,L,h1,G,H,M⟩
   .rw[m5 hi];have:S4 i id=sp:=by
     grind [Nat.eq_of_beq_eq_true]
    rw[this]at h1;exact q _ _ _ ⟨rfl,L,h1,G,H,M⟩
  |_=>exact q _ _ _ ⟨O,L,h1,G,H,M⟩
 |loop c C=>exact In C
 |scope c C=>
  intro free r rd e a w K Q B E A h j q F;exact Is (C free r rd e a w K (λex a' I=>mq ex=s2/\Q ex a' I) B E A h j (λex a' I ae=>⟨ae.1,q ex a' I ae⟩) (by grind))
 |rangeFunc f ab ac body ad af=>grind [Iq]
def mr:Nat->List x4->Env
 |_,[]=>[]
 |i,v::r=>(i,.v v)::mr (i+1) r
def pg(P:W0)(e:Env)(w:x5):List ResultVar->(List x4->Prop)->Prop
 |[],K=>K []
 | .tmp t::r,K=>match look e t with
  |some x=>pg P e w r λvs=>K (x.val::vs)
  |none=>False
 | .cell a t::r,K=>match look e a with
  |some x=>ad P (do loadVar t (<-asAddr x.val)) w λv=>pg P e w r λvs=>K (v::vs)
  |none=>False
def tM:List x4->x4
 |[v]=>v
 |vs=>.tuple vs.toArray
def nA(P:W0)(a:List ResultVar)(marks:Bool)(n:Nat)(Q:x4->x5->Prop):Exit->Env->x5->Prop
 | .normal,e,w| .ret,e,w=>pg P e w a λvs=>bif marks then wB n w λI=>Q (tM vs) I else Q (tM vs) w
 |_,_,_=>False
def oo:List ResultVar->List Nat
 |[]=>[]
 | .tmp t::r=>t::oo r
 | .cell a _::r=>a::oo r
theorem Ag:∀(vs:List x4)(i t:Nat)(x:eT),look (mr i vs) t=σ x->∃j v,t=i+j/\vs[j]?=σ v/\x= .v v
 |[],_,_,_,h=>by cases h
 |v::r,i,t,x,h=>by
  simp only[mr,look]at h;cases a:S4 i t with
  |true=>
   rw[a]at h;simp only[cond_true,W7]at h;exact⟨0,v,by grind [Nat.eq_of_beq_eq_true],rfl,h.symm⟩
  |false=>
   rw[a]at h;obtain⟨j,u,h1,f,e⟩:=Ag r (i+1) t x h;exact⟨j+1,u,Ω,by grind,e⟩
theorem wF(vs:List x4)(h:vs.length<=n):S1 n (mr 0 vs) {tmps:=vs.toArray++Array.replicate (n-vs.toArray.size) undef,defers:=[]}:=by
 refine⟨Θ,λt x J=>?_⟩;obtain⟨j,v,h1,a,rfl⟩:=Ag vs 0 t x J;have h1:t=j:=Ω
 subst h1;have e:=(x6.1 a).1;rw[Array.getD_eq_getD_getElem?,Array.getElem?_append_left Ω];simp[a,eT.val]
def tN(kh:Array x4):ResultVar->Sem x4
 | .tmp t=>pure (kh.getD t undef)
 | .cell b t=>do loadVar t (<-asAddr (kh.getD b undef))
theorem It(fn:Func)(kh:Array x4):results fn kh=(do let vs <-fn.results.mapM (tN kh);pure (if h:vs.size=1 then vs[0]else .tuple vs)):=by
 unfold results;congr 2
theorem wG{e:Env}{a:Act}{w:x5}(j:S1 N e a):∀(q:List ResultVar)(K:List x4->Prop),pg P e w q K->
  ∃vs,K vs/\vs.length=q.length/\∀I,Ext w I->(q.mapM (tN a.tmps)).run P I= .ok vs I
 |[],K,h=>⟨[],h,rfl,by grind [V2]⟩
 | .tmp t::r,K,h=>by
  simp only[pg]at h;cases f:look e t with
  |none=>grind
  |some x=>
   rw[f]at h;obtain⟨vs,h1,s,y⟩:=wG j r _ h;refine⟨x.val::vs,h1,by simp[s],λI hw=>?_⟩;rw[List.mapM_cons];simp only[tN,W6,V2,W9,y I hw,j.2 t x f]
 | .cell b t::r,K,h=>by
  simp only[pg]at h;cases f:look e b with
  |none=>grind
  |some x=>
   rw[f]at h;obtain⟨v,ac,h⟩:=h;obtain⟨vs,h1,s,y⟩:=wG j r _ h;refine⟨v::vs,h1,by simp[s],λI hw=>?_⟩;rw[List.mapM_cons];have:=ac I hw;rw[<-j.2 b x f]at this
   grind [tN,W6,W9,V2]
theorem wH{fn:Func}{e:Env}{a:Act}(j:S1 N e a){K:List x4->Prop}(h:pg P e w fn.results.toList K):
  ∃vs,K vs/\∀I,Ext w I->(results fn a.tmps).run P I= .ok (tM vs) I:=by
 obtain⟨vs,h1,q,f⟩:=wG j _ _ h;refine⟨vs,h1,λI hw=>?_⟩;have f:=f I hw;rw[It,W6,Array.mapM_eq_mapM_toList,map_eq_pure_bind,W6,f];simp only[W9,V2];cases vs with
 |nil=>rfl
 |cons v r=>
  cases r<;>grind [tM]
theorem Ah{fn:Func}{tmps:Array x4}{R:Ending->x5->Prop}:∀(a:List Nat)(w:x5),a.Nodup->(∀D∈a,w.heap[D]?=σ (.deferred (σ [])))->
  (∀I,Ext w I->Ext I w->I.os=w.os->k2 w I->I.output=w.output->w.heap.size=I.heap.size->
   (∀r,r∉a->I.heap[r]?=w.heap[r]?)->∃v,(results fn tmps).run P I= .ok v I/\R (.returned v) I)->
  LeavesInM Fence.wide 0 P fn tmps R (a.map ny) .returning w
 |[],w,_,_,h=>by
  obtain⟨v,h1,e⟩:=h w (Ext.refl _) (Ext.refl _) rfl .lK rfl rfl λ_ _=>rfl;exact⟨v,h1,e⟩
 |D::a,w,f,q,h=>by
  rw[List.nodup_cons]at f;have j:=q D (.head _);refine⟨Ξ,.inl ⟨D,_,rfl,run_takeDeferred j,?_⟩⟩;refine Ah a _ f.2 (λD' A=>?_) λI h1 e s x y z B=>?_
  .grind [S9]
  .refine h I ((rL j rfl _).F h1) (e.F (z8 rfl)) s x y (by simpa using z) λr C=>?_
   grind [S9]
theorem aq.enter(hm:P.follows .mixedOrders=s2){f:S8}{fn:Func}{c:Code}(ah:P.funcs[f]?=σ fn)(q:fn.body=σ c)(F:(fn.name == "runtime.NumGoroutine")=sp)(G:wf fn.ntmps c=s2){args:List x4}(H:Nat.ble args.length fn.ntmps=s2){w:x5}{Q:x4->x5->Prop}(h:eV P fn.ntmps (sp,w.heap.size) c (oo fn.results.toList) (mr 0 args) w (nA P fn.results.toList s2 w.heap.size Q)):aq P f args w Q:=by
 refine .code (Enters.of P ah q F) (callsIn_wide (n:=0).1 (callsIn_of_wp_marks ah q trivial ?_));have J:=wF (n:=fn.ntmps) args (Nat.le_of_ble_eq_true H);refine wpIn_mono (Q:=λex a' I=>mq ex=s2/\bodyPostM Fence.wide 0 P fn (λe I=>∃v,e= .returned v/\cU w I/\Q v I) ex a' I) ?_ (by grind);refine sound hm c (sp,w.heap.size) ν _ _ _ w _ _ G (by grind) (λ_=>⟨[],rfl,List.nodup_nil,by grind⟩) h J ?_ (λ_ _ _ h=>by cases h.1)
 .intro ex a' I ae;obtain⟨K,L,j,M,_,_,V⟩:=ae;obtain⟨a,⟨s,N,O,R⟩,S,Z,ab⟩:=V rfl;have T:∀D∈s,w.heap.size<=D:=by
   intro D ac;have h1:ny D∈S.map ny:=by
    grind
   grind [ny]
  have x:nA P fn.results.toList s2 w.heap.size Q .ret L I->LeavesInM Fence.wide 0 P fn a'.tmps (λe y=>∃v,e= .returned v/\cU w y/\Q v y) a'.defers .returning I:=by
   intro j;rw[N];obtain⟨vs,h1,U⟩:=wH M j;refine Ah s I O R λaa g1 W z A B C X=>⟨_,U aa g1,_,rfl,?_,h1 aa g1 ⟨W,z,A,B,Nat.le_of_eq C,by grind⟩⟩;have a:=a.cR (o6 _);refine⟨z.F a.os,A.F a.tape,B.F a.output,by rw[<-C];exact a.size,λr o E Y=>?_⟩;have ad:=(Y2.1 E).1;rw[X r λhm=>by have:=T r hm;omega];exact a.a7 r o E Y
  cases ex with
  |normal=>exact⟨rfl,x j⟩
  |ret=>exact⟨rfl,x j⟩
  |exit id=>exact j.elim
  |_=>cases K
theorem aq.Iu(hm:P.follows .mixedOrders=s2){f:S8}{fn:Func}{c:Code}(ah:P.funcs[f]?=σ fn)(j:fn.body=σ c)(s:(fn.name == "runtime.NumGoroutine")=sp)(x:wf fn.ntmps c=s2){args:List x4}(y:Nat.ble args.length fn.ntmps=s2)(ax:lO c=sp){w:x5}{Q:x4->x5->Prop}(h:eV P fn.ntmps (sp,w.heap.size) c (oo fn.results.toList) (mr 0 args) w (nA P fn.results.toList sp 0 Q)):aq P f args w Q:=by
 refine .code (Enters.of P ah j s) (callsIn_wide (n:=0).1 (callsIn_of_wp ah j trivial ?_));have z:=wF (n:=fn.ntmps) args (Nat.le_of_ble_eq_true y);refine wpIn_mono (Q:=λex a' I=>mq ex=s2/\bodyPost P fn (λe I=>∃v,e= .returned v/\cU w I/\Q v I) ex a' I) ?_ (by grind);refine sound hm c (sp,w.heap.size) ν _ _ _ w _ _ x (by grind) (λ_=>⟨[],rfl,List.nodup_nil,by grind⟩) h z ?_ (λ_ _ _ h=>by cases h.1);intro ex a' I ae;obtain⟨A,B,a,C,_,E,V⟩:=ae;have F:=E (by simp[kI,ax]);have q:nA P fn.results.toList sp 0 Q .ret B I->a'.defers=[]/\∃v,(results fn a'.tmps).run P I= .ok v I/\∃r,Ending.returned v= .returned r/\cU w I/\Q r I:=by
  intro a;obtain⟨vs,h1,G⟩:=wH C a;exact⟨F,_,G I (Ext.refl _),_,rfl,(V rfl).1.cR (o6 _),h1⟩
 cases ex with
 |normal=>exact⟨rfl,q a⟩
 |ret=>exact⟨rfl,q a⟩
 |exit id=>exact a.elim
 |_=>cases A
theorem ip.enter(hm:P.follows .mixedOrders=s2){f:S8}{fn:Func}{c:Code}(ah:P.funcs[f]?=σ fn)(j:fn.body=σ c)(s:(fn.name == "runtime.NumGoroutine")=sp)(x:wf fn.ntmps c=s2){args:List x4}(y:Nat.ble args.length fn.ntmps=s2){w:x5}{Q:x4->x5->Prop}(h:eV P fn.ntmps (s2,0) c (oo fn.results.toList) (mr 0 args) w (nA P fn.results.toList sp 0 Q)):ip P f args w Q:=by
 refine .code (Enters.of P ah j s) (callsIn_wide (n:=0).1 (callsIn_of_wp ah j trivial ?_));have z:=wF (n:=fn.ntmps) args (Nat.le_of_ble_eq_true y);refine wpIn_mono (Q:=λex a' I=>mq ex=s2/\bodyPost P fn (λe I=>∃v,e= .returned v/\Q v I) ex a' I) ?_ (by grind);refine sound hm c (s2,0) ν _ _ _ w _ _ x (by grind) (by grind) h z ?_ (λ_ _ _ h=>by cases h.1);intro ex a' I ae;obtain⟨A,B,a,C,_,E,V⟩:=ae;have F:=E rfl;have q:nA P fn.results.toList sp 0 Q .ret B I->a'.defers=[]/\∃v,(results fn a'.tmps).run P I= .ok v I/\∃r,Ending.returned v= .returned r/\Q r I:=by
  intro a;obtain⟨vs,h1,G⟩:=wH C a
  grind [Ext.refl]
 cases ex with
 |normal=>exact⟨rfl,q a⟩
 |ret=>exact⟨rfl,q a⟩
 |exit id=>exact a.elim
 |_=>cases A
end
def rM(l:List S0)(d:Nat):Nat:=
 match l with
 |[]=>d
 | .tmp t::r=>rM r (Nat.lor d (Nat.shiftLeft 1 t))
 |_::r=>rM r d
def qy:List U9->Nat->Option U9
 |[],_=>ν
 |o::_,0=>σ o
 |_::l,n+1=>qy l n
def Ai(a b:Nat):Nat:=Nat.xor a (Nat.land a b)
def rN(m t:Nat):Bool:=S4 (Nat.land (Nat.shiftRight m t) 1) 1
def lQ(m t:Nat):Nat:=Nat.lor m (Nat.shiftLeft 1 t)
def Iv(ops:List U9)(o:U9):Nat:=
 match o.guard with
 |none=>0
 |some (j,_)=>match qy ops j with
  |some ⟨σ d,_,_,_,_,_⟩=>Nat.shiftLeft 1 d
  |_=>0
def tO:List U9->Nat->Nat
 |[],d=>d
 |⟨σ t,_,_,_,_,_⟩::l,d=>tO l (lQ d t)
 |_::l,d=>tO l d
def Aj(ops:List U9):List U9->Nat->Nat->Nat
 |[],_,r=>r
 |o::l,d,r=>Aj ops l (match o.dst with|some t=>lQ d t|none=>d) (Nat.lor r (Ai (rM (opsOf o.op) (Iv ops o)) d))
def tP:List Nat->Nat->Nat
 |[],_=>0
 |x::_,0=>x
 |_::l,n+1=>tP l n
def Ak(e:Edge):Bool:=
 match e.ground with
 | .textOnly _=>sp
 | .gcOnly _=>sp
 |_=>s2
def Al(a:List Nat):List Edge->Nat->Nat
 |[],s=>s
 |e::r,s=>Al a r (bif Ak e then Nat.lor (lQ s e.on) (tP a e.on)else s)
def wI:List U9->List Nat->List Nat
 |[],a=>a
 |o::l,a=>wI l (a++[Al a o.after.toList 0])
def Am:List U9->Bool
 |[]=>sp
 |⟨_,_,_,_,_,σ _⟩::_=>s2
 |_::l=>Am l
def wJ(a:List Nat)(j k:Nat):Bool:=!(S4 k j)&&(!(rN (tP a j) k)&& !(rN (tP a k) j))
def An(a:List Nat)(j:Nat):Nat->List U9->Bool
 |_,[]=>sp
 |i,o::l=>bif Nat.ble j i then sp else(!(lL o)&&wJ a j i)||An a j (Nat.succ i) l
def Ao(ops:List U9)(a:List Nat):Nat->List U9->Bool
 |_,[]=>sp
 |j,o::l=>(!(lL o)&&An a j 0 ops)||Ao ops a (Nat.succ j) l
def nB:Code->Nat
 | .region _ ops e=>bif (e&&Ao ops.toList (wI ops.toList []) 0 ops.toList)||Am ops.toList then 2 else 1
 | .seq a b=>bif S4 (nB a) 0 then 0 else nB b
 | .cond _ a b=>Nat.add (nB a) (nB b)
 | .block id c=>Nat.add (nB c) (k4 id c)
 | .loop _=>0
 | .scope c=>nB c
 | .exit _=>0
 | .goto _=>0
 | .ret=>0
 | .refuse _=>0
 |_=>1
def jP:Code->Nat
 | .region _ ops _=>tO ops.toList 0
 | .seq a b=>Nat.lor (jP a) (jP b)
 | .cond _ a b=>Nat.lor (jP a) (jP b)
 | .block _ c=>jP c
 | .loop c=>jP c
 | .scope c=>jP c
 |_=>0
def nC:Code->Nat
 | .region _ ops _=>tO ops.toList 0
 | .seq a b=>Nat.lor (nC a) (nC b)
 | .cond _ a b=>bif S4 (nB a) 0 then nC b else bif S4 (nB b) 0 then nC a else Nat.land (nC a) (nC b)
 | .block id c=>bif S4 (k4 id c) 0 then nC c else 0
 | .scope c=>nC c
 |_=>0
def gV:Code->Nat
 | .region _ ops _=>Aj ops.toList ops.toList 0 0
 | .seq a b=>Nat.lor (gV a) (Ai (gV b) (nC a))
 | .cond c a b=>rM [c] (Nat.lor (gV a) (gV b))
 | .block _ c=>gV c
 | .loop c=>gV c
 | .scope c=>gV c
 | .rangeFunc f _ a b=>rM [f] (Nat.lor (gV a) (gV b))
 |_=>0
def oq:Nat->Nat->Nat->List Nat
 |0,_,_=>[]
 |n+1,k,m=>bif S4 m 0 then[]else bif S4 (Nat.land m 1) 1 then k::oq n (Nat.succ k) (Nat.shiftRight m 1)else oq n (Nat.succ k) (Nat.shiftRight m 1)
def rO(e:Env):List Nat->List Nat
 |[]=>[]
 |t::r=>match look e t with
  |some _=>t::rO e r
  |none=>rO e r
structure ot(B S bb:Type) where
 mu:{x:x4}->x4
 tup:List x4->x4
 no:B
 mv:B
 and:B->B->B
 or:B->B->B
 W:x5->x5->B
 stays:S->x4->x5->B
 split:x4->B->B->B
 wK:S->x5->(x4->B)->B
 Ap:S->x5->(x4->x5->B)->B
 Aq:bb->x5->(x5->B)->B
 runN:{fr:Bool}->{n:Nat}->S->x5->(x4->x5->B)->B
 Ar:{f:S8}->List x4->x5->(x4->x5->B)->B
 As:{f:S8}->List x4->x5->(x4->x5->B)->B
 Au:{fr:Bool}->x4->List x4->x5->(x4->x5->B)->B
 drew:x5->(x5->B)->B
 again:{n:Nat}->x5->(x5->B)->B
 over:{n:Nat}->x5->(x5->B)->B
 dh:(x5->B)->((x5->B)->B)->B
 a6:(x4->x5->B)->((x4->x5->B)->B)->B
 iX:(x4->x4->x5->B)->((x4->x4->x5->B)->B)->B
 Av:(x4->x4->x4->x5->B)->((x4->x4->x4->x5->B)->B)->B
 Aw:(x4->x4->x4->x4->x5->B)->((x4->x4->x4->x4->x5->B)->B)->B
 Ax:(x4->x4->x4->x4->x4->x5->B)->((x4->x4->x4->x4->x4->x5->B)->B)->B
 Ay:x5->(x5->(x5->B)->B)->B
 Az:x4->x5->(x4->x5->(x4->x5->B)->B)->B
 AA:x4->x4->x5->(x4->x4->x5->(x4->x4->x5->B)->B)->B
 AB:x4->x4->x4->x5->(x4->x4->x4->x5->(x4->x4->x4->x5->B)->B)->B
 AC:x4->x4->x4->x4->x5->(x4->x4->x4->x4->x5->(x4->x4->x4->x4->x5->B)->B)->B
 AD:x4->x4->x4->x4->x4->x5->(x4->x4->x4->x4->x4->x5->(x4->x4->x4->x4->x4->x5->B)->B)->B
 AE:x4->x4->x4->x4->x4->x4->x5->(x4->x4->x4->x4->x4->x4->x5->(x4->x4->x4->x4->x4->x4->x5->B)->B)->B
 AF:x4->x5->(x4->x5->(Exit->x5->B)->B)->(x5->B)->(x5->B)->List (Nat×(x5->B))->B
 AG:x4->x5->(x4->x4->x5->(Exit->x5->B)->B)->(x5->B)->(x5->B)->List (Nat×(x5->B))->B
 loadVar:{t:o4}->x4->S
 alloc:{t:o4}->S
 box:{t:o4}->x4->S
 build:{t:o4}->List (Nat×x4)->S
 buildSlice:{t:o4}->{n:Nat}->List (Nat×x4)->S
 load:{t:o4}->x4->S
 nil:x4->S
 bin:{op:BinOp}->{t:o4}->Bool->Bool->x4->x4->S
 un:{op:UnOp}->x4->S
 conv:{s d:o4}->x4->S
 AH:{t:o4}->x4->S
 AI:{f:Fn}->List x4->List x4->S
 AJ:{t:o4}->Option x4->S
 AK:{t:o4}->x4->x4->S
 slice:{t:o4}->x4->Option x4->Option x4->Option x4->S
 AL:{t:o4}->x4->{f:Nat}->S
 field:{t:o4}->x4->{f:Nat}->S
 AM:{t:o4}->x4->x4->S
 index:{t:o4}->x4->x4->S
 lookup:{t:o4}->x4->x4->{ok:Bool}->S
 AN:{t:o4}->x4->x4->S
 range:{t:o4}->x4->S
 entry:x4->S
 assert:{t a:o4}->x4->{ok:Bool}->S
 extract:x4->{i:Nat}->S
 next:x4->{b:Bool}->S
 append:{ats:Array o4}->{t:o4}->List x4->S
 cap:{ats:Array o4}->{t:o4}->List x4->S
 clear:{ats:Array o4}->{t:o4}->List x4->S
 copy:{ats:Array o4}->{t:o4}->List x4->S
 delete:{ats:Array o4}->{t:o4}->List x4->S
 len:{ats:Array o4}->{t:o4}->List x4->S
 max:{ats:Array o4}->{t:o4}->List x4->S
 min:{ats:Array o4}->{t:o4}->List x4->S
 store:{t:o4}->x4->x4->bb
 wL:{t:o4}->x4->x4->x4->bb
 AO:{t:o4}->x4->x4->x4->bb
section
variable{B S bb:Type}(A:ot B S bb)
def eT.g:eT->x4
 | .v x=>x
 | .b c=>.bool c
 | .u=>A.mu (x:=undef)
def ph(e:Env):S0->eT
 | .tmp t=>match look e t with
  |some x=>x
  |none=>.u
 | .const (.bool c)=>.b c
 | .const x=>.v (A.mu (x:=x))
 | .global g=>.v (A.mu (x:=Γ g))
 | .func f=>.v (A.mu (x:=.func (.func f) #[] #[]))
def di(e:Env)(x:S0):x4:=(ph A e x).g A
def pi(e:Env):List S0->List x4
 |[]=>[]
 |x::r=>di A e x::pi e r
def tQ(e:Env):Option S0->Option x4
 |none=>ν
 |some x=>σ (di A e x)
def wM(e:Env):List (Nat×S0)->List (Nat×x4)
 |[]=>[]
 |(i,x)::r=>(i,di A e x)::wM e r
def Iw(b:Z0)(ats:Array o4)(t:o4)(l:List x4)(K:S->B):B:=
 match b with
 | .append=>K (A.append (ats:=ats) (t:=t) l)
 | .cap=>K (A.cap (ats:=ats) (t:=t) l)
 | .clear=>K (A.clear (ats:=ats) (t:=t) l)
 | .copy=>K (A.copy (ats:=ats) (t:=t) l)
 | .delete=>K (A.delete (ats:=ats) (t:=t) l)
 | .len=>K (A.len (ats:=ats) (t:=t) l)
 | .max=>K (A.max (ats:=ats) (t:=t) l)
 | .min=>K (A.min (ats:=ats) (t:=t) l)
 |_=>A.no
def AP(e:Env)(t:o4)(K:S->B)(j:bb->B):Op->B
 | .alloc t=>K (A.alloc (t:=t))
 | .box t x=>K (A.box (t:=t) (di A e x))
 | .build t q=>K (A.build (t:=t) (wM A e q.toList))
 | .buildSlice t n q=>K (A.buildSlice (t:=t) (n:=n) (wM A e q.toList))
 | .load t x=>K (A.load (t:=t) (di A e x))
 | .nilCheck x=>K (A.nil (di A e x))
 | .binOp op t x y _=>K (A.bin (op:=op) (t:=t) (qo x) (qo y) (di A e x) (di A e y))
 | .unOp op _ x=>K (A.un (op:=op) (di A e x))
 | .convert s d x=>K (A.conv (s:=s) (d:=d) (di A e x))
 | .makeInterface t x=>K (A.AH (t:=t) (di A e x))
 | .makeFunc f a b=>K (A.AI (f:=f) (pi A e a.toList) (pi A e b.toList))
 | .makeMap t r=>K (A.AJ (t:=t) (tQ A e r))
 | .makeSlice t l c=>K (A.AK (t:=t) (di A e l) (di A e c))
 | .slice t x l h m=>K (A.slice (t:=t) (di A e x) (tQ A e l) (tQ A e h) (tQ A e m))
 | .fieldAddr t x f=>K (A.AL (t:=t) (di A e x) (f:=f))
 | .field t x f=>K (A.field (t:=t) (di A e x) (f:=f))
 | .indexAddr t x i=>K (A.AM (t:=t) (di A e x) (di A e i))
 | .index t x i=>K (A.index (t:=t) (di A e x) (di A e i))
 | .lookup t x i ok=>K (A.lookup (t:=t) (di A e x) (di A e i) (ok:=ok))
 | .mapEntry t m k=>K (A.AN (t:=t) (di A e m) (di A e k))
 | .range t x=>K (A.range (t:=t) (di A e x))
 | .entry x=>K (A.entry (di A e x))
 | .typeAssert x t a ok=>K (A.assert (t:=t) (a:=a) (di A e x) (ok:=ok))
 | .extract x i=>K (A.extract (di A e x) (i:=i))
 | .call ⟨.builtin b,args,ats⟩=>Iw A b ats t (pi A e args.toList) K
 | .store t a x=>j (A.store (t:=t) (di A e a) (di A e x))
 | .mapUpdate t m k x=>j (A.wL (t:=t) (di A e m) (di A e k) (di A e x))
 | .insert t m k x=>j (A.wL (t:=t) (di A e m) (di A e k) (di A e x))
 | .entryStore t m k x=>j (A.AO (t:=t) (di A e m) (di A e k) (di A e x))
 |_=>A.no
def iY(e:Env)(d:Option Tmp)(x:eT):Env:=
 match d with
 |some t=>(t,x)::e
 |none=>e
def AQ(o:U9)(e:Env)(w:x5)(K:Env->(x5->B)->B):B:=
 match o with
 |⟨d,.move x,_,_,_,_⟩=>K (iY e d (ph A e x)) (λ_=>A.mv)
 |⟨d,.assign x,_,_,_,_⟩=>K (iY e d (ph A e x)) (λ_=>A.mv)
 |⟨d,.pick c a b,_,_,_,_⟩=>
  match ph A e c with
  | .b s2=>K (iY e d (ph A e a)) (λ_=>A.mv)
  | .b sp=>K (iY e d (ph A e b)) (λ_=>A.mv)
  | .v x=>A.split x (K (iY e d (.v (di A e a))) (λ_=>A.mv)) (K (iY e d (.v (di A e b))) (λ_=>A.mv))
  | .u=>A.no
 |⟨d,op,t,_,_,_⟩=>AP A e t (λs=>A.wK s w λv=>K (iY e d (.v v)) (A.stays s v)) (λ_=>A.no) op
def Ix(fr:Bool)(n:Nat)(o:U9)(e:Env)(w:x5)(K:Env->x5->B):B:=
 match o with
 |⟨d,.call ⟨.value (.func f),args,_⟩,_,_,_,_⟩=>
  bif fr then A.As (f:=f) (pi A e args.toList) w λv I=>K (iY e d (.v v)) I
  else A.Ar (f:=f) (pi A e args.toList) w λv I=>K (iY e d (.v v)) I
 |⟨d,.call ⟨.value x,args,_⟩,_,_,_,_⟩=>A.Au (fr:=fr) (di A e x) (pi A e args.toList) w λv I=>K (iY e d (.v v)) I
 |⟨d,.next x b,_,_,_,_⟩=>A.runN (fr:=fr) (n:=n) (A.next (di A e x) (b:=b)) w λv I=>K (iY e d (.v v)) I
 |⟨d,op,t,_,_,_⟩=>AP A e t (λs=>A.Ap s w λv I=>K (iY e d (.v v)) I) (λu=>A.Aq u w λI=>K (iY e d (.v (A.mu (x:=undef)))) I) op
def AR(fr:Bool)(n:Nat)(o:U9)(e:Env)(w:x5)(K:Env->x5->B):B:=
 bif lL o then AQ A o e w (λa _=>K a w)else Ix A fr n o e w K
def wN(ops:List U9)(o:U9)(e:Env)(D N:Env->B):B:=
 match o.guard with
 |none=>D e
 |some (j,b)=>
  match qy ops j with
  |some ⟨σ s,_,_,_,_,_⟩=>
   match look e s with
   |some (.b c)=>bif xor c b then N e else D e
   |some (.v x)=>A.split x (bif b then D ((s,.b s2)::e)else N ((s,.b s2)::e)) (bif b then N ((s,.b sp)::e)else D ((s,.b sp)::e))
   |some .u=>N e
   |none=>A.no
  |_=>A.no
def wO(fr:Bool)(n:Nat)(ops:List U9):List U9->Env->x5->(Env->x5->B)->B
 |[],e,w,K=>K e w
 |o::l,e,w,K=>wN A ops o e (λe=>AR A fr n o e w λa I=>wO fr n ops l a I K) (λe=>wO fr n ops l (iY e o.dst .u) w K)
def AS:List Edge->Nat->Bool
 |[],_=>s2
 |e::r,a=>(bif Ak e then rN a e.on else s2)&&AS r a
def tR(a:Nat):Nat->List U9->List Nat
 |_,[]=>[]
 |i,o::l=>bif rN a i then tR a (Nat.succ i) l else bif AS o.after.toList a then i::tR a (Nat.succ i) l else tR a (Nat.succ i) l
def AT(ops:List U9):List Nat->Option Nat
 |[]=>ν
 |i::r=>match qy ops i with
  |some o=>bif lL o then σ i else AT ops r
  |none=>ν
def AU(p:Nat->B):List Nat->B
 |[]=>A.mv
 |[i]=>p i
 |i::r=>A.and (p i) (AU p r)
def AV(same:Bool)(q:Nat)(w:x5)(st:x5->B)(a:List (x5×List (Nat×(x5->B)))):List (x5×List (Nat×(x5->B))):=
 match same,a with
 |true,g::r=>(g.1,(q,st)::g.2)::r
 |_,a=>(w,[(q,st)])::a
def AW(a:List Nat)(j:Nat):List (Nat×(x5->B))->Bool
 |[]=>sp
 |(i,_)::r=>wJ a j i||AW a j r
def wP(a:List Nat)(j:Nat)(I:x5):List (Nat×(x5->B))->B
 |[]=>A.mv
 |(i,p)::r=>bif wJ a j i then A.and (p I) (wP a j I r)else wP a j I r
def tS(a:List Nat)(j:Nat)(I:x5)(C:B):List (x5×List (Nat×(x5->B)))->B
 |[]=>C
 |(w,l)::r=>bif AW a j l then A.and (A.or (A.W w I) (wP A a j I l)) (tS a j I C r)else tS a j I C r
def pj(fr:Bool)(n:Nat)(ops:List U9)(a:List Nat):Nat->Nat->Bool->List (x5×List (Nat×(x5->B)))->Env->x5->(Env->x5->B)->B
 |0,_,_,_,e,w,K=>K e w
 |fuel+1,h,same,f,e,w,K=>
  match tR h 0 ops with
  |[]=>K e w
  |i::r=>
   match AT ops (i::r)with
   |some q=>
    match qy ops q with
    |some o=>wN A ops o e
      (λe=>AQ A o e w λs st=>
       bif nv o then pj fr n ops a fuel (lQ h q) same f s w K
       else pj fr n ops a fuel (lQ h q) s2 (AV same q w st f) s w K)
      (λe=>bif nv o then pj fr n ops a fuel (lQ h q) same f (iY e o.dst .u) w K
       else pj fr n ops a fuel (lQ h q) s2 (AV same q w (λ_=>A.mv) f) (iY e o.dst .u) w K)
    |none=>A.no
   |none=>
    AU A (λj=>match qy ops j with
     |some o=>wN A ops o e (λe=>AR A fr n o e w λs I=>tS A a j I (pj fr n ops a fuel (lQ h j) sp f s I K) f)
       (λe=>tS A a j w (pj fr n ops a fuel (lQ h j) sp f (iY e o.dst .u) w K) f)
     |none=>A.no) (i::r)
def tT(e:Env):List Nat->List x4
 |[]=>[]
 |t::r=>(match look e t with|some x=>x.g A|none=>A.mu (x:=undef))::tT e r
def wQ(l:List Nat)(vs:List x4)(e:Env):Env:=
 match l,vs with
 |t::r,v::vs=>(t,.v v)::wQ r vs e
 |_,_=>e
def tU(d:Nat):Env->Env
 |[]=>[]
 |(t,x)::r=>bif rN d t then tU d r else(t,x)::tU d r
def Iy(l:List Nat)(aA:List x4->x5->B)(X:(List x4->x5->B)->B):B:=
 match l with
 |[]=>A.dh (λw=>aA [] w) λk=>X λ_ w=>k w
 |[_]=>A.a6 (λa w=>aA [a] w) λk=>X λvs w=>match vs with
  |[a]=>k a w
  |_=>A.no
 |[_,_]=>A.iX (λa b w=>aA [a,b] w) λk=>X λvs w=>match vs with
  |[a,b]=>k a b w
  |_=>A.no
 |[_,_,_]=>A.Av (λa b c w=>aA [a,b,c] w) λk=>X λvs w=>match vs with
  |[a,b,c]=>k a b c w
  |_=>A.no
 |[_,_,_,_]=>A.Aw (λa b c d w=>aA [a,b,c,d] w) λk=>X λvs w=>match vs with
  |[a,b,c,d]=>k a b c d w
  |_=>A.no
 |[_,_,_,_,_]=>A.Ax (λa b c d f w=>aA [a,b,c,d,f] w) λk=>X λvs w=>match vs with
  |[a,b,c,d,f]=>k a b c d f w
  |_=>A.no
 |_=>A.no
def Iz(us:List x4)(w:x5)(X:List x4->x5->(List x4->x5->B)->B):B:=
 match us with
 |[]=>A.Ay w λw k=>X [] w λ_ w=>k w
 |[a]=>A.Az a w λa w k=>X [a] w λvs w=>match vs with
  |[a]=>k a w
  |_=>A.no
 |[a,b]=>A.AA a b w λa b w k=>X [a,b] w λvs w=>match vs with
  |[a,b]=>k a b w
  |_=>A.no
 |[a,b,c]=>A.AB a b c w λa b c w k=>X [a,b,c] w λvs w=>match vs with
  |[a,b,c]=>k a b c w
  |_=>A.no
 |[a,b,c,d]=>A.AC a b c d w λa b c d w k=>X [a,b,c,d] w λvs w=>match vs with
  |[a,b,c,d]=>k a b c d w
  |_=>A.no
 |[a,b,c,d,f]=>A.AD a b c d f w λa b c d f w k=>X [a,b,c,d,f] w λvs w=>match vs with
  |[a,b,c,d,f]=>k a b c d f w
  |_=>A.no
 |[a,b,c,d,f,g]=>A.AE a b c d f g w λa b c d f g w k=>X [a,b,c,d,f,g] w λvs w=>match vs with
  |[a,b,c,d,f,g]=>k a b c d f g w
  |_=>A.no
 |_=>A.no
def wR(K:Nat->x5->B):List Nat->List (Nat×(x5->B))
 |[]=>[]
 |i::r=>(i,λw=>K i w)::wR K r
def jn(fr:Bool)(n:Nat):Code->Nat->Env->x5->(Exit->Env->x5->B)->B
 | .skip,_,e,w,K=>K .normal e w
 | .label _,_,e,w,K=>K .normal e w
 | .ret,_,e,w,K=>K .ret e w
 | .exit i,_,e,w,K=>K (.exit i) e w
 | .region _ ops C,_,e,w,K=>
  bif C then A.drew w λI=>pj A fr n ops.toList (wI ops.toList []) (ops.toList.length) 0 sp [] e I (K .normal)
  else wO A fr n ops.toList ops.toList e w (K .normal)
 | .seq x y,rd,e,w,K=>
  bif Nat.ble 2 (nB x)then
   Iy A (oq 1000 0 (Nat.land (jP x) (Nat.lor (gV y) rd))) (λvs I=>jn fr n y rd (wQ (oq 1000 0 (Nat.land (jP x) (Nat.lor (gV y) rd))) vs (tU (jP x) e)) I K)
    λaA=>jn fr n x (Nat.lor (gV y) rd) e w λex h I=>match ex with
     | .normal=>aA (tT A h (oq 1000 0 (Nat.land (jP x) (Nat.lor (gV y) rd)))) I
     |ex=>K ex h I
  else jn fr n x (Nat.lor (gV y) rd) e w λex h I=>match ex with
   | .normal=>jn fr n y rd h I K
   |ex=>K ex h I
 | .cond c x y,rd,e,w,K=>
  match ph A e c with
  | .b s2=>jn fr n x rd e w K
  | .b sp=>jn fr n y rd e w K
  | .v v=>A.split v (jn fr n x rd e w K) (jn fr n y rd e w K)
  | .u=>A.no
 | .block id c,rd,e,w,K=>jn fr n c rd e w λex h I=>match ex with
  | .exit i=>bif S4 i id then K .normal h I else K (.exit i) h I
  |ex=>K ex h I
 | .loop c,rd,e,w,K=>
  Iz A (tT A e (rO e (oq 1000 0 (Nat.land (jP c) (Nat.lor (gV c) rd))))) w λus I k=>
   jn fr n c (Nat.lor (gV c) rd) (wQ (rO e (oq 1000 0 (Nat.land (jP c) (Nat.lor (gV c) rd)))) us (tU (jP c) e)) I λex h j=>match ex with
    | .normal=>k (tT A h (rO e (oq 1000 0 (Nat.land (jP c) (Nat.lor (gV c) rd))))) j
    |ex=>K ex h j
 | .scope c,rd,e,w,K=>jn fr n c rd e w K
 | .rangeFunc f E z body,_,e,w,K=>
  match E.toList with
  |[p]=>A.AF (di A e f) w
    (λa I k=>jn fr n z (gV body) ((p,.v a)::e) I λex h j=>match ex with
     | .normal=>A.over (n:=w.heap.size) j λr=>jn fr n body 0 h r λex _ s=>k ex s
     |_=>A.no)
    (λI=>K .normal e I) (bif kG body then λI=>K .ret e I else λ_=>A.no) (wR (λi I=>K (.exit i) e I) (k5 body))
  |[p,q]=>A.AG (di A e f) w
    (λa b I k=>jn fr n z (gV body) ((q,.v b)::(p,.v a)::e) I λex h j=>match ex with
     | .normal=>A.over (n:=w.heap.size) j λr=>jn fr n body 0 h r λex _ s=>k ex s
     |_=>A.no)
    (λI=>K .normal e I) (bif kG body then λI=>K .ret e I else λ_=>A.no) (wR (λi I=>K (.exit i) e I) (k5 body))
  |_=>A.no
 | .goto _,_,_,_,_=>A.no
 | .refuse _,_,_,_,_=>A.no
def AX:Nat->List x4->Env
 |_,[]=>[]
 |i,v::r=>(i,.v (A.mu (x:=v)))::AX (i+1) r
def tV(e:Env)(w:x5):List ResultVar->(List x4->B)->B
 |[],K=>K []
 | .tmp t::r,K=>tV e w r λvs=>K ((match look e t with|some x=>x.g A|none=>A.mu (x:=undef))::vs)
 | .cell a t::r,K=>A.wK (A.loadVar (t:=t) (match look e a with|some x=>x.g A|none=>A.mu (x:=undef))) w λv=>tV e w r λvs=>K (v::vs)
def tW(vs:List x4)(K:x4->B):B:=
 match vs with
 |[v]=>K v
 |vs=>K (A.tup vs)
def wS:List ResultVar->Nat->Nat
 |[],s=>s
 | .tmp t::r,s=>wS r (lQ s t)
 | .cell a _::r,s=>wS r (lQ s a)
def IA(a:List ResultVar)(marks:Bool)(n:Nat)(Q:x4->x5->B):Exit->Env->x5->B
 | .normal,e,w=>tV A e w a λvs=>bif marks then A.again (n:=n) w λI=>tW A vs λv=>Q v I else tW A vs λv=>Q v w
 | .ret,e,w=>tV A e w a λvs=>bif marks then A.again (n:=n) w λI=>tW A vs λv=>Q v I else tW A vs λv=>Q v w
 |_,_,_=>A.no
def wT(fr marks:Bool)(fn:Func)(c:Code)(args:List x4)(w:x5)(Q:x4->x5->B):B:=
 jn A fr n c (wS fn.results.toList 0) (AX A 0 args) w (IA A fn.results.toList marks n Q)
end
def qz(P:W0):ot Prop (Sem x4) (Sem Unit) where
 mu {x}:=x
 tup l:=.tuple l.toArray
 no:=False
 mv:=True
 and:=And
 or:=Or
 W:=Ext
 stays:=ch P
 split:=Split
 wK:=ad P
 Ap:=aM P
 Aq u w K:=aM P u w λ_ I=>K I
 runN {fr n}:=tv P (fr,n)
 Ar {f}:=aq P f
 As {f}:=ip P f
 Au {fr}:=tz P fr
 drew:=ey
 again {n}:=wB n
 over {n}:=Over n
 dh:=cG
 a6:=cG
 iX:=cG
 Av:=cG
 Aw:=cG
 Ax:=cG
 Ay:=Ic
 Az:=b7
 AA:=ce
 AB:=kE
 AC:=rG
 AD:=rH
 AE:=Ie
 AF:=kH P
 AG:=qv P
 loadVar {t} x:=do loadVar t (<-asAddr x)
 alloc {t}:=R3 t s2 (.tuple #[])
 box {t} x:=Instr.box t x
 build {t} l:=Instr.build t l.toArray
 buildSlice {t n} l:=Y4 t n l.toArray
 load {t} x:=u5 t x
 nil x:=b1 x
 bin {op t} a b x y:=aT op t a b x y
 un {op} x:=Op.unary op x
 conv {s d} x:=convert s d x
 AH {t} x:=Instr.makeInterface t x
 AI {f} a b:=Instr.makeFunc f a.toArray b.toArray
 AJ {t} x:=Instr.makeMap t x
 AK {t} l c:=Instr.makeSlice t l c
 slice {t} x l h m:=V5 t x l h m
 AL {t} x {f}:=u6 t x f
 field {t} x {f}:=Instr.field t x f
 AM {t} x i:=n9 t x i
 index {t} x i:=Instr.index t x i
 lookup {t} x i {ok}:=Instr.lookup t x i ok
 AN {t} m k:=Instr.mapEntry t m k
 range {t} x:=Instr.range t x
 entry x:=Instr.entry x
 assert {t a} x {ok}:=Instr.typeAssert x t a ok
 extract x {i}:=Z7 x i
 next x {b}:=Instr.next x b 0
 append {ats t} l:=b9 ats t l.toArray
 cap {ats t} l:=Z0.cap_ ats t l.toArray
 clear {ats t} l:=Z0.clear_ ats t l.toArray
 copy {ats t} l:=Z0.copy_ ats t l.toArray
 delete {ats t} l:=Z0.delete_ ats t l.toArray
 len {ats t} l:=X8 ats t l.toArray
 max {ats t} l:=Z0.max_ ats t l.toArray
 min {ats t} l:=Z0.min_ ats t l.toArray
 store {t} a x:=o7 t a x
 wL {t} m k x:=Instr.mapUpdate t m k x
 AO {t} m k x:=Instr.entryStore t m k x
end Go.Vc
namespace Go.Proofs.YtlcdcbgoaljiiaaGreatDoor
open Go Go.Vc Go.RowKit Go.Proofs Go.Proofs.Tryz
set_option maxRecDepth 100000
theorem mixed:x8.follows .mixedOrders=s2:=Ψ
def AY:Nat:=4
def IB:Nat:=6
def IC:Nat:=7
def ID:Nat:=8
def IE:Nat:=9
def AZ:Nat:=10
def IF:Nat:=11
def IG:Nat:=12
def IH:Nat:=13
def II:Nat:=14
def IJ:Nat:=15
def IK:Nat:=16
def IL:Nat:=17
def IM:Nat:=18
def A0:Nat:=21
def IN:Nat:=22
def IP:Nat:=24
def A1:Nat:=25
def A2:Nat:=26
def wU:Nat:=27
def IQ:Nat:=28
def wV:Nat:=29
def IR:Nat:=30
def IS:Nat:=31
def IT:Nat:=32
def IU:Nat:=33
def A3:Nat:=34
def A4:Nat:=35
def wW:Nat:=36
def wX:Nat:=37
def A5:Nat:=38
def IV:Nat:=39
def IW:Nat:=40
def A6:Nat:=41
def IX:Nat:=42
def IY:Nat:=43
def IZ:Nat:=44
def VZ:Nat:=45
def I0:Nat:=46
def I1:Nat:=48
def I2:Nat:=49
def I3:Nat:=50
def I4:Nat:=53
def rP:Nat:=54
def I5:Nat:=55
def I6:Nat:=57
def I7:Nat:=58
def I8:Nat:=59
def I9:Nat:=60
def A7:Nat:=61
def Ja:Nat:=62
def Jb:Nat:=63
def Jc:Nat:=64
def Jd:Nat:=65
def Je:Nat:=66
def Jf:Nat:=67
def Jg:Nat:=68
def Jh:Nat:=69
def Ji:Nat:=70
def Jj:Nat:=71
def Wa:Nat:=72
def wY:Nat:=73
def Jk:Nat:=74
def Jl:Nat:=75
def Jm:Nat:=76
def Jn:Nat:=77
def Jo:Nat:=78
def Jp:Nat:=79
def Jq:Nat:=80
def jQ:Nat:=81
def Jr:Nat:=82
def Js:Nat:=83
def Jt:Nat:=84
def Ju:Nat:=85
def Jv:Nat:=86
def A8:Nat:=87
def Wb:Nat:=88
def Jw:Nat:=89
def Jx:Nat:=90
def Jy:Nat:=92
def Jz:Nat:=93
def nD:Nat:=94
def JA:Nat:=95
def JB:Nat:=96
def JC:Nat:=97
def JD:Nat:=98
def JE:Nat:=99
def JF:Nat:=100
def JG:Nat:=101
def JH:Nat:=102
def JI:Nat:=103
def Ba:Nat:=106
def Bb:Nat:=107
def rQ:Nat:=108
def pk:Nat:=109
def mw:Nat:=110
def Bc:Nat:=111
def wZ:Nat:=112
def pm:Nat:=113
def Bd:Nat:=114
def w1:Nat:=115
def JJ:Nat:=116
def JK:Nat:=117
def tX:Nat:=118
def nE:Nat:=119
def Be:Nat:=120
def pn:Nat:=121
def JL:Nat:=122
def JM:Nat:=123
def JN:Nat:=124
def JO:Nat:=125
def Bf:Nat:=126
def JP:Nat:=127
def JQ:Nat:=128
def Bg:Nat:=129
def Bh:Nat:=130
def JR:Nat:=131
def JS:Nat:=132
def JT:Nat:=133
def JU:Nat:=134
def JV:Nat:=135
def w2:Nat:=136
def JW:Nat:=137
def JX:Nat:=138
def JY:Nat:=139
def JZ:Nat:=140
def J0:Nat:=141
def J1:Nat:=142
def J2:Nat:=143
def J3:Nat:=144
def J4:Nat:=145
def po:Nat:=146
def pp:Nat:=147
def J5:Nat:=148
def J6:Nat:=149
def J7:Nat:=150
def J8:Nat:=151
def J9:Nat:=152
def Ka:Nat:=153
def Kb:Nat:=154
def Kc:Nat:=155
def Kd:Nat:=156
def Ke:Nat:=157
def Kf:Nat:=158
def Bi:Nat:=159
def Kg:Nat:=160
def Kh:Nat:=161
def Ki:Nat:=162
def Kj:Nat:=163
def Kk:Nat:=164
def Kl:Nat:=165
def Km:Nat:=166
def Kn:Nat:=169
def Ko:Nat:=170
def Bj:Nat:=171
def Kp:Nat:=172
def Kq:Nat:=173
def Kr:Nat:=174
def Ks:Nat:=175
def Kt:Nat:=176
def qA:Nat:=177
def Ku:Nat:=178
def Kv:Nat:=179
def tY:Nat:=180
def Kw:Nat:=181
def Kx:Nat:=182
def Bk:Nat:=183
def Bl:Nat:=184
def Bm:Nat:=185
def Ky:Nat:=186
def rR:Nat:=187
def Kz:Nat:=188
def w3:Nat:=189
def KA:Nat:=190
def KB:Nat:=191
def Bn:Nat:=192
def KC:Nat:=193
def KD:Nat:=194
def KE:Nat:=195
def KF:Nat:=196
def KG:Nat:=197
def KH:Nat:=198
def KI:Nat:=199
def Bo:Nat:=200
def KJ:Nat:=201
def KK:Nat:=202
def KL:Nat:=203
def KM:Nat:=204
def KN:Nat:=205
def Bp:Nat:=206
def KO:Nat:=207
def KP:Nat:=208
def KQ:Nat:=209
def KR:Nat:=210
def KS:Nat:=211
def Bq:Nat:=212
def KT:Nat:=213
def Br:Nat:=214
def KU:Nat:=215
def KV:Nat:=216
def KW:Nat:=217
def KX:Nat:=218
def KY:Nat:=219
def KZ:Nat:=220
def K0:Nat:=221
def K1:Nat:=222
def K2:Nat:=223
def K3:Nat:=224
def Bs:Nat:=225
def K4:Nat:=226
def K5:Nat:=227
def K6:Nat:=228
def w4:Nat:=229
def tZ:Nat:=230
def w5:Nat:=231
def K7:Nat:=232
def w6:Nat:=233
def K8:Nat:=234
def K9:Nat:=235
def La:Nat:=236
def w7:Nat:=237
def Lb:Nat:=238
def Lc:Nat:=239
def Bt:Nat:=240
def Bu:Nat:=241
def Bv:Nat:=242
def Ld:Nat:=243
def Le:Nat:=244
def Lf:Nat:=245
def Lg:Nat:=246
def Lh:Nat:=247
def Li:Nat:=248
def Lj:Nat:=249
def Wc:Nat:=250
def Lk:Nat:=252
def cmp_isNaN_int:Nat:=253
def Bw:Nat:=254
def w8:Nat:=255
def ua:Nat:=256
def Ll:Nat:=257
def Lm:Nat:=258
def Bx:Nat:=259
def Ln:Nat:=260
def Lo:Nat:=261
def Lp:Nat:=262
def Lq:Nat:=263
def Lr:Nat:=264
def Ls:Nat:=265
def Lt:Nat:=266
def nF:Nat:=267
def pq:Nat:=268
def By:Nat:=269
def Bz:Nat:=270
def Lu:Nat:=271
def Lv:Nat:=272
def Wd:Nat:=273
def Lw:Nat:=274
def We:Nat:=275
def Lx:Nat:=276
def Ly:Nat:=277
def qB:Nat:=278
def Lz:Nat:=279
def LA:Nat:=280
def LB:Nat:=281
def LC:Nat:=291
def LD:Nat:=292
def ub:Nat:=293
def LF:Nat:=294
def LG:Nat:=295
def LH:Nat:=296
def LI:Nat:=297
def nG:Nat:=298
def LJ:Nat:=299
def LK:Nat:=300
def LL:Nat:=301
def Wf:Nat:=302
def Wg:Nat:=309
def LM:Nat:=310
def LN:Nat:=311
def LO:Nat:=313
def LP:Nat:=314
def LQ:Nat:=315
def Wh:Nat:=316
def LR:Nat:=317
def Wi:Nat:=318
def Wj:Nat:=319
def Wk:Nat:=320
def Wl:Nat:=321
def Wm:Nat:=322
def cmp_Less_int:Nat:=323
def Wn:Nat:=324
def Wo:Nat:=325
def Wp:Nat:=335
def Wq:Nat:=336
abbrev LS:Nat:=0
abbrev ay:Nat:=2
abbrev al:Nat:=3
abbrev ee:Nat:=4
abbrev cV:Nat:=5
abbrev dj:Nat:=9
abbrev cW:Nat:=22
abbrev pr:Nat:=23
abbrev ez:Nat:=25
abbrev au:Nat:=26
abbrev ca:Nat:=27
abbrev jo:Nat:=28
abbrev c0:Nat:=29
abbrev c7:Nat:=30
abbrev ps:Nat:=31
abbrev aK:Nat:=33
abbrev k6:Nat:=38
abbrev pt:Nat:=47
abbrev aB:Nat:=51
abbrev gi:Nat:=58
abbrev ci:Nat:=60
abbrev dk:Nat:=63
abbrev ba:Nat:=70
abbrev cr:Nat:=72
abbrev ou:Nat:=82
abbrev rS:Nat:=83
abbrev gC:Nat:=84
abbrev cX:Nat:=86
abbrev Wr:Nat:=87
abbrev fe:Nat:=89
abbrev BA:Nat:=92
abbrev qC:Nat:=94
abbrev bO:Nat:=96
abbrev gD:Nat:=98
abbrev w9:Nat:=106
abbrev xa:Nat:=109
abbrev c8:Nat:=116
abbrev ef:Nat:=118
abbrev ff:Nat:=134
abbrev jR:Nat:=135
abbrev pu:Nat:=136
abbrev uc:Nat:=137
abbrev gW:Nat:=139
abbrev iu:Nat:=150
abbrev rT:Nat:=151
abbrev lR:Nat:=157
abbrev my:Nat:=158
abbrev nH:Nat:=166
abbrev ud:Nat:=168
abbrev fq:Nat:=171
abbrev iZ:Nat:=172
abbrev cL:Nat:=174
abbrev kJ:Nat:=179
abbrev ki:Nat:=180
abbrev cv:Nat:=182
abbrev dX:Nat:=188
abbrev cN:Nat:=190
abbrev fg:Nat:=191
abbrev cS:Nat:=193
abbrev fP:Nat:=195
abbrev dN:Nat:=199
abbrev bR:Nat:=201
abbrev eA:Nat:=203
abbrev cH:Nat:=205
abbrev eB:Nat:=209
abbrev bj:Nat:=211
abbrev mz:Nat:=216
abbrev gE:Nat:=218
abbrev fs:Nat:=219
abbrev i7:Nat:=223
abbrev qD:Nat:=231
abbrev Ws:Nat:=242
abbrev rU:Nat:=244
abbrev jp:Nat:=257
abbrev k7:Nat:=263
abbrev eH:Nat:=268
abbrev cw:Nat:=272
abbrev gX:Nat:=274
abbrev da:Nat:=279
abbrev kj:Nat:=292
abbrev gj:Nat:=294
abbrev qE:Nat:=295
abbrev gY:Nat:=298
abbrev db:Nat:=301
abbrev xb:Nat:=317
abbrev eO:Nat:=320
abbrev dt:Nat:=322
abbrev cM:Nat:=324
abbrev iG:Nat:=328
abbrev gF:Nat:=331
abbrev cO:Nat:=333
abbrev mA:Nat:=356
abbrev k8:Nat:=358
abbrev Wt:Nat:=372
abbrev qF:Nat:=379
abbrev nI:Nat:=380
abbrev ov:Nat:=402
abbrev xc:Nat:=421
abbrev rV:Nat:=444
theorem aE{f:S8}{fn:Func}{c:Code}{Q:x4->x5->Prop}{Z:{B S bb:Type}->ot B S bb->(x4->x5->B)->B}{X:Prop}(ah:x8.funcs[f]?=σ fn)(h:X)(a:fn.body=σ c:=by rfl)(_:∀{B S bb:Type}(A:ot B S bb)(Q:x4->x5->B),wT A sp sp (n:=w.heap.size) fn c args w Q=Z A Q:=by intros;conv=>lhs;reduce)(_:Z (qz x8) Q=X:=by dsimp only[qz])(e:X=eV x8 fn.ntmps (sp,w.heap.size) c (oo fn.results.toList) (mr 0 args) w (nA x8 fn.results.toList sp 0 Q):=by kernel_rfl)(hk:(!(fn.name == "runtime.NumGoroutine")&&wf fn.ntmps c&&Nat.ble args.length fn.ntmps&& !lO c)=s2:=by kernel_rfl):aq x8 f args w Q:=by
 simp only[T8,Bool.not_eq_true']at hk;exact aq.Iu mixed ah a hk.1.1.1 hk.1.1.2 hk.1.2 hk.2 (e▸h)
theorem jq{f:S8}{fn:Func}{c:Code}{Q:x4->x5->Prop}{Z:{B S bb:Type}->ot B S bb->(x4->x5->B)->B}{X:Prop}(ah:x8.funcs[f]?=σ fn)(h:X)(a:fn.body=σ c:=by rfl)(_:∀{B S bb:Type}(A:ot B S bb)(Q:x4->x5->B),wT A sp s2 (n:=w.heap.size) fn c args w Q=Z A Q:=by intros;conv=>lhs;reduce)(_:Z (qz x8) Q=X:=by dsimp only[qz])(e:X=eV x8 fn.ntmps (sp,w.heap.size) c (oo fn.results.toList) (mr 0 args) w (nA x8 fn.results.toList s2 w.heap.size Q):=by kernel_rfl)(hk:(!(fn.name == "runtime.NumGoroutine")&&wf fn.ntmps c&&Nat.ble args.length fn.ntmps)=s2:=by kernel_rfl):aq x8 f args w Q:=by
 simp only[T8,Bool.not_eq_true']at hk;exact aq.enter mixed ah a hk.1.1 hk.1.2 hk.2 (e▸h)
theorem rW{f:S8}{fn:Func}{c:Code}{Q:x4->x5->Prop}{Z:{B S bb:Type}->ot B S bb->(x4->x5->B)->B}{X:Prop}(ah:x8.funcs[f]?=σ fn)(h:X)(a:fn.body=σ c:=by rfl)(_:∀{B S bb:Type}(A:ot B S bb)(Q:x4->x5->B),wT A s2 sp (n:=0) fn c args w Q=Z A Q:=by intros;conv=>lhs;reduce)(_:Z (qz x8) Q=X:=by dsimp only[qz])(e:X=eV x8 fn.ntmps (s2,0) c (oo fn.results.toList) (mr 0 args) w (nA x8 fn.results.toList sp 0 Q):=by kernel_rfl)(hk:(!(fn.name == "runtime.NumGoroutine")&&wf fn.ntmps c&&Nat.ble args.length fn.ntmps)=s2:=by kernel_rfl):ip x8 f args w Q:=by
 simp only[T8,Bool.not_eq_true']at hk;exact ip.enter mixed ah a hk.1.1 hk.1.2 hk.2 (e▸h)
theorem jQ.enters:Enters x8 jQ:=Enters.of x8 (show x8.funcs[jQ]?=σ Tryz.f81 from Tryz.func81) rfl Ψ
theorem nD.enters:Enters x8 nD:=Enters.of x8 (show x8.funcs[nD]?=σ Tryz.f94 from Tryz.func94) rfl Ψ
theorem nF.enters:Enters x8 nF:=Enters.of x8 (show x8.funcs[nF]?=σ Tryz.f267 from Tryz.func267) rfl Ψ
theorem qB.enters:Enters x8 qB:=Enters.of x8 (show x8.funcs[qB]?=σ Tryz.f278 from Tryz.func278) rfl Ψ
theorem nG.enters:Enters x8 nG:=Enters.of x8 (show x8.funcs[nG]?=σ Tryz.f298 from Tryz.func298) rfl Ψ
end Go.Proofs.YtlcdcbgoaljiiaaGreatDoor
namespace Go.Vc
open Go Go.RowKit
theorem xd{b o:Nat}(h:w.cell? ⟨b,o,ν⟩=σ v):∃c e f,w.heap[b]?=σ (.cells c e f)/\c[o]?=σ v:=by
 simp only[x5.cell?]at h;split at h
 .rename_i c e f a;exact⟨c,e,f,a,by simpa using h⟩
 .cases h
theorem BB(J:ai S w I){b o:Nat}(a:¬S b)(h:w.cell? ⟨b,o,ν⟩=σ v):I.cell? ⟨b,o,ν⟩=σ v:=by
 obtain⟨c,e,f,j,ac⟩:=xd h;simp[x5.cell?,J.a7 b _ j rfl a,ac]
theorem kk(J:Ext w I){b o:Nat}(h:w.cell? ⟨b,o,ν⟩=σ v):I.cell? ⟨b,o,ν⟩=σ v:=
 BB (J.ab λ_=>False) (λh=>h) h
theorem pv(J:Ext w I){b o:Nat}(h:w.rangeAt b o cs):I.rangeAt b o cs:=λj v ac=>kk J (h j v ac)
theorem iH(J:ai S w I){b o:Nat}(a:¬S b)(h:w.rangeAt b o cs):I.rangeAt b o cs:=λj v ac=>BB J a (h j v ac)
def aj(w:x5)(g:Nat)(e:o4)(cs:List x4):Prop:=w.heap[g]?=σ (.cells cs.toArray e (0,0))
theorem aj.W{g:Nat}(h:aj w g e cs)(J:Ext w I):aj I g e cs:=J.a7 g _ h rfl
theorem aj.ab{g:Nat}(h:aj w g e cs)(J:ai S w I)(a:¬S g):aj I g e cs:=J.a7 g _ h rfl a
theorem aj.lt{g:Nat}(h:aj w g e cs):g<w.heap.size:=(Y2.1 h).1
theorem aj.cell{g:Nat}(h:aj w g e cs){o:Nat}(ac:cs[o]?=σ v):w.cell? ⟨g,o,ν⟩=σ v:=by
 unfold aj at h;simp[x5.cell?,h,ac]
theorem aj.Qz{w:World}{g:Nat}{e:TypeId}{cs:List Value}{v:Value}(h:aj w g e cs)(I:cs[0]?=σ v):w.cell? ⟨g,0,ν⟩=σ v:=h.cell I
theorem aj.range{g:Nat}(h:aj w g e cs):w.rangeAt g 0 cs:=λj v ac=>by rw[V0];exact h.cell ac
theorem aj.frozen{g:Nat}(h:aj w g e cs)(o:Nat)(a:Option Nat):w.frozen? ⟨g,o,a⟩=sp:=by
 unfold aj at h;simp[x5.frozen?,h]
def cq(w:x5)(k:Nat)(v:x4)(n:Nat)(cs:List x4):Prop:=
 cs.length=n*k/\∃b o base cap,v= .slice base n cap/\n<=cap/\cap<=maxLen/\(0<n->base=σ ⟨b,o,ν⟩)/\w.rangeAt b o cs
theorem cq.W{k:Nat}(h:cq w k v n cs)(J:Ext w I):cq I k v n cs:=by
 obtain⟨h1,b,o,base,cap,a,e,f,j,q⟩:=h;exact⟨h1,b,o,base,cap,a,e,f,j,pv J q⟩
theorem cq.le{k:Nat}(h:cq w k v n cs):n<=maxLen:=by
 obtain⟨_,_,_,_,_,_,a,e,_⟩:=h;exact X3 a e
theorem cq.nil(w:x5)(k:Nat):cq w k (.slice ν 0 0) 0 []:=⟨Ξ,0,0,ν,0,rfl,o6 _,X9 _,λh=>m6 h (Nat.lt_irrefl _),λj v h=>by simp at h⟩
def aV(P:W0)(t:o4)(k b:Nat)(z:x4):Prop:=∃i,P.info? t=σ i/\i.size=k/\i.bytes=b/\i.zero=σ z
theorem aV.of{P:W0}{k b:Nat}(h:(P.info? t).map (λi=>(i.size,i.bytes,i.zero))=σ (k,b,σ z)):aV P t k b z:=by
 cases hi:P.info? t with
 |none=>simp[hi]at h
 |some i=>simp[hi]at h;exact⟨i,hi,h⟩
theorem aV.size{P:W0}{k b:Nat}(h:aV P t k b z):(P.info? t).map (·.size)=σ k:=by
 obtain⟨i,hi,V,_⟩:=h;simp[hi,V]
def bP(P:W0)(t:o4)(pl:List (Nat×Nat)):Prop:=∃a,P.underlying t=σ (.struct a)/\a.toList.map (λf=>(f.offset,((P.info? f.type).map (·.size)).getD 0))=pl
def BC(P:W0)(t:o4):Option (List (Nat×Nat)):=match P.underlying t with
 |some (.struct a)=>σ (a.toList.map λf=>(f.offset,((P.info? f.type).map (·.size)).getD 0))
 |_=>ν
theorem bP.of{P:W0}{pl:List (Nat×Nat)}(h:BC P t=σ pl):bP P t pl:=by
 unfold BC at h;split at h
 .rename_i a hu;exact⟨a,hu,by simpa using h⟩
 .cases h
section
variable{P:W0}{w:x5}
theorem ad.of{s:Sem x4}(h:∀I,Ext w I->s.run P I= .ok v I):ad P s w K=K v:=by
 refine propext ⟨λ⟨a,be,k⟩=>?_,λk=>⟨v,h,k⟩⟩;have:=be w (Ext.refl w);rw[h w (Ext.refl w)]at this;cases this;exact k
theorem aM.of{α:Type}{s:Sem α}{v:α}{K:α->x5->Prop}(h:s.run P w= .ok v I)(a:cU w I)(k:K v I):aM P s w K:=⟨v,I,h,a,k⟩
theorem cb{c:Bool}{A B:Prop}:Split (.bool c) A B=((c=s2->A)/\(c=sp->B)):=by
 refine propext ⟨λ⟨e,h,h1,a⟩=>?_,λ⟨h1,a⟩=>⟨c,rfl,h1,a⟩⟩;cases h;exact⟨h1,a⟩
theorem ao{p:Prop}[Decidable p]{A B:Prop}:Split (.bool (decide p)) A B=((p->A)/\(¬p->B)):=by rw[cb];simp
theorem bS{A B:Prop}:Split (.bool s2) A B=A:=by rw[cb];simp
theorem bc{A B:Prop}:Split (.bool sp) A B=B:=by rw[cb];simp
theorem aR{b:Int}:ad P (aT .add t cx cy (.int k a) (.int k b)) w K=K (.int k (k.wrap (a+b))):=
 ad.of λI _=>by simp[aT,eqGuard,binOp,Op.intArith]
theorem dr{b:Int}:ad P (aT .sub t cx cy (.int k a) (.int k b)) w K=K (.int k (k.wrap (a-b))):=
 ad.of λI _=>by simp[aT,eqGuard,binOp,Op.intArith]
theorem fQ{b:Int}:ad P (aT .mul t cx cy (.int k a) (.int k b)) w K=K (.int k (k.wrap (a*b))):=
 ad.of λI _=>by simp[aT,eqGuard,binOp,Op.intArith]
theorem ow{b:Int}(e:b≠0):ad P (aT .quo t cx cy (.int k a) (.int k b)) w K=K (.int k (k.wrap (a.tdiv b))):=
 ad.of λI _=>by simp[aT,eqGuard,binOp,Op.intDiv,e]
theorem rX{b:Int}(e:b≠0):ad P (aT .rem t cx cy (.int k a) (.int k b)) w K=K (.int k (a.tmod b)):=
 ad.of λI _=>by simp[aT,eqGuard,binOp,Op.intDiv,e]
theorem aW{b:Int}:ad P (aT .lss t cx cy (.int k a) (.int k b)) w K=K (.bool (decide (a<b))):=
 ad.of λI _=>by simp[aT,eqGuard,binOp,Op.intCmp]
theorem Υ{k:IntKind}{P:Program}{t:TypeId}{cx cy:Bool}{a b:Int}{w:World}{A B:Prop}(hA:a<b->A)(h:a<b:=by omega):ad P (aT .lss t cx cy (.int k a) (.int k b)) w λv=>Split v A B:=by
 rw[aW,ao];exact⟨hA,λe=>m6 h e⟩
theorem mB{b:Int}:ad P (aT .leq t cx cy (.int k a) (.int k b)) w K=K (.bool (decide (a<=b))):=
 ad.of λI _=>by simp[aT,eqGuard,binOp,Op.intCmp]
theorem bU{b:Int}:ad P (aT .gtr t cx cy (.int k a) (.int k b)) w K=K (.bool (decide (b<a))):=
 ad.of λI _=>by simp[aT,eqGuard,binOp,Op.intCmp]
theorem cT{b:Int}:ad P (aT .geq t cx cy (.int k a) (.int k b)) w K=K (.bool (decide (b<=a))):=
 ad.of λI _=>by simp[aT,eqGuard,binOp,Op.intCmp]
theorem bm{b:Int}:ad P (aT .eql t cx cy (.int k a) (.int k b)) w K=K (.bool (decide (a=b))):=
 ad.of λI _=>by
  have:(a == b)=decide (a=b):=by by_cases h:a=b<;>simp[h]
  simp[aT,eqGuard,binOp,Op.intCmp,this]
theorem bM{b:Int}:ad P (aT .neq t cx cy (.int k a) (.int k b)) w K=K (.bool (decide (a≠b))):=
 ad.of λI _=>by
  have:(a != b)=decide (a≠b):=by by_cases h:a=b<;>simp[h,bne]
  simp[aT,eqGuard,binOp,Op.intCmp,this]
theorem BD{e:o8}{b:Int}(f:0<=b):ad P (aT .shl t cx cy (.int k a) (.int e b)) w K=K (.int k (k.wrap (a*2 ^ min b.toNat k.bits))):=
 ad.of λI _=>by simp[aT,eqGuard,binOp,Op.shift,show¬b<0 by omega]
theorem bN{c:Bool}:ad P (Op.unary .not (.bool c)) w K=K (.bool !c):=ad.of λI _=>by simp[Op.unary]
theorem nJ:ad P (Op.unary .neg (.int k a)) w K=K (.int k (k.wrap (0-a))):=ad.of λI _=>by simp[Op.unary,Op.intArith]
theorem fR{s d:o4}{e:o8}(V:P.underlying s=σ (.int e))(f:P.underlying d=σ (.int k)):
  ad P (convert s d (.int e a)) w K=K (.int k (k.wrap a)):=ad.of λI _=>by simp[convert,run_underlying V,run_underlying f,Conv.intToInt]
theorem BE{x y:x4}{r:Bool}(a:∀I,(eqGuard .eql t (bf cx) (bf cy) x y).run P I= .ok () I)(e:binOp .eql t x y=(do pure (.bool (<-Op.equal t x y))))(h:∀I,Ext w I->(Op.equal t x y).run P I= .ok r I):ad P (aT .eql t cx cy x y) w K=K (.bool r):=ad.of λI J=>by
 unfold aT;rw[e,W6,a I,Result.andThen_ok,W6,h I J];rfl
theorem LU{x y:x4}{r:Bool}(a:∀I,(eqGuard .neq t (bf cx) (bf cy) x y).run P I= .ok () I)(e:binOp .neq t x y=(do pure (.bool (!(<-Op.equal t x y)))))(h:∀I,Ext w I->(Op.equal t x y).run P I= .ok r I):ad P (aT .neq t cx cy x y) w K=K (.bool !r):=ad.of λI J=>by
 unfold aT;rw[e,W6,a I,Result.andThen_ok,W6,h I J];rfl
theorem BF(w:x5)(d:Nat){p:Option Addr}(h:P.underlying t=σ (.pointer e)):(Op.equalIn (d+1) t (.pointer p) (.pointer ν)).run P w= .ok p.isNone w:=by
 cases p<;>simp[Op.equalIn,run_underlying h]
theorem qG{base:Option Addr}(a:P.underlying t=σ (.slice e)):
  ad P (aT .eql t cx cy (.slice base n c) (.slice ν 0 0)) w K=K (.bool base.isNone):=BE (λ_=>rfl) rfl λI _=>run_equal_slice_nil I t e base n c a
theorem dl{p:Option Addr}(a:P.underlying t=σ (.pointer e)):
  ad P (aT .eql t cx cy (.pointer p) (.pointer ν)) w K=K (.bool p.isNone):=BE (λ_=>rfl) rfl λI _=>BF I 9999 a
theorem xe{p:Option Addr}(a:P.underlying t=σ (.pointer e)):
  ad P (aT .neq t cx cy (.pointer p) (.pointer ν)) w K=K (.bool !p.isNone):=LU (λ_=>rfl) rfl λI _=>BF I 9999 a
theorem jr{a:o4}{base:Option Addr}(f:P.underlying t=σ (.slice e)):
  ad P (X8 #[t] a #[.slice base n c]) w K=K (Δ n):=ad.of λI _=>by simp[X8,run_underlying f,goInt]
theorem nK{e:Array o4}{b:Int}:
  ad P (Z0.min_ e f #[.int k a,.int k b]) w K=K (.int k (min a b)):=ad.of λI _=>by
 simp only[Z0.min_,List.foldlM,Z0.min2];simp only[W6,V2,Result.andThen_ok,Int.min_def];congr 2;split<;>split<;>omega
theorem rY{e:Array o4}{b:Int}:
  ad P (Z0.max_ e f #[.int k a,.int k b]) w K=K (.int k (max a b)):=ad.of λI _=>by
 simp only[Z0.max_,List.foldlM,Z0.max2];simp only[W6,V2,Result.andThen_ok,Int.max_def];congr 2;split<;>split<;>omega
theorem gk{vs:Array x4}{i:Nat}(h:vs[i]?=σ v):ad P (Z7 (.tuple vs) i) w K=K v:=ad.of λI _=>by simp[Z7,h]
theorem lS{f:Fn}{a b:Array x4}:ad P (Instr.makeFunc f a b) w K=K (.func f a b):=ad.of λ_ _=>rfl
def k9(P:W0)(t:o4):Bool:=match P.underlying t with
 |some (.struct _)|some (.array _ _)|none=>sp
 |_=>s2
theorem aG{b o:Nat}(a:k9 P t=s2)(h:w.cell? ⟨b,o,ν⟩=σ v):
  ad P (u5 t (.pointer (σ ⟨b,o,ν⟩))) w K=K v:=ad.of λI J=>by
 have be:=kk J h;unfold k9 at a;cases hu:P.underlying t with
 |none=>rw[hu]at a;cases a
 |some d=>
  rw[hu]at a;cases d<;>first|(cases a;done)|simp[u5,Instr.sureAddr,loadVar,isAgg,run_underlying hu,be]
theorem BG{d:TypeDesc}{b o k a:Nat}(hu:P.underlying t=σ d)(e:d.isRow=s2)(hi:aV P t k a z)(f:cs.length=k)(h:w.rangeAt b o cs):ad P (u5 t (.pointer (σ ⟨b,o,ν⟩))) w K=K (.agg cs.toArray):=ad.of λI J=>
 run_loadAt_mid I b o t cs d (pv J h) hu e (by rw[hi.size,f])
theorem bH{pl:List (Nat×Nat)}{b o k a:Nat}(hu:bP P t pl)(hi:aV P t k a z)(e:cs.length=k)(h:w.rangeAt b o cs):ad P (u5 t (.pointer (σ ⟨b,o,ν⟩))) w K=K (.agg cs.toArray):=by
 obtain⟨f,hu,_⟩:=hu;exact BG hu rfl hi e h
theorem a1{pl:List (Nat×Nat)}{i b o z:Nat}(ae:bP P t pl)(ah:pl[i]?=σ (h,z+1)):
  ad P (u6 t (.pointer (σ ⟨b,o,ν⟩)) i) w K=K (.pointer (σ ⟨b,o+h,ν⟩)):=ad.of λI _=>by
 obtain⟨r,hu,rfl⟩:=ae;rw[u4]at ah;cases a:r[i]? with
 |none=>rw[Array.getElem?_toList,a]at ah;cases ah
 |some f=>
  rw[Array.getElem?_toList,a]at ah;simp only[Y7,W7,R4]at ah;obtain⟨rfl,q⟩:=ah;cases e:P.info? f.type with
  |none=>simp[e]at q
  |some j=>
   have V:j.size=z+1:=by simpa[e]using q
   simp[u6,run_underlying hu,a,Instr.sureAddr,fieldPlace,sizeOf,typeInfo,e,V,U8]
theorem BH{i:Int}{b o z f:Nat}{h:x4}{base:Option Addr}(hu:P.underlying t=σ (.slice e))(q:aV P e z f h)(r:0<=i)(hi:i<n)(a:0<n->base=σ ⟨b,o,ν⟩):
  ad P (n9 t (.slice base n c) (.int k i)) w K=K (.pointer (σ ⟨b,o+i.toNat*z,ν⟩)):=ad.of λI _=>by
 have a:=a Ω;subst a;obtain⟨j,s,V,_⟩:=q;simp[n9,asIntOf,run_underlying hu,r,hi,sizeOf,typeInfo,s,V,U8]
theorem e5{i:Nat}{b o z a:Nat}{f:x4}{base:Option Addr}(hu:P.underlying t=σ (.slice e))(h:aV P e z a f)(hi:i<n)(j:0<n->base=σ ⟨b,o,ν⟩):
  ad P (n9 t (.slice base n c) (.int k (i:Int))) w K=K (.pointer (σ ⟨b,o+i*z,ν⟩)):=by
 rw[BH hu h Ω Ω j];rfl
theorem LV{i:Int}{b o z a:Nat}{f:x4}(hu:P.underlying t=σ (.array n e))(h:aV P e z a f)(q:0<=i)(hi:i<n):
  ad P (n9 t (.pointer (σ ⟨b,o,ν⟩)) (.int k i)) w K=K (.pointer (σ ⟨b,o+i.toNat*z,ν⟩)):=ad.of λI _=>by
 obtain⟨j,r,V,_⟩:=h;simp[n9,asIntOf,run_underlying hu,Instr.sureAddr,q,hi,sizeOf,typeInfo,r,V,U8]
theorem xf{i:Nat}{b o z a:Nat}{f:x4}(hu:P.underlying t=σ (.array n e))(h:aV P e z a f)(hi:i<n):
  ad P (n9 t (.pointer (σ ⟨b,o,ν⟩)) (.int k (i:Int))) w K=K (.pointer (σ ⟨b,o+i*z,ν⟩)):=by
 rw[LV hu h Ω Ω];rfl
def nL:Option x4->Nat->Prop
 |none,l=>l=0
 |some v,l=>∃k,v= .int k l
def nM:Option x4->Nat->Nat->Prop
 |none,n,h=>h=n
 |some v,_,h=>∃k,v= .int k h
def maxOf:Option x4->Option x4->Nat->Nat->Prop
 |none,_,c,m=>m=c
 |some v,σ _,_,m=>∃k,v= .int k m
 |some _,ν,_,_=>False
theorem rZ{l:Nat}:nL (σ (.int k (l:Int))) l:=⟨_,rfl⟩
theorem pw(l:Nat)(x:Int)(h:x=(l:Int)):nL (σ (.int k x)) l:=⟨k,by rw[h]⟩
theorem px(l:Nat)(x:Int)(h:x=(l:Int)):nM (σ (.int k x)) n l:=⟨k,by rw[h]⟩
theorem kl:nL ν 0:=rfl
theorem py:nM (σ (.int k (h:Int))) n h:=⟨_,rfl⟩
theorem la:nM ν n n:=rfl
theorem fD{h:Option x4}:maxOf ν h c c:=by cases h<;>rfl
theorem ue(w:x5){sl:Bool}{l m:Nat}{low high mx:Option x4}(h1:nL low l)(e:nM high n h)(a:maxOf mx high c m)(f:l<=h)(ax:h<=m)(hm:m<=c):
  (Instr.sliceBounds sl n c low high mx).run P w= .ok (l,h,m) w:=by
 cases low<;>cases high<;>cases mx<;>simp only[nL,nM,maxOf]at h1 e a<;>(try exact a.elim)<;>(try obtain⟨j,rfl⟩:=h1)<;>(try obtain⟨q,rfl⟩:=e)<;>(try obtain⟨r,rfl⟩:=a)<;>(try subst h1)<;>(try subst e)<;>(try subst a) <;>
  simp[Instr.sliceBounds,Instr.sliceBound,asIntOf,f,ax,hm]
theorem iI{z a l m:Nat}{f:x4}{base:Option Addr}{low high mx:Option x4}(hu:P.underlying t=σ (.slice e))(q:aV P e z a f)(h1:nL low l)(r:nM high n h)(s:maxOf mx high c m)(x:l<=h)(ax:h<=m)(hm:m<=c):
  ad P (V5 t (.slice base n c) low high mx) w K=K (.slice (if m=l then base else base.map (·.add (l*z))) (h-l) (m-l)):=ad.of λI _=>by
 obtain⟨j,y,V,_⟩:=q;simp[V5,Instr.slice,run_underlying hu,ue I h1 r s x ax hm,sizeOf,typeInfo,y,V]
theorem uf{z a l m b o:Nat}{f:x4}{low high mx:Option x4}(hu:P.underlying t=σ (.array n e))(q:aV P e z a f)(h1:nL low l)(r:nM high n h)(s:maxOf mx high n m)(x:l<=h)(ax:h<=m)(hm:m<=n):
  ad P (V5 t (.pointer (σ ⟨b,o,ν⟩)) low high mx) w K=K (.slice (σ (if m=l then⟨b,o,ν⟩else⟨b,o+l*z,ν⟩)) (h-l) (m-l)):=ad.of λI _=>by
 obtain⟨j,y,V,_⟩:=q;simp[V5,Instr.sureAddr,run_underlying hu,ue I h1 r s x ax hm,sizeOf,typeInfo,y,V,U8]
theorem ds{parts:Array (Nat×x4)}{cs:Array x4}(h:P.built t parts.toList=σ cs):ad P (Instr.build t parts) w K=K (.agg cs):=ad.of λI _=>
 run_build I t parts cs h
end
theorem cq.part{k l m:Nat}{base:Option Addr}(V:cq w k (.slice base n c) n cs)(q:l<=h)(ax:h<=n)(hm:h<=m)(r:m<=c):
  cq w k (.slice (if m=l then base else base.map (·.add (l*k))) (h-l) (m-l)) (h-l) ((cs.drop (l*k)).take ((h-l)*k)):=by
 obtain⟨h1,b,o,s,cap,he,x,y,a,e⟩:=V;cases he;have z:h*k<=n*k:=V4 _ ax;have A:l*k+(h-l)*k=h*k:=by rw[<-T6];congr 1;omega
 refine⟨by simp[h1];omega,b,o+l*k,_,m-l,rfl,Ω,Ω,λB=>?_,λj v ac=>?_⟩
 .rw[a Ω,m5 Ω];simp[U8]
 .have f:=(x6.1 ac).1;simp at f;rw[V1 Ω,List.getElem?_drop]at ac;rw[Nat.add_assoc];exact e _ _ ac
section
variable{P:W0}{w:x5}
structure kK(g:Nat)(w I:x5):Prop where
 os:I.os=w.os
 tape:k2 w I
 output:I.output=w.output
 size:I.heap.size=w.heap.size
 a7:∀r,r≠g->I.heap[r]?=w.heap[r]?
theorem kK.refl(g:Nat)(w:x5):kK g w w:=⟨rfl,.lK,rfl,rfl,λ_ _=>rfl⟩
theorem kK.F{g:Nat}{a b c:x5}(h:kK g a b)(k:kK g b c):kK g a c:=
 ⟨k.os.F h.os,k.tape.F h.tape,k.output.F h.output,k.size.F h.size,λr e=>(k.a7 r e).F (h.a7 r e)⟩
theorem kK.ab{g:Nat}{w:x5}(h:kK g w I):ai (λr=>r=g) w I:=⟨Nat.le_of_eq h.size.symm,λr o a _ e=>by rw[h.a7 r e];exact a⟩
theorem kK.cR{g:Nat}{w:x5}(h:kK g w I)(j:aj w g e cs):cU w I:=
 ⟨h.os,h.tape,h.output,Nat.le_of_eq h.size.symm,λr o a V=>by
  by_cases f:r=g
  .grind [aj,gf]
  .rw[h.a7 r f];exact a⟩
theorem BI{g:Nat}(h:aj w g e cs)(o:Nat)(v:x4):aj (w.setCell ⟨g,o,ν⟩ v) g e (cs.set o v)/\kK g w (w.setCell ⟨g,o,ν⟩ v):=by
 unfold aj at h;refine⟨?_,rfl,.lK,rfl,by simp[x5.setCell],λr a=>?_⟩
 all_goals grind [aj,x5.setCell]
def over(cs:List x4):Nat->List x4->List x4
 |_,[]=>cs
 |o,v::r=>over (cs.set o v) (o+1) r
theorem nN:∀(vs cs:List x4)(o:Nat),(over cs o vs).length=cs.length
 |[],_,_=>rfl
 |v::r,cs,o=>by simp[over,nN r]
theorem qH:∀(vs cs:List x4)(o:Nat),o+vs.length<=cs.length->∀j,(over cs o vs)[j]?=if o<=j/\j<o+vs.length then vs[j-o]? else cs[j]?
 :=by
 intro a;induction a<;>grind [over]
theorem ox{o:Nat}(h:o+vs.length<=cs.length):over cs o vs=cs.take o++vs++cs.drop (o+vs.length):=by
 apply Y3;intro j;rw[qH vs cs o h];by_cases h1:j<o
 .grind
 grind
theorem pz{g:Nat}{e:o4}:∀(vs:List x4)(cs:List x4)(o:Nat)(w:x5),aj w g e cs->aj (w.setCells g o vs) g e (over cs o vs)/\kK g w (w.setCells g o vs)
 |[],cs,o,w,h=>⟨h,kK.refl _ _⟩
 |v::r,cs,o,w,h=>by
  obtain⟨h1,a⟩:=BI h o v;obtain⟨f,j⟩:=pz r (cs.set o v) (o+1) _ h1;exact⟨f,a.F j⟩
theorem ug(w:x5)(c:List x4)(e:o4):aj (w.alloc (.cells c.toArray e)) w.heap.size e c/\Ext w (w.alloc (.cells c.toArray e))/\cU w (w.alloc (.cells c.toArray e)):=
 ⟨heap_alloc_new w _,rA w _,rB w _⟩
theorem bE{k a:Nat}{K:x4->x5->Prop}(hi:aV P t k a z)(h:∀g I,g=w.heap.size->Ext w I->aj I g t z.cells.toList->K (Γ g) I):aM P (R3 t s2 (.tuple #[])) w K:=by
 obtain⟨i,hi,_,_,e⟩:=hi;obtain⟨h1,f,j⟩:=ug w z.cells.toList t;refine .of ?_ j (h _ _ rfl f h1);simp[R3,zeroValue,typeInfo,hi,e,newVar,newRow]
theorem bn{K:x4->x5->Prop}(h:∀g I,g=w.heap.size->Ext w I->aj I g t v.cells.toList->K (Γ g) I):aM P (Instr.box t v) w K:=by
 obtain⟨h1,a,e⟩:=ug w v.cells.toList t;refine .of ?_ e (h _ _ rfl a h1);simp[Instr.box,newVar,newRow]
def eg(z:Array x4)(n:Nat):List x4:=((Array.range n).map (z[·% z.size]!)).toList
theorem qI(z:Array x4)(n:Nat):(eg z n).length=n:=by simp[eg]
theorem lb{k q:Nat}{parts:Array (Nat×x4)}{cs:Array x4}{K:x4->x5->Prop}(f:P.underlying t=σ (.slice e))(hi:aV P e k q z)(A:n*k<=2 ^ 24)(ah:Instr.fill (λj=>σ (j*k,k)) ((Array.range (n*k)).map ((if n*k=0 then#[]else z.cells)[·% (if n*k=0 then#[]else z.cells).size]!)) parts.toList=σ cs)(h:∀g I,g=w.heap.size->Ext w I->aj I g e cs.toList->K (.slice (σ ⟨g,0,ν⟩) n n) I):aM P (Y4 t n parts) w K:=by
 obtain⟨i,hi,rfl,_,r⟩:=hi;obtain⟨h1,s,x⟩:=ug w cs.toList e;refine .of ?_ x (h _ _ rfl s h1);have y:¬(16777216<n*i.size):=Ω
 by_cases a:n*i.size=0
 .simp only[a,if_true]at ah;simp[Y4,run_underlying f,sizeOf,typeInfo,hi,a,newRow];simp at ah;simp[ah]
 .simp only[a,if_false]at ah;simp[Y4,run_underlying f,sizeOf,typeInfo,hi,y,a,newRow,zeroValue,r,ah]
theorem bw{g o:Nat}{K:Unit->x5->Prop}(hi:aV P t 1 j z)(h1:v.cells= #[v])(ac:v.oneCell'=s2)(a:aj w g e cs)(aC:o<cs.length)(h:∀I,ai (λr=>r=g) w I->I.heap.size=w.heap.size->aj I g e (cs.set o v)->K () I):aM P (o7 t (.pointer (σ ⟨g,o,ν⟩)) v) w K:=by
 obtain⟨i,hi,V,_⟩:=hi;obtain⟨q,f⟩:=BI a o v;refine .of ?_ (f.cR a) (h _ f.ab f.size q);have s:=a.cell (v8 aC);have x:(⟨g,o,ν⟩:Addr).add 0=⟨g,o,ν⟩:=rfl;simp[o7,Instr.sureAddr,storeVar,sizeOf,typeInfo,hi,V,h1,storeCells,x,run_store P w _ v _ ac,s,a.frozen]
theorem BJ{k q g o:Nat}{K:Unit->x5->Prop}(hi:aV P t k q z)(x:vs.length=k)(ac:∀v∈vs,v.oneCell'=s2)(a:aj w g e cs)(aC:o+vs.length<=cs.length)(h:∀I,ai (λr=>r=g) w I->I.heap.size=w.heap.size->aj I g e (over cs o vs)->K () I):aM P (o7 t (.pointer (σ ⟨g,o,ν⟩)) (.agg vs.toArray)) w K:=by
 obtain⟨s,f⟩:=pz vs cs o w a;refine .of ?_ (f.cR a) (h _ f.ab f.size s);exact run_storeAt_mid w g o t vs.toArray (λj y=>⟨by rw[a.cell (v8 (by grind))];rfl,a.frozen _ _⟩) (by grind [aV.size]) (by grind)
def cf(w:x5)(g:Nat)(e:o4)(k:Nat)(v:x4)(n:Nat)(xs:List x4):Prop:=
 xs.length=n*k/\((v= .slice ν 0 0/\n=0)\/∃cap cs,v= .slice (σ ⟨g,0,ν⟩) n cap/\aj w g e cs/\n<=cap/\cap<=maxLen/\cs.length=cap*k/\cs.take (n*k)=xs)
theorem cf.nil(w:x5)(g:Nat)(e:o4)(k:Nat):cf w g e k (.slice ν 0 0) 0 []:=⟨Ξ,.inl ⟨rfl,rfl⟩⟩
theorem cf.full{g:Nat}{k:Nat}(h:aj w g e cs)(a:cs.length=n*k)(f:n<=maxLen):cf w g e k (.slice (σ ⟨g,0,ν⟩) n n) n cs:=
 ⟨a,.inr ⟨n,cs,rfl,h,o6 _,f,a,by rw[<-a,o9]⟩⟩
theorem cf.ab{g:Nat}{k:Nat}(h:cf w g e k v n xs)(J:ai S w I)(f:g<w.heap.size->¬S g):cf I g e k v n xs:=
 ⟨h.1,h.2.imp id λ⟨cap,cs,h1,a,j⟩=>⟨cap,cs,h1,a.ab J (f a.lt),j⟩⟩
theorem cf.W{g:Nat}{k:Nat}(h:cf w g e k v n xs)(J:Ext w I):cf I g e k v n xs:=h.ab (J.ab λ_=>False) (λ_ h=>h)
theorem cf.sl{g:Nat}{k:Nat}(h:cf w g e k v n xs):cq w k v n xs:=by
 obtain⟨h1,⟨rfl,rfl⟩|⟨cap,cs,rfl,a,f,q,s,r⟩⟩:=h
 .grind [cq.nil]
 .refine⟨h1,g,0,_,cap,rfl,f,q,λ_=>rfl,λj v ac=>?_⟩;rw[V0];have x:=(x6.1 ac).1;rw[<-r,V1 Ω]at ac;exact a.cell ac
theorem cq.src{k:Nat}{x:x4}{m:Nat}{a:List x4}{h:o4}(V:cq w k x m a)(hk:P.underlying f=σ (.slice h))(h1:∀u∈a,u.oneCell'=s2)(q:0<m):Src P k f x m a w:=by
 obtain⟨r,b,o,base,cap,rfl,_,_,e,s⟩:=V;have e:=e q;subst e;exact Src.ofSlice w hk ⟨b,o,ν⟩ m cap a r (λj u hu=>by rw[U8];exact s j u hu) h1
theorem cq.LW{k:Nat}{x:x4}{e:List x4}{a:o4}(V:cq w k x 0 e)(hk:P.underlying a=σ (.slice f)):Src P k a x 0 [] w:=by
 obtain⟨h,b,o,base,cap,rfl,_,_,j,q⟩:=V;cases base<;>grind [Src.ofNil,Src.ofSlice]
theorem BK{s L X:o4}{k M g m:Nat}{x:x4}{a:List x4}{K:x4->x5->Prop}(N:P.underlying t=σ (.slice e))(B:P.underlying f=σ (.slice X))(hi:aV P e k M z)(Y:z.cells.size=k)(O:cf w g L k v n xs)(V:cq w k x m a)(h1:∀u∈a,u.oneCell'=s2)(Z:(n+m)*M<=140737488355328)(aa:n+m<=maxLen)(h:∀C E I F,(E=g/\F=L/\(v=C\/g<w.heap.size/\v≠ .slice ν 0 0)\/E=w.heap.size/\F=e)->cf I E F k C (n+m) (xs++a)->ai (λr=>r=g/\v≠ .slice ν 0 0) w I->K C I):
  aM P (b9 #[t,f] s #[v,x]) w K:=by
 obtain⟨i,hi,rfl,rfl,ac⟩:=hi;have ad:=O.sl;obtain⟨A,G⟩:=O;have H:=V.1;have grow:∀(base:Option Addr)(cap:Nat),v= .slice base n cap->cap<n+m->0<m->(Z0.firstCells i.size n (.slice base n cap)).run P w.drew= .ok xs.toArray w.drew->aM P (b9 #[t,f] s #[v,x]) w K:=by
  rintro base cap rfl Q hm ae;have q:=run_append_grow_src w t f s e i z N hi ac base n cap xs ae x m a (V.src B h1 hm) Q (by grind [maxLen]) (growslice_fits Q Z);have af:n+m<=grownCap w (n+m) cap e:=grownCap_ge w _ _ _;have R:=grownCap_le_maxLen w (n+m) cap e aa;have ag:Ext w (w.drew.alloc (.cells ((xs++a).toArray++Z0.zeroCells z.cells (grownCap w (n+m) cap e-(n+m))) e)):=(tu w _).F (rA _ _);refine .of q ((rz w _ (Nat.le_succ _)).F (rB _ _)) (h _ w.heap.size _ _ (.inr ⟨rfl,rfl⟩) ⟨by grind,.inr ⟨_,((xs++a).toArray++Z0.zeroCells z.cells (grownCap w (n+m) cap e-(n+m))).toList,rfl,?_,af,R,?_,?_⟩⟩ (ag.ab _))
  .show _=_;rw[Array.toArray_toList];exact heap_alloc_new w.drew _
  .simp[A,H,size_zeroCells,Y,<-T6]
   grind
  grind [T6]
 rcases Nat.eq_zero_or_pos m with rfl|hm
 .have ah:=j6 (by simpa using H);subst ah;have ao:=V.LW B;have S:∀base cap,v= .slice base n cap->n<=cap->aM P (b9 #[t,f] s #[v,x]) w K:=by
   rintro base cap rfl R;refine .of (by grind [run_append_nothing]) (cU.refl _) (h _ g _ _ (.inl ⟨rfl,rfl,.inl rfl⟩) ?_ (ai.refl _ _));rw[Nat.add_zero,T4];exact⟨A,G⟩
  obtain⟨rfl,rfl⟩|⟨cap,cs,rfl,_,T,_⟩:=G
  .exact S _ _ rfl (o6 _)
  .exact S _ _ rfl T
 .obtain⟨rfl,rfl⟩|⟨cap,cs,rfl,y,T,aj,U,ap⟩:=G
  .have ak:=j6 (by simpa using A);subst ak;exact grow ν 0 rfl Ω hm (by grind [run_firstCells_none])
  .by_cases J:n+m<=cap
   .have aq:n*i.size+a.length<=cs.length:=by rw[H,U,<-T6];exact V4 _ J
    have q:=run_append_room_src w t f s e i N hi g 0 n cap x m a (V.src B h1 hm) J
     (λj au=>by rw[y.cell (v8 Ω)];rfl) (λj _=>y.frozen _ _)
    obtain⟨al,W⟩:=pz a cs (n*i.size) w y;rw[V0]at q;refine .of q (W.cR y) (h _ g _ _ (.inl ⟨rfl,rfl,.inr ⟨y.lt,Ξ⟩⟩) ⟨by grind,.inr ⟨cap,_,rfl,al,J,aj,by rw[nN,U],?_⟩⟩ (W.ab.Y (by grind)))
    grind [ox,T6]
   .refine grow _ cap rfl Ω hm (run_firstCells_some w.drew i.size n _ n cap xs A λj u hu=>?_);rw[U8];obtain⟨_,b,o,base,av,he,_,_,am,q⟩:=ad;cases he;have an:0<n:=by
     grind
    have:=am an;cases this;simpa using q j u hu
theorem pA{q y A:o4}{k s g m:Nat}{x:x4}{j:List x4}{K:x4->x5->Prop}(B:P.underlying t=σ (.slice e))(C:P.underlying q=σ (.slice A))(hi:aV P e k s z)(E:z.cells.size=k)(F:cf w g e k v n xs)(V:cq w k x m j)(h1:∀u∈j,u.oneCell'=s2)(G:(n+m)*s<=140737488355328)(H:n+m<=maxLen)(h:∀f a I,(a=g\/w.heap.size<=a)->cf I a e k f (n+m) (xs++j)->ai (λr=>r=g) w I->K f I):
  aM P (b9 #[t,q] y #[v,x]) w K:=
 BK B C hi E F V h1 G H λf a I L M hm J=>by
  refine h f a I Ω ?_ (J.Y λr _ h=>h.1)
  grind
theorem BL{s y:o4}{L g o js A:Nat}{x:x4}{base:Option Addr}{C:o4}{K:x4->x5->Prop}(E:P.underlying f=σ (.slice e))(hi:aV P e 1 L z)(a:aj w g C cs)(M:0<js->base=σ ⟨g,o,ν⟩)(X:o+js<=cs.length)(V:cq w 1 x n xs)(h1:∀u∈xs,u.oneCell'=s2)(h:∀I,ai (λr=>r=g) w I->I.heap.size=w.heap.size->aj I g C (over cs o (xs.take js))->K (Δ (min n js:Nat)) I):
  aM P (Z0.copy_ #[f,s] y #[.slice base js A,x]) w K:=by
 obtain⟨F,b,o',N,cap,rfl,_,_,O,Q⟩:=V;simp only[U3]at F;have G:(P.info? e).map (·.size)=σ 1:=hi.size;by_cases q:Nat.min n js=0
 .have he:=j6 (by rw[Z3,F];rw[Nat.min_comm];exact q);rw[he]at h;refine .of (run_copy_none w f s y e base N js A n cap E G q) (cU.refl _) ?_;have H:min n js=0:=q;rw[H]at h;exact h w (ai.refl _ _) rfl a
 .have H:min n js≠0:=q;have R:=O Ω;have S:=M Ω;subst R;subst S;have J:(xs.take js).length=min n js:=by grind
  obtain⟨T,B⟩:=pz (xs.take js) cs o w a;have U:=run_copy_cells w f s y e g o js A ⟨b,o',ν⟩ n cap (xs.take js) E G J
   (λj u hu=>by
    rw[U8];have W:=(x6.1 hu).1;rw[V1 Ω]at hu;exact Q j u hu)
   (λj W=>by rw[a.cell (v8 Ω)];rfl) (λj _=>a.frozen _ _) (by grind)
  refine .of U (B.cR a) ?_;rw[J];exact h _ B.ab B.size T
theorem aq.Y{f:S8}{K e:x4->x5->Prop}(h:aq P f args w K)(j:∀v I,cU w I->K v I->e v I):aq P f args w e:=by
 cases h with
 |code h1 a=>exact .code h1 (a.Y (by grind))
 |ext v I h1 a q=>exact .ext v I h1 a (by grind)
theorem ip.Y{f:S8}{K a:x4->x5->Prop}(h:ip P f args w K)(e:∀v I,K v I->a v I):ip P f args w a:=by
 cases h with
 |code h1 j=>exact .code h1 (j.Y (by grind))
 |ext v I h1 q=>exact .ext v I h1 (e v I q)
end
end Go.Vc
namespace Go.Proofs.YtlcdcbgoaljiiaaGreatDoor
open Go Go.Vc Go.RowKit Go.Proofs Go.Proofs.Tryz
set_option maxRecDepth 100000
theorem ay.u:x8.underlying ay=σ (.int .i64):=Ψ
theorem ay.i:aV x8 ay 1 8 (Δ 0):=aV.of Ψ
theorem al.u:x8.underlying al=σ (.int .i64):=Ψ
theorem al.i:aV x8 al 1 8 (Δ 0):=aV.of Ψ
theorem ee.i:aV x8 ee 1 1 (.bool sp):=aV.of Ψ
theorem cV.u:x8.underlying cV=σ (.int .u8):=Ψ
theorem cV.i:aV x8 cV 1 1 (.int .u8 0):=aV.of Ψ
theorem dj.u:x8.underlying dj=σ .string:=Ψ
theorem dj.i:aV x8 dj 1 16 (.string ⟨#[]⟩):=aV.of Ψ
theorem cW.u:x8.underlying cW=σ (.slice cV):=Ψ
theorem pr.u:x8.underlying pr=σ (.slice dk):=Ψ
theorem ez.u:x8.underlying ez=σ (.pointer cX):=Ψ
theorem au.u:x8.underlying au=σ (.slice al):=Ψ
theorem au.i:aV x8 au 1 24 (.slice ν 0 0):=aV.of Ψ
theorem ca.u:x8.underlying ca=σ (.slice au):=Ψ
theorem ca.i:aV x8 ca 1 24 (.slice ν 0 0):=aV.of Ψ
theorem jo.u:x8.underlying jo=σ (.slice ee):=Ψ
theorem jo.i:aV x8 jo 1 24 (.slice ν 0 0):=aV.of Ψ
theorem c0.u:x8.underlying c0=σ (.slice aB):=Ψ
theorem c0.i:aV x8 c0 1 24 (.slice ν 0 0):=aV.of Ψ
theorem c7.u:x8.underlying c7=σ (.slice cr):=Ψ
theorem c7.i:aV x8 c7 1 24 (.slice ν 0 0):=aV.of Ψ
theorem ps.u:x8.underlying ps=σ (.slice rV):=Ψ
theorem ps.i:aV x8 ps 1 24 (.slice ν 0 0):=aV.of Ψ
theorem aK.p:bP x8 aK [(0,1),(1,1),(2,1),(3,1),(4,1),(5,1),(6,1),(7,1)]:=bP.of Ψ
theorem aK.i:aV x8 aK 8 160 (.agg #[(Δ 0),(.slice ν 0 0),(Δ 0),(.slice ν 0 0),(.slice ν 0 0),(.slice ν 0 0),(.slice ν 0 0),(.slice ν 0 0)]):=aV.of Ψ
theorem k6.i:aV x8 k6 1 8 (Δ 0):=aV.of Ψ
theorem pt.u:x8.underlying pt=σ (.slice fe):=Ψ
theorem aB.u:x8.underlying aB=σ (.slice ay):=Ψ
theorem aB.i:aV x8 aB 1 24 (.slice ν 0 0):=aV.of Ψ
theorem gi.u:x8.underlying gi=σ (.int .u64):=Ψ
theorem gi.i:aV x8 gi 1 8 (.int .u64 0):=aV.of Ψ
theorem ci.p:bP x8 ci [(0,1),(1,1)]:=bP.of Ψ
theorem ci.i:aV x8 ci 2 16 (.agg #[(.int .u64 0),(Δ 0)]):=aV.of Ψ
theorem dk.p:bP x8 dk [(0,1),(1,1),(2,1),(3,1),(4,1)]:=bP.of Ψ
theorem dk.i:aV x8 dk 5 40 (.agg #[(.int .u8 0),(Δ 0),(Δ 0),(Δ 0),(Δ 0)]):=aV.of Ψ
theorem ba.p:bP x8 ba [(0,1),(1,1),(2,1)]:=bP.of Ψ
theorem ba.i:aV x8 ba 3 72 (.agg #[(.slice ν 0 0),(.slice ν 0 0),(.slice ν 0 0)]):=aV.of Ψ
theorem cr.p:bP x8 cr [(0,3),(3,1)]:=bP.of Ψ
theorem cr.i:aV x8 cr 4 80 (.agg #[(.slice ν 0 0),(.slice ν 0 0),(.slice ν 0 0),(.bool sp)]):=aV.of Ψ
theorem ou.u:x8.underlying ou=σ (.pointer gE):=Ψ
theorem rS.u:x8.underlying rS=σ (.pointer gW):=Ψ
theorem gC.u:x8.underlying gC=σ (.slice gD):=Ψ
theorem gC.i:aV x8 gC 1 24 (.slice ν 0 0):=aV.of Ψ
theorem cX.p:bP x8 cX [(0,1),(1,1),(2,1),(3,1),(4,1)]:=bP.of Ψ
theorem fe.p:bP x8 fe [(0,1),(1,1),(2,1)]:=bP.of Ψ
theorem fe.i:aV x8 fe 3 56 (.agg #[(Δ 0),(.slice ν 0 0),(.slice ν 0 0)]):=aV.of Ψ
theorem qC.i:aV x8 qC 1 8 .nilFunc:=aV.of Ψ
theorem bO.p:bP x8 bO [(0,1)]:=bP.of Ψ
theorem bO.i:aV x8 bO 1 24 (.agg #[(.slice ν 0 0)]):=aV.of Ψ
theorem gD.p:bP x8 gD [(0,1),(1,1),(2,1)]:=bP.of Ψ
theorem gD.i:aV x8 gD 3 56 (.agg #[(.slice ν 0 0),(.slice ν 0 0),(Δ 0)]):=aV.of Ψ
theorem w9.u:x8.underlying w9=σ (.pointer cN):=Ψ
theorem xa.u:x8.underlying xa=σ (.pointer eA):=Ψ
theorem c8.u:x8.underlying c8=σ (.slice ba):=Ψ
theorem c8.i:aV x8 c8 1 24 (.slice ν 0 0):=aV.of Ψ
theorem ef.p:bP x8 ef [(0,1),(1,1),(2,1),(3,1),(4,1)]:=bP.of Ψ
theorem ef.i:aV x8 ef 5 88 (.agg #[(Δ 0),(.slice ν 0 0),(Δ 0),(.slice ν 0 0),(.slice ν 0 0)]):=aV.of Ψ
theorem ff.p:bP x8 ff [(0,1),(1,1)]:=bP.of Ψ
theorem ff.i:aV x8 ff 2 16 (.agg #[(Δ 0),(.int .u64 0)]):=aV.of Ψ
theorem jR.u:x8.underlying jR=σ (.slice ff):=Ψ
theorem jR.i:aV x8 jR 1 24 (.slice ν 0 0):=aV.of Ψ
theorem pu.u:x8.underlying pu=σ (.slice nH):=Ψ
theorem pu.i:aV x8 pu 1 24 (.slice ν 0 0):=aV.of Ψ
theorem uc.u:x8.underlying uc=σ (.slice iu):=Ψ
theorem gW.p:bP x8 gW [(0,1),(1,1),(2,1),(3,1)]:=bP.of Ψ
theorem iu.p:bP x8 iu [(0,1),(1,1),(2,1)]:=bP.of Ψ
theorem iu.i:aV x8 iu 3 24 (.agg #[(Δ 0),(Δ 0),(.int .u64 0)]):=aV.of Ψ
theorem rT.u:x8.underlying rT=σ (.pointer dt):=Ψ
theorem lR.p:bP x8 lR [(0,1),(1,1),(2,1)]:=bP.of Ψ
theorem lR.i:aV x8 lR 3 24 (.agg #[(.pointer ν),(Δ 0),(Δ 0)]):=aV.of Ψ
theorem my.u:x8.underlying my=σ (.map al ay):=Ψ
theorem my.i:aV x8 my 1 8 (.map ν):=aV.of Ψ
theorem nH.i:aV x8 nH 3 24 (.agg #[(Δ 0),(Δ 0),(.int .u64 0)]):=aV.of Ψ
theorem ud.u:x8.underlying ud=σ (.pointer jp):=Ψ
theorem fq.p:bP x8 fq [(0,1),(1,1),(2,1),(3,1)]:=bP.of Ψ
theorem iZ.u:x8.underlying iZ=σ (.slice k7):=Ψ
theorem iZ.i:aV x8 iZ 1 24 (.slice ν 0 0):=aV.of Ψ
theorem cL.p:bP x8 cL [(0,1),(1,4),(5,1),(6,1)]:=bP.of Ψ
theorem kJ.u:x8.underlying kJ=σ (.slice cv):=Ψ
theorem ki.u:x8.underlying ki=σ (.slice eH):=Ψ
theorem ki.i:aV x8 ki 1 24 (.slice ν 0 0):=aV.of Ψ
theorem cv.p:bP x8 cv [(0,1),(1,1),(2,1),(3,1)]:=bP.of Ψ
theorem cv.i:aV x8 cv 4 80 (.agg #[(.slice ν 0 0),(.slice ν 0 0),(Δ 0),(.slice ν 0 0)]):=aV.of Ψ
theorem dX.u:x8.underlying dX=σ (.slice cS):=Ψ
theorem dX.i:aV x8 dX 1 24 (.slice ν 0 0):=aV.of Ψ
theorem cN.p:bP x8 cN [(0,1),(1,1),(2,1),(3,1)]:=bP.of Ψ
theorem fg.u:x8.underlying fg=σ (.pointer gj):=Ψ
theorem fg.i:aV x8 fg 1 8 (.pointer ν):=aV.of Ψ
theorem cS.p:bP x8 cS [(0,1),(1,1)]:=bP.of Ψ
theorem cS.i:aV x8 cS 2 32 (.agg #[(.slice ν 0 0),(.pointer ν)]):=aV.of Ψ
theorem fP.u:x8.underlying fP=σ (.slice cH):=Ψ
theorem fP.i:aV x8 fP 1 24 (.slice ν 0 0):=aV.of Ψ
theorem dN.u:x8.underlying dN=σ (.slice bj):=Ψ
theorem dN.i:aV x8 dN 1 24 (.slice ν 0 0):=aV.of Ψ
theorem bR.p:bP x8 bR [(0,1),(1,1),(2,1),(3,1),(4,1),(5,1),(6,1),(7,1),(8,1)]:=bP.of Ψ
theorem eA.p:bP x8 eA [(0,1),(1,1),(2,1),(3,1)]:=bP.of Ψ
theorem cH.p:bP x8 cH [(0,1),(1,1)]:=bP.of Ψ
theorem cH.i:aV x8 cH 2 24 (.agg #[(.string ⟨#[]⟩),(Δ 0)]):=aV.of Ψ
theorem eB.u:x8.underlying eB=σ (.slice cw):=Ψ
theorem eB.i:aV x8 eB 1 24 (.slice ν 0 0):=aV.of Ψ
theorem bj.p:bP x8 bj [(0,1),(1,1),(2,1),(3,1)]:=bP.of Ψ
theorem bj.i:aV x8 bj 4 80 (.agg #[(.slice ν 0 0),(.slice ν 0 0),(Δ 0),(.slice ν 0 0)]):=aV.of Ψ
theorem mz.u:x8.underlying mz=σ (.slice i7):=Ψ
theorem mz.i:aV x8 mz 1 24 (.slice ν 0 0):=aV.of Ψ
theorem gE.p:bP x8 gE [(0,1),(1,1),(2,1),(3,1)]:=bP.of Ψ
theorem fs.u:x8.underlying fs=σ (.pointer db):=Ψ
theorem fs.i:aV x8 fs 1 8 (.pointer ν):=aV.of Ψ
theorem i7.p:bP x8 i7 [(0,1),(1,1)]:=bP.of Ψ
theorem i7.i:aV x8 i7 2 32 (.agg #[(.slice ν 0 0),(.pointer ν)]):=aV.of Ψ
theorem qD.u:x8.underlying qD=σ (.int .u64):=Ψ
theorem rU.p:bP x8 rU [(0,1),(1,1)]:=bP.of Ψ
theorem jp.p:bP x8 jp [(0,1),(1,1),(2,1)]:=bP.of Ψ
theorem k7.p:bP x8 k7 [(0,1),(1,1)]:=bP.of Ψ
theorem k7.i:aV x8 k7 2 48 (.agg #[(.slice ν 0 0),(.slice ν 0 0)]):=aV.of Ψ
theorem eH.p:bP x8 eH [(0,1),(1,1)]:=bP.of Ψ
theorem eH.i:aV x8 eH 2 32 (.agg #[(.slice ν 0 0),(Δ 0)]):=aV.of Ψ
theorem cw.p:bP x8 cw [(0,1),(1,1)]:=bP.of Ψ
theorem cw.i:aV x8 cw 2 32 (.agg #[(.slice ν 0 0),(Δ 0)]):=aV.of Ψ
theorem gX.u:x8.underlying gX=σ (.slice da):=Ψ
theorem da.p:bP x8 da [(0,1),(1,1)]:=bP.of Ψ
theorem da.i:aV x8 da 2 32 (.agg #[(.slice ν 0 0),(.pointer ν)]):=aV.of Ψ
theorem kj.u:x8.underlying kj=σ (.map cO ay):=Ψ
theorem gj.p:bP x8 gj [(0,1),(1,1),(2,1),(3,1)]:=bP.of Ψ
theorem qE.u:x8.underlying qE=σ (.slice gY):=Ψ
theorem gY.p:bP x8 gY [(0,1),(1,1)]:=bP.of Ψ
theorem gY.i:aV x8 gY 2 32 (.agg #[(.slice ν 0 0),(Δ 0)]):=aV.of Ψ
theorem db.p:bP x8 db [(0,1),(1,1),(2,1)]:=bP.of Ψ
theorem xb.u:x8.underlying xb=σ (.array 64 cV):=Ψ
theorem eO.u:x8.underlying eO=σ (.slice cM):=Ψ
theorem eO.i:aV x8 eO 1 24 (.slice ν 0 0):=aV.of Ψ
theorem dt.p:bP x8 dt [(0,1),(1,1)]:=bP.of Ψ
theorem cM.p:bP x8 cM [(0,1),(1,1)]:=bP.of Ψ
theorem cM.i:aV x8 cM 2 16 (.agg #[(Δ 0),(Δ 0)]):=aV.of Ψ
theorem iG.u:x8.underlying iG=σ (.map dj al):=Ψ
theorem gF.u:x8.underlying gF=σ (.int .i8):=Ψ
theorem gF.i:aV x8 gF 1 1 (.int .i8 0):=aV.of Ψ
theorem cO.u:x8.underlying cO=σ (.array 6 gF):=Ψ
theorem cO.i:aV x8 cO 6 6 (.agg #[(.int .i8 0),(.int .i8 0),(.int .i8 0),(.int .i8 0),(.int .i8 0),(.int .i8 0)]):=aV.of Ψ
theorem mA.u:x8.underlying mA=σ (.slice gF):=Ψ
theorem k8.u:x8.underlying k8=σ (.slice cO):=Ψ
theorem k8.i:aV x8 k8 1 24 (.slice ν 0 0):=aV.of Ψ
theorem qF.u:x8.underlying qF=σ (.int .u32):=Ψ
theorem nI.u:x8.underlying nI=σ (.map ay al):=Ψ
theorem ov.u:x8.underlying ov=σ (.array 24 cV):=Ψ
theorem ov.i:aV x8 ov 24 24 (.agg #[(.int .u8 0),(.int .u8 0),(.int .u8 0),(.int .u8 0),(.int .u8 0),(.int .u8 0),(.int .u8 0),(.int .u8 0),(.int .u8 0),(.int .u8 0),(.int .u8 0),(.int .u8 0),(.int .u8 0),(.int .u8 0),(.int .u8 0),(.int .u8 0),(.int .u8 0),(.int .u8 0),(.int .u8 0),(.int .u8 0),(.int .u8 0),(.int .u8 0),(.int .u8 0),(.int .u8 0)]):=aV.of Ψ
theorem xc.u:x8.underlying xc=σ (.array 20 gi):=Ψ
theorem rV.i:aV x8 rV 3 56 (.agg #[(Δ 0),(.slice ν 0 0),(.slice ν 0 0)]):=aV.of Ψ
end Go.Proofs.YtlcdcbgoaljiiaaGreatDoor
namespace Go.Vc
open Go Go.RowKit
def b2:x4->Int
 | .int _ i=>i
 |_=>0
theorem lm{x:Int}(h1: -9223372036854775808<=x)(a:x<9223372036854775808):X5.wrap x=x:=by
 grind [o8.wrap,o8.bits,o8.signed]
theorem wrap_u8{x:Int}(h1:0<=x)(a:x<256):o8.u8.wrap x=x:=by
 grind [o8.wrap,o8.bits,o8.signed]
theorem LX{x:Int}(h1: -128<=x)(a:x<128):o8.i8.wrap x=x:=by
 grind [o8.wrap,o8.bits,o8.signed]
theorem lw{x:Int}(h1:0<=x)(a:x<18446744073709551616):U4.wrap x=x:=by
 grind [o8.wrap,o8.bits,o8.signed]
abbrev ints(k:o8)(l:Λ):List x4:=l.map (V3 k)
theorem r0(k:o8)(l:Λ):∀u∈ints k l,u.oneCell'=s2:=by
 intro u hu;obtain⟨x,_,rfl⟩:=l9.1 hu;rfl
theorem mC{i:Nat}{x:Int}(h:l[i]?=σ x):(ints k l)[i]?=σ (.int k x):=by simp[ints,h]
theorem xg{α:Type}{a b:List α}{i:Nat}{x y:α}(h:a.take i=b.take i)(e:a[i]?=σ x)(f:b[i]?=σ y)(j:x=y):a.take (i+1)=b.take (i+1):=by
 grind [u9]
theorem dh{aA:x5->Prop}{B:(x5->Prop)->Prop}(G:x5->Prop)(h1:∀w,G w->aA w)(e:∀a:x5->Prop,(∀w,G w->a w)->B a):cG aA B:=e aA h1
theorem a6{aA:x4->x5->Prop}{B:(x4->x5->Prop)->Prop}(G:x4->x5->Prop)(h1:∀v w,G v w->aA v w)(e:∀a:x4->x5->Prop,(∀v w,G v w->a v w)->B a):cG aA B:=e aA h1
theorem iX{aA:x4->x4->x5->Prop}{B:(x4->x4->x5->Prop)->Prop}(G:x4->x4->x5->Prop)(h1:∀u v w,G u v w->aA u v w)(e:∀a:x4->x4->x5->Prop,(∀u v w,G u v w->a u v w)->B a):cG aA B:=e aA h1
theorem aq.calls{P:W0}{f:S8}{K:x4->x5->Prop}(h:aq P f args w K)(a:Enters P f):Calls P f args.toArray w λe I=>∃v,e= .returned v/\cU w I/\K v I:=by
 cases h with
 |code _ h=>exact h
 |ext v I h1=>rw[a]at h1;cases h1
theorem LY(J:Ext w I)(a:cU w I):Below w.heap.size w I:=
 ⟨a.os,a.tape.1,a.output,J.size,λk hk=>by
  have aC:=Array.getElem?_eq_getElem hk;rw[aC];cases V:gf w.heap[k]with
  |true=>exact J.a7 k _ aC V
  |false=>exact a.a7 k _ aC V⟩
theorem xh{x:Addr}(h:w.cell? x=σ v):x=⟨x.block,x.off,ν⟩:=by
 obtain⟨b,o,s⟩:=x;cases s<;>grind [x5.cell?]
theorem LZ{a:Option Addr}{len cap:Nat}{e:Λ}(h:(a=ν/\len=0/\cap=0/\e=[])\/
   ∃x,a=σ x/\len<=cap/\cap<=maxLen/\e.length=cap/\(∀i,i<e.length->w.cell? (x.add i)=σ (.int k (e.getD i 0)))/\∀n∈e,(Lit.int k n).wf=s2):
  cq w 1 (.slice a len cap) len (ints k (e.take len))/\∀n∈e.take len,k.min<=n/\n<=k.max:=by
 rcases h with⟨rfl,rfl,rfl,rfl⟩|⟨x,rfl,h1,q,s,f,y⟩
 .grind [cq.nil]
 .refine⟨⟨by grind,x.block,x.off,σ x,cap,rfl,h1,q,λz=>?_,λj v ac=>?_⟩,λn A=>?_⟩
  .have:=f 0 Ω;exact congrArg σ (xh this)
  .have r:=(x6.1 ac).1;rw[r9,Z3]at r;have J:x=⟨x.block,x.off,ν⟩:=xh (v:=.int k (e.getD 0 0)) (f 0 Ω)
   grind [U8]
  grind [Lit.wf]
def aQ(k:o8)(w:x5)(v:x4)(l:Λ):Prop:=cq w 1 v l.length (ints k l)
def aH(k:o8)(e:o4)(w:x5)(g:Nat)(v:x4)(l:Λ):Prop:=cf w g e 1 v l.length (ints k l)
theorem aQ.W(h:aQ k w v l)(J:Ext w I):aQ k I v l:=cq.W h J
theorem aH.W{g:Nat}(h:aH k e w g v l)(J:Ext w I):aH k e I g v l:=cf.W h J
theorem aH.ab{g:Nat}(h:aH k e w g v l)(J:ai S w I)(a:g<w.heap.size->¬S g):aH k e I g v l:=cf.ab h J a
theorem aH.ls{g:Nat}(h:aH k e w g v l):aQ k w v l:=cf.sl h
theorem aQ.of(h:cq w 1 v n (ints k l)):aQ k w v l:=by
 have:l.length=n:=by simpa using h.1
 unfold aQ;rw[this];exact h
theorem aH.of{g:Nat}(h:cf w g e 1 v n (ints k l)):aH k e w g v l:=by
 have:l.length=n:=by simpa using h.1
 unfold aH;rw[this];exact h
theorem aQ.le(h:aQ k w v l):l.length<=9223372036854775807:=by
 have:=cq.le h;simpa[maxLen]using this
theorem aQ.cells(h:aQ k w v l):v.cells= #[v]/\v.oneCell'=s2:=by
 obtain⟨_,_,_,_,_,rfl,_⟩:=h;exact⟨rfl,rfl⟩
theorem aH.nil(k:o8)(e:o4)(w:x5)(g:Nat):aH k e w g (.slice ν 0 0) []:=cf.nil w g e 1
section
variable{P:W0}{w:x5}
theorem a8{a:o4}(f:P.underlying t=σ (.slice e))(h:aQ k w v l):
  ad P (X8 #[t] a #[v]) w K=K (Δ l.length):=by
 obtain⟨_,_,_,_,_,rfl,_⟩:=h;exact jr f
theorem bk{a:o8}{b:Nat}{i:Nat}{x:Int}(f:P.underlying t=σ (.slice e))(hi:aV P e 1 b z)(h1:k9 P e=s2)(h:aQ k w v l)(J:l[i]?=σ x):ad P (n9 t v (.int a (i:Int))) w (λp=>ad P (u5 e p) w K)=K (.int k x):=by
 have j:=(x6.1 J).1;obtain⟨_,_,_,_,_,rfl,_,_,q,r⟩:=h;rw[e5 f hi j q,U3,aG h1 (r i _ (mC J))]
theorem ft{a:o8}{b:Nat}{i:Nat}{x:Int}(f:y=(i:Int))(j:P.underlying t=σ (.slice e))(hi:aV P e 1 b z)(h1:k9 P e=s2)(h:aQ k w v l)(J:l[i]?=σ x):ad P (n9 t v (.int a y)) w (λp=>ad P (u5 e p) w K)=K (.int k x):=by
 subst f;exact bk j hi h1 h J
theorem kL{q:o4}{b g:Nat}{x:x4}{m:Λ}{K:x4->x5->Prop}(j:P.underlying t=σ (.slice e))(hi:aV P e 1 b z)(s:z.cells.size=1)(h:aH k e w g v l)(J:aQ k w x m)(y:(l.length+m.length)*b<=140737488355328)(A:l.length+m.length<=9223372036854775807)(B:∀f a I,(a=g\/w.heap.size<=a)->aH k e I a f (l++m)->ai (λr=>r=g) w I->K f I):aM P (b9 #[t,t] q #[v,x]) w K:=
 pA j j hi s h J (r0 _ _) y (by simpa[maxLen]using A) λf a I h1 C E=>B f a I h1 (aH.of (by rw[ints,Z2];exact C)) E
theorem e6{b:Nat}{x:Int}{K:x4->x5->Prop}(j:P.underlying t=σ (.slice e))(hi:aV P e 1 b z)(s:z.cells.size=1)(h:∀v g I,g=w.heap.size->Ext w I->aH k e I g v [x]->K v I):aM P (Y4 t 1 #[(0,.int k x)]) w K:=
 lb j hi Ω (cs:=#[.int k x]) (by
   have V:∀(a:Array x4),a.size=1->a.setIfInBounds 0 (.int k x)= #[.int k x]:=λa f=>by
    apply Array.ext
    .simp[f]
    .intro i h1 y;have:i=0:=by simp[f]at h1;exact h1
     subst this;simp
   simp only[Instr.fill,x4.cells,List.zipIdx];simp;exact V _ Ξ) λg I q J r=>h _ g I q J (aH.of (cf.full r rfl (by simp[maxLen])))
theorem aq.free{f:S8}{K:x4->x5->Prop}(h:aq P f args w K):ip P f args w λv I=>cU w I/\K v I:=by
 cases h with
 |code h1 a=>exact .code h1 (a.Y λ_ I ⟨v,h1,e,a⟩=>⟨v,h1,e,a⟩)
 |ext v I h1 a j=>exact .ext v I h1 ⟨a,j⟩
theorem cc{a:Addr}:ad P (b1 (.pointer (σ a))) w K=K (.pointer (σ a)):=ad.of λ_ _=>by
 simp[b1,tw,execOp]
theorem aN{u:o4}{pl:List (Nat×Nat)}{b a z:Nat}{K:x4->x4->Prop}(ae:bP P t pl)(i:Nat)(f:aj w b e cs)(ac:cs[(pl[i]?.getD (0,0)).1]?=σ v)(ah:pl[i]?=σ (a,z+1):=by rfl)(h:k9 P u=s2:=by kernel_rfl):
  ad P (u6 t (Γ b) i) w (λx=>ad P (u5 u x) w (K x))=K (.pointer (σ ⟨b,0+a,ν⟩)) v:=by
 rw[ah]at ac;rw[a1 ae ah,aG h (f.cell (by rw[V0];exact ac))]
theorem aP{u:o4}{pl:List (Nat×Nat)}{b a z:Nat}{K:x4->x4->x4->Prop}(ae:bP P t pl)(i:Nat)(f:aj w b e cs)(ac:cs[(pl[i]?.getD (0,0)).1]?=σ v)(ah:pl[i]?=σ (a,z+1):=by rfl)(h:k9 P u=s2:=by kernel_rfl):
  ad P (b1 (Γ b)) w (λy=>ad P (u6 t y i) w (λx=>ad P (u5 u x) w (K y x)))=K (Γ b) (.pointer (σ ⟨b,0+a,ν⟩)) v:=by
 rw[cc,aN ae i f ac ah h]
theorem BM{a f:o8}{k:Nat}{K:x4->x5->Prop}(r:P.underlying t=σ (.slice e))(hi:aV P e k j z)(B:n*j<=281474976710656)(C:n<=9223372036854775807)(h:∀g I,g=w.heap.size->Ext w I->aj I g e (eg z.cells (n*k))->K (.slice (σ ⟨g,0,ν⟩) n n) I):aM P (Instr.makeSlice t (.int a (n:Int)) (.int f (n:Int))) w K:=by
 obtain⟨i,hi,rfl,rfl,s⟩:=hi;have x:(i.bytes:Int)*(n:Int)<=281474976710656:=by
  rw[Int.mul_comm];have h:((n*i.bytes:Nat):Int)<=281474976710656:=Ω
  rwa [Int.natCast_mul]at h
 have q:=run_make w t e i z r hi s a f n n Ω (S5 _) x Ω;have hm:madeCells z.cells ((n:Int).toNat*i.size)=(eg z.cells (n*i.size)).toArray:=by rw[eg,Array.toArray_toList];rfl
 rw[hm]at q;obtain⟨h1,y,A⟩:=ug w (eg z.cells (n*i.size)) e;exact .of q A (h _ _ rfl y h1)
theorem L0(v:x4)(n:Nat):eg #[v] n=o5 n v:=by
 apply List.ext_getElem
 .simp[eg]
 .intro i h1 a;simp[eg,Nat.mod_one]
theorem kM{f j:o8}{a:Nat}{K:x4->x5->Prop}(q:P.underlying t=σ (.slice e))(hi:aV P e 1 a (.int k 0))(r:n*a<=281474976710656)(s:n<=9223372036854775807)(h:∀g I,g=w.heap.size->Ext w I->aj I g e (ints k (o5 n 0))->K (.slice (σ ⟨g,0,ν⟩) n n) I):aM P (Instr.makeSlice t (.int f (n:Int)) (.int j (n:Int))) w K:=
 BM q hi r s λg I x J y=>h g I x J (by
  have e:eg (V3 k 0).cells (n*1)=ints k (o5 n 0):=by rw[U3];show eg #[_] n=_;rw[L0];simp[ints]
  rw[<-e];exact y)
theorem fu{pl:List (Nat×Nat)}{b o k a:Nat}(hu:bP P t pl)(hi:aV P t k a z)(e:cs.length=k)(h:w.rangeAt b o cs):ad P (do loadVar t (<-asAddr (.pointer (σ ⟨b,o,ν⟩)))) w K=K (.agg cs.toArray):=ad.of λI J=>by
 obtain⟨f,hu,_⟩:=hu;have:=run_loadVar_mid I b o t cs (.struct f) (pv J h) hu rfl (by rw[hi.size,e]);simp only[asAddr,W6,V2,Result.andThen_ok,this]
theorem L1(h:vs.length=cs.length):over cs 0 vs=vs:=by
 rw[ox Ω];simp[h]
theorem b3{k f g:Nat}{K:Unit->x5->Prop}(hi:aV P t k f z)(j:vs.length=k)(x:cs.length=k)(ac:∀v∈vs,v.oneCell'=s2)(q:aj w g e cs)(h:∀I,ai (λr=>r=g) w I->I.heap.size=w.heap.size->aj I g e vs->K () I):aM P (o7 t (Γ g) (.agg vs.toArray)) w K:=
 BJ hi j ac q Ω λI h1 s a=>h I h1 s (by rw[L1 Ω]at a;exact a)
end
section
variable{P:W0}{w I aa:x5}{t:o4}{cx cy:Bool}{k:o8}{a b:Int}{A B:Prop}{x y z:x4}{K:x4->Prop}
theorem bz:ad P (Z7 (.tuple #[x,y]) 0) w K=K x:=gk rfl
theorem bA:ad P (Z7 (.tuple #[x,y]) 1) w K=K y:=gk rfl
theorem fS:ad P (Z7 (.tuple #[x,y,z]) 0) w K=K x:=gk rfl
theorem fT:ad P (Z7 (.tuple #[x,y,z]) 1) w K=K y:=gk rfl
theorem fU:ad P (Z7 (.tuple #[x,y,z]) 2) w K=K z:=gk rfl
theorem bF(h:a<b)(e:A):ad P (aT .lss t cx cy (.int k a) (.int k b)) w λv=>Split v A B:=by
 rw[aW,ao];exact⟨λ_=>e,λf=>m6 h f⟩
theorem b4(h:¬a<b)(e:B):ad P (aT .lss t cx cy (.int k a) (.int k b)) w λv=>Split v A B:=by
 rw[aW,ao];exact⟨λf=>m6 f h,λ_=>e⟩
theorem Ext.put{g:Nat}(J:Ext w I)(a:ai (λr=>r=g) I aa)(h:w.heap.size<=g):Ext w aa:=J.then a λr e he=>by
 have he:r=g:=he;omega
theorem aI{α:Type}{l:List α}{i:Nat}(h:i<l.length):∃x,l[i]?=σ x:=⟨_,v8 h⟩
end
abbrev ak:=Nat->Prop
def lT(S:ak)(w:x5)(k:Nat)(v:x4)(n:Nat)(cs:List x4):Prop:=
 cs.length=n*k/\∃b o base cap,v= .slice base n cap/\n<=cap/\cap<=maxLen/\(0<n->base=σ ⟨b,o,ν⟩)/\(0<cs.length->S b)/\w.rangeAt b o cs
theorem lT.sl{S:ak}{k:Nat}(h:lT S w k v n cs):cq w k v n cs:=by
 obtain⟨h1,b,o,base,cap,a,e,f,j,_,q⟩:=h;exact⟨h1,b,o,base,cap,a,e,f,j,q⟩
theorem BN{b o:Nat}(h:w.rangeAt b o cs)(a:0<cs.length):b<w.heap.size:=by
 have:=h 0 cs[0] (v8 a)
 grind [xd]
theorem lT.ab{S T:ak}{k:Nat}(h:lT S w k v n cs)(J:ai T w I)(y:∀r,r<w.heap.size->S r->¬T r):lT S I k v n cs:=by
 obtain⟨h1,b,o,base,cap,a,e,f,q,s,z⟩:=h;refine⟨h1,b,o,base,cap,a,e,f,q,s,?_⟩;rcases Nat.eq_zero_or_pos cs.length with x|x
 .intro j v ac;grind
 grind [iH,BN]
theorem lT.Y{S T:ak}{k:Nat}(h:lT S w k v n cs)(f:∀r,r<w.heap.size->S r->T r):lT T w k v n cs:=by
 obtain⟨h1,b,o,base,cap,j,q,s,x,y,a⟩:=h;exact⟨h1,b,o,base,cap,j,q,s,x,λe=>f b (BN a e) (y e),a⟩
class aw(α:Type) where
 n:Nat
 rep:Bool->ak->ak->x5->List x4->α->Prop
 len:∀{m S R w cs a},rep m S R w cs a->cs.length=n
 one:∀{m S R w cs a},rep m S R w cs a->∀u∈cs,u.oneCell'=s2
 ab:∀{m S R T w I cs a},rep m S R w cs a->ai T w I->(∀r,r<w.heap.size->S r\/R r->¬T r)->rep m S R I cs a
 Y:∀{m S S' R R' w cs a},rep m S R w cs a->(∀r,r<w.heap.size->S r->S' r)->(∀r,r<w.heap.size->R r->R' r)->rep m S' R' w cs a
 kg:∀{m S R w cs a},rep m S R w cs a->rep sp (λ_=>False) (λr=>S r\/R r) w cs a
section
variable{α β:Type}[aw α][aw β]{m:Bool}{S R T:ak}{w I:x5}
abbrev bB(S R:ak)(w:x5)(cs:List x4)(a:α):Prop:=aw.rep s2 S R w cs a
abbrev Seen(R:ak)(w:x5)(cs:List x4)(a:α):Prop:=aw.rep sp (λ_=>False) R w cs a
abbrev eW:ak:=λ_=>True
theorem bq{a:α}(h:aw.rep m S R w cs a)(J:Ext w I):aw.rep m S R I cs a:=aw.ab h (J.ab λ_=>False) λ_ _ _ h=>h
theorem nO{a:α}(h:aw.rep m S R w cs a):aw.rep m (λr=>S r/\r<w.heap.size) R w cs a:=aw.Y h (by grind) λ_ _ h=>h
theorem jS{a:α}(h:aw.rep m S R w cs a):Seen eW w cs a:=aw.Y (aw.kg h) (by grind) (by grind)
theorem pB{a:α}{Q:ak}(h:aw.rep m S R w cs a)(e:∀r,r<w.heap.size->S r\/R r->Q r):Seen Q w cs a:=aw.Y (aw.kg h) (by grind) e
instance:aw Int where
 n:=1
 rep _ _ _ _ cs a:=cs=[Δ a]
 len h:=by grind
 one h:=by subst h;intro u hu;simp at hu;subst hu;rfl
 ab h _ _:=h
 Y h _ _:=h
 kg h:=h
instance:aw Bool where
 n:=1
 rep _ _ _ _ cs a:=cs=[.bool a]
 len h:=by grind
 one h:=by subst h;intro u hu;simp at hu;subst hu;rfl
 ab h _ _:=h
 Y h _ _:=h
 kg h:=h
instance:aw ByteArray where
 n:=1
 rep _ _ _ _ cs a:=cs=[.string a]
 len h:=by grind
 one h:=by subst h;intro u hu;simp at hu;subst hu;rfl
 ab h _ _:=h
 Y h _ _:=h
 kg h:=h
def nP(_:o8):Type:=Int
instance (k:o8):aw (nP k) where
 n:=1
 rep _ _ _ _ cs a:=cs=[.int k a]
 len h:=by grind
 one h:=by subst h;intro u hu;simp at hu;subst hu;rfl
 ab h _ _:=h
 Y h _ _:=h
 kg h:=h
def Rd(α:Type):Type:=α
instance Wu:aw (Rd α) where
 n:=aw.n α
 rep _ _ R w cs a:=aw.rep (α:=α) sp (λ_=>False) R w cs a
 len h:=aw.len (α:=α) h
 one h:=aw.one (α:=α) h
 ab h J f:=by grind [aw.ab]
 Y h _ e:=aw.Y (α:=α) h (λ_ _ h=>h) e
 kg h:=aw.Y (α:=α) h (λ_ _ h=>h) (by grind)
instance Wv:aw (α×β) where
 n:=aw.n α+aw.n β
 rep m S R w cs a:=∃c d A B,cs=c++d/\(∀r,A r->S r)/\(∀r,B r->S r)/\(m=s2->∀r,A r->¬B r)/\aw.rep m A R w c a.1/\aw.rep m B R w d a.2
 len:=by
  grind [aw.len]
 one:=by
  grind [aw.one]
 ab:=by
  rintro m S R T w I cs a ⟨c,d,A,B,rfl,e,f,j,h1,q⟩ J s;exact⟨c,d,A,B,rfl,e,f,j,by grind [aw.ab],by grind [aw.ab]⟩
 Y:=by
  rintro m S S' R R' w cs a ⟨c,d,A,B,rfl,e,f,j,h1,q⟩ s x;exact⟨c,d,λr=>A r/\r<w.heap.size,λr=>B r/\r<w.heap.size,rfl,by grind,by grind,by grind,
   by grind [aw.Y],by grind [aw.Y]⟩
 kg:=by
  rintro m S R w cs a ⟨c,d,A,B,rfl,e,f,j,h1,q⟩;exact⟨c,d,λ_=>False,λ_=>False,rfl,λ_ h=>h.elim,λ_ h=>h.elim,by grind,aw.Y (aw.kg h1) (λ_ _ h=>h) (by grind),
   aw.Y (aw.kg q) (λ_ _ h=>h) (by grind)⟩
def nQ(m:Bool)(R:ak)(F:Nat->ak)(w:x5)(vs:List (List x4))(l:List α):Prop:=
 vs.length=l.length/\∀(i:Nat)(c:List x4)(a:α),vs[i]?=σ c->l[i]?=σ a->aw.rep m (F i) R w c a
structure BO(m:Bool)(S:ak)(g:Nat)(F:Nat->ak):Prop where
 sub:∀i r,F i r->S r
 top:m=s2->∀i,¬F i g
 iv:m=s2->∀i j r,i≠j->F i r->¬F j r
theorem nQ.len{F:Nat->ak}{vs:List (List x4)}{l:List α}(h:nQ m R F w vs l):∀c∈vs,c.length=aw.n α:=by
 intro c a;obtain⟨i,hi,rfl⟩:=List.mem_iff_getElem.1 a;exact aw.len (h.2 i _ _ (v8 hi) (v8 (h.1▸hi)))
theorem nQ.one{F:Nat->ak}{vs:List (List x4)}{l:List α}(h:nQ m R F w vs l):∀u∈vs.flatten,u.oneCell'=s2:=by
 intro u hu;obtain⟨c,a,hu⟩:=List.mem_flatten.1 hu;obtain⟨i,hi,rfl⟩:=List.mem_iff_getElem.1 a;exact aw.one (h.2 i _ _ (v8 hi) (v8 (h.1▸hi))) u hu
theorem uh{k:Nat}:∀{vs:List (List x4)},(∀c∈vs,c.length=k)->vs.flatten.length=vs.length*k
 :=by
 intro a;induction a<;>grind
theorem pC{k:Nat}:∀{vs:List (List x4)},(∀c∈vs,c.length=k)->∀{i j:Nat}{c:List x4},vs[i]?=σ c->j<k->vs.flatten[i*k+j]?=c[j]?
 |gG::r,h,0,j,c,a,e=>by
  grind
 |gG::r,h,i+1,j,c,a,e=>by
  simp only[List.getElem?_cons_succ]at a;have f:=h gG (.head _);rw[List.flatten_cons,X2 (by grind),f,T6,show i*k+1*k+j-k=i*k+j by omega];exact pC (by grind) a e
 |[],_,i,_,c,a,_=>by simp at a
instance instList:aw (List α) where
 n:=1
 rep m S R w cs l:=∃v,cs=[v]/\∃(vs:List (List x4))(g:Nat)(F:Nat->ak),BO m S g F/\nQ m R F w vs l/\lT (λr=>S r\/R r) w (aw.n α) v l.length vs.flatten/\
  (m=s2->(v= .slice ν 0 0\/S g)/\∃e,cf w g e (aw.n α) v l.length vs.flatten)
 len:=by grind
 one:=by
  rintro m S R w cs a ⟨v,rfl,vs,g,F,_,_,⟨_,_,_,_,_,rfl,_⟩,_⟩ u hu;simp at hu;subst hu;rfl
 ab:=by
  rintro m S R T w I cs a ⟨v,rfl,vs,g,F,ae,he,V,hm⟩ J y;refine⟨v,rfl,vs,g,F,ae,⟨he.1,λi c a q s=>aw.ab (he.2 i c a q s) J λr z h=>y r z (h.imp (ae.sub i r) id)⟩,V.ab J y,λh=>?_⟩;obtain⟨h1,e,f⟩:=hm h;refine⟨h1,e,?_⟩;rcases h1 with rfl|h1
  .obtain⟨A,⟨_,x⟩|⟨_,_,x,_⟩⟩:=f
   .exact⟨A,.inl ⟨rfl,x⟩⟩
   .cases x
  .exact f.ab J (by grind)
 Y:=by
  rintro m S S' R R' w cs a ⟨v,rfl,vs,g,F,ae,he,V,hm⟩ y B;refine⟨v,rfl,vs,g,λi r=>F i r/\r<w.heap.size,⟨λi r h=>y r h.2 (ae.sub i r h.1),λh i f=>ae.top h i f.1,λh i j r C h1 f=>ae.iv h i j r C h1.1 f.1⟩,
   ⟨he.1,λi c a q s=>aw.Y (he.2 i c a q s) (by grind) B⟩,V.Y (by grind),λh=>?_⟩
  obtain⟨h1,e,f⟩:=hm h;refine⟨?_,e,f⟩;obtain⟨_,⟨x,_⟩|⟨_,_,x,E,_⟩⟩:=f
  all_goals grind [aj.lt]
 kg:=by
  rintro m S R w cs a ⟨v,rfl,vs,g,F,ae,he,V,hm⟩;exact⟨v,rfl,vs,g,λ_ _=>False,⟨λ_ _ h=>h,by grind,by grind⟩,
   ⟨he.1,λi c a q s=>aw.Y (aw.kg (he.2 i c a q s)) (λ_ _ h=>h) λr _ h=>h.imp (ae.sub i r) id⟩,by grind,by grind⟩
end
section
variable{P:W0}{w:x5}{α β:Type}[aw α][aw β]{m:Bool}{S R:ak}
theorem jT{l:List α}(h:aw.rep m S R w [v] l):∃(vs:List (List x4))(g:Nat)(F:Nat->ak),BO m S g F/\nQ m R F w vs l/\lT (λr=>S r\/R r) w (aw.n α) v l.length vs.flatten/\
  (m=s2->(v= .slice ν 0 0\/S g)/\∃e,cf w g e (aw.n α) v l.length vs.flatten):=by
 obtain⟨_,a,h⟩:=h;cases a;exact h
theorem iJ{a:α}(h:aw.rep m S R w [v] a):v.oneCell'=s2:=aw.one h v (.head _)
theorem lU{l:List α}(h:aw.rep m S R w [v] l):v.cells= #[v]:=by
 obtain⟨_,_,_,_,_,⟨_,_,_,_,_,rfl,_⟩,_⟩:=jT h;rfl
theorem oy{l:List α}(h:aw.rep m S R w [v] l):l.length<=9223372036854775807:=by
 obtain⟨_,_,_,_,_,h,_⟩:=jT h;have:=h.sl.le;simpa[maxLen]using this
theorem gH:aw.rep m S R w [.slice ν 0 0] ([]:List α):=
 ⟨_,rfl,[],0,λ_ _=>False,⟨λ_ _ h=>h.elim,λ_ _ h=>h,λ_ _ _ _ _ h=>h.elim⟩,⟨rfl,λi c a e=>by simp at e⟩,
  ⟨Ξ,0,0,ν,0,rfl,o6 _,X9 _,λh=>m6 h (Nat.lt_irrefl _),λh=>by simp at h,λj v h=>by simp at h⟩,
  λ_=>⟨.inl rfl,0,cf.nil w 0 0 _⟩⟩
theorem BP{F:Nat->ak}{vs:List (List x4)}(h:nQ m R F w vs l):vs.flatten=ints .i64 l:=by
 have:vs=l.map λx=>[V3 .i64 x]:=by
  apply List.ext_getElem
  .simp[h.1]
  .intro i h1 a;have e:i<l.length:=by simpa using a
   have:=h.2 i _ _ (v8 h1) (v8 e);rw[List.getElem_map];exact this
 subst this;clear h;induction l with
 |nil=>rfl
 |cons x l f=>simp only[List.map_cons,List.flatten_cons,f];rfl
theorem c3(h:aw.rep m S R w [v] l):aQ .i64 w v l:=by
 obtain⟨vs,g,F,_,he,V,_⟩:=jT h;have:=V.sl;rw[BP he]at this;exact this
theorem fE{a:o4}{l:List α}(f:P.underlying t=σ (.slice e))(h:aw.rep m S R w [v] l):
  ad P (X8 #[t] a #[v]) w K=K (Δ l.length):=by
 obtain⟨_,_,_,_,_,⟨_,_,_,_,_,rfl,_⟩,_⟩:=jT h;exact jr f
theorem km{A:o8}{i b:Nat}{l:List α}{a:α}(B:y=(i:Int))(C:P.underlying t=σ (.slice e))(hi:aV P e (aw.n α) b z)(h:aw.rep m S R w [v] l)(f:l[i]?=σ a)(E:∀b o cs,w.rangeAt b o cs->aw.rep m S R w cs a->K (.pointer (σ ⟨b,o,ν⟩))):ad P (n9 t v (.int A y)) w K:=by
 subst B;obtain⟨vs,g,F,ae,he,⟨_,b,o,base,cap,rfl,_,_,G,_,H⟩,_⟩:=jT h;have q:=(x6.1 f).1;rw[e5 C hi q G];obtain⟨c,s⟩:∃c,vs[i]?=σ c:=⟨_,v8 (by rw[he.1];exact q)⟩;have x:=he.2 i c a s f;have I:=aw.len x;refine E _ _ c (λj u hu=>?_) (aw.Y x (λr _ h=>ae.sub i r h) λ_ _ h=>h);have J:=(x6.1 hu).1;rw[Nat.add_assoc];refine H (i*aw.n α+j) u ?_;rw[pC he.len s Ω];exact hu
theorem fF{q:o8}{i b:Nat}{l:List α}{a:α}(r:aw.n α=1)(s:y=(i:Int))(x:P.underlying t=σ (.slice e))(hi:aV P e (aw.n α) b z)(h1:k9 P e=s2)(h:aw.rep m S R w [v] l)(A:l[i]?=σ a)(B:∀u,aw.rep m S R w [u] a->K u):
  ad P (n9 t v (.int q y)) w λp=>ad P (u5 e p) w K:=by
 refine km s x hi h A λb o cs C f=>?_;have j:=aw.len f;rw[r]at j;obtain⟨u,rfl⟩:=W3.1 j;rw[aG h1 (by have:=C 0 u rfl;simpa using this)];exact B u f
theorem lV{pl:List (Nat×Nat)}{j:o8}{i b:Nat}{l:List α}{a:α}(hu:bP P e pl)(q:y=(i:Int))(r:P.underlying t=σ (.slice e))(hi:aV P e (aw.n α) b z)(h:aw.rep m S R w [v] l)(s:l[i]?=σ a)(x:∀cs,aw.rep m S R w cs a->K (.agg cs.toArray)):
  ad P (n9 t v (.int j y)) w λp=>ad P (u5 e p) w K:=by
 refine km q r hi h s λb o cs A f=>?_;rw[bH hu hi (aw.len f) A];exact x cs f
theorem pD{g:Nat}{k:Nat}(h:cf w g e k v n xs)(a:v= .slice ν 0 0\/S g):lT S w k v n xs:=by
 obtain⟨h1,⟨rfl,rfl⟩|⟨cap,cs,rfl,f,q,r,x,s⟩⟩:=h
 .have:xs=[]:=j6 (by simpa using h1);subst this;exact⟨Ξ,0,0,ν,0,rfl,o6 _,X9 _,λh=>m6 h (Nat.lt_irrefl _),λh=>by simp at h,λj v h=>by simp at h⟩
 .refine⟨h1,g,0,_,cap,rfl,q,r,λ_=>rfl,λ_=>a.resolve_left Ξ,λj v ac=>?_⟩;rw[V0];have y:=(x6.1 ac).1;rw[<-s,V1 Ω]at ac;exact f.cell ac
open Classical in
theorem BQ{U Y Z:o4}{b:Nat}{x:x4}{us:List (List x4)}{l l':List α}{G:Nat->ak}{K:x4->x5->Prop}(aa:P.underlying t=σ (.slice e))(ad:P.underlying U=σ (.slice Y))(hi:aV P e (aw.n α) b z)(af:z.cells.size=aw.n α)(h:bB S R w [v] l)(J:cq w (aw.n α) x l'.length us.flatten)(L:nQ s2 R G w us l')(ag:∀i j r,i≠j->G i r->¬G j r)(C:∀r,r<w.heap.size->S r->(∀i,¬G i r)/\¬R r)(ah:(l.length+l'.length)*b<=140737488355328)(aj:l.length+l'.length<=9223372036854775807)(al:∀q I,bB (λr=>S r\/(∃i,G i r)\/w.heap.size<=r) R I [q] (l++l')->ai S w I->K q I):aM P (b9 #[t,U] Z #[v,x]) w K:=by
 obtain⟨vs,g,F,ae,he,V,hm⟩:=jT h;obtain⟨M,aq,W⟩:=hm rfl;refine BK aa ad hi af W J L.one ah (by simpa[maxLen]using aj) ?_;intro q E I am an N O;have Q:∀r,r=g/\v≠ .slice ν 0 0->S r:=λr ⟨h1,f⟩=>h1▸M.resolve_left f;have ao:=W;have T:(q= .slice ν 0 0)\/(E=g/\S g/\g<w.heap.size)\/E=w.heap.size:=by
  rcases an with⟨h1,_,f|f⟩|⟨h1,_⟩
  .rcases M with s|s
   .exact .inl (f▸s)
   .obtain⟨_,⟨y,_⟩|⟨_,_,_,y,_⟩⟩:=ao
    .exact .inl (f▸y)
    .exact .inr (.inl ⟨h1,s,y.lt⟩)
  .exact .inr (.inl ⟨h1,M.resolve_left f.2,f.1⟩)
  .exact .inr (.inr h1)
 refine al q I ⟨q,rfl,vs++us,if q= .slice ν 0 0 then w.heap.size else E,λi r=>if i<l.length then F i r/\r<w.heap.size else G (i-l.length) r/\r<w.heap.size,⟨λi r h=>?_,λ_ i h=>?_,λ_ i j r ap h1 f=>?_⟩,⟨by simp[he.1,L.1],λi c a hi H=>?_⟩,?_,λ_=>⟨?_,am,?_⟩⟩ (O.Y λr _ h=>Q r h)
 .split at h
  .exact .inl (ae.sub i r h.1)
  .exact .inr (.inl ⟨_,h.1⟩)
 .have A:(if q= .slice ν 0 0 then w.heap.size else E)<w.heap.size:=by split at h<;>exact h.2
  split at A
  .omega
  .rename_i ac;rw[m5 ac]at h;rcases T with h1|⟨rfl,f,s⟩|h1
   .exact ac h1
   .split at h
    .exact ae.top rfl i h.1
    .exact (C _ s f).1 _ h.1
   .omega
 .split at h1<;>split at f
  .exact ae.iv rfl i j r ap h1.1 f.1
  .exact (C r h1.2 (ae.sub i r h1.1)).1 _ f.1
  .exact (C r h1.2 (ae.sub j r f.1)).1 _ h1.1
  .exact ag (i-l.length) (j-l.length) r Ω h1.1 f.1
 .have X:∀r,r<w.heap.size->R r->¬(r=g/\v≠ .slice ν 0 0):=λr B h1 f=>(C r B (Q r f)).2 h1;by_cases A:i<l.length
  .rw[V6 (by rw[he.1];exact A)]at hi;rw[V6 A]at H;simp only[m3 A];refine aw.ab (nO (he.2 i c a hi H)) O λr B h1 f=>?_;rcases h1 with h1|h1
   .exact ae.top rfl i (f.1▸h1.1)
   .exact X r B h1 f
  .rw[X2 (by rw[he.1];omega),he.1]at hi;rw[X2 Ω]at H;simp only[m5 A];refine aw.ab (nO (L.2 _ c a hi H)) O λr B h1 f=>?_;rcases h1 with h1|h1
   .exact (C r B (Q r f)).1 _ h1.1
   .exact X r B h1 f
 .rw[c9,List.flatten_append];refine pD N ?_;rcases T with h1|⟨rfl,f,_⟩|rfl
  .exact .inl h1
  .exact .inr (.inl (.inl f))
  .exact .inr (.inl (.inr (.inr (o6 _))))
 .rcases T with h1|⟨rfl,f,_⟩|rfl
  .exact .inl h1
  .by_cases ac:q= .slice ν 0 0
   .exact .inl ac
   .rw[m5 ac];exact .inr (.inl f)
  .split
   .exact .inr (.inr (.inr (o6 _)))
   .exact .inr (.inr (.inr (o6 _)))
 .rw[c9,List.flatten_append];by_cases ac:q= .slice ν 0 0
  .subst ac;obtain⟨s,⟨_,y⟩|⟨_,_,y,_⟩⟩:=N
   .exact⟨s,.inl ⟨rfl,y⟩⟩
   .cases y
  .rw[m5 ac];exact N
theorem oz{H:o4}{b:Nat}{x:x4}{l:List α}{a:α}{A:ak}{K:x4->x5->Prop}(C:P.underlying t=σ (.slice e))(hi:aV P e (aw.n α) b z)(L:z.cells.size=aw.n α)(h:bB S R w [v] l)(J:cq w (aw.n α) x 1 cs)(M:bB A R w cs a)(E:∀r,r<w.heap.size->S r->¬(A r\/R r))(f:(l.length+1)*b<=140737488355328)(N:l.length+1<=9223372036854775807)(O:∀q I,bB (λr=>S r\/A r\/w.heap.size<=r) R I [q] (l++[a])->ai S w I->K q I):aM P (b9 #[t,t] H #[v,x]) w K:=by
 refine BQ (us:=[cs]) (G:=λi r=>i=0/\A r) C C hi L h (by simpa using J) ⟨rfl,λi c b s f=>?_⟩ (λi j r Q h1 y=>Q (h1.1.F y.1.symm)) (λr F V=>⟨λi h=>E r F V (.inl h.2),λh=>E r F V (.inr h)⟩) (by simpa using f) (by simpa using N)
  λq I h1 y=>O q I (aw.Y h1 (λr _ h=>h.imp id (Or.imp (λ⟨_,h⟩=>h.2) id)) λ_ _ h=>h) y
 have B:=(x6.1 s).1;have B:i=0:=by simpa using B
 subst B;simp at s f;subst s f;exact aw.Y M (λr _ h=>⟨rfl,h⟩) λ_ _ h=>h
end
theorem BR:∀(c:List x4)(i:Nat)(z:Array x4),(i+c.length<=z.size)->((c.zipIdx i).foldl (λcs (x:x4×Nat)=>cs.setIfInBounds x.2 x.1) z).toList=z.toList.take i++c++z.toList.drop (i+c.length)
 |[],i,z,h=>Ξ
 |x::r,i,z,h=>by
  simp only[W5]at h;rw[List.zipIdx_cons,List.foldl_cons,BR r (i+1) _ Θ];simp only[Array.toList_setIfInBounds,W5];rw[List.drop_set_of_lt Ω,List.take_set,u9,v8 Θ];simp only[j4];rw[U7 _ _ Θ];have e:i-(z.toList.take i).length=0:=Θ
  rw[e,show i+1+r.length=i+(r.length+1) by omega];simp
theorem BS{k:Nat}{z:Array x4}(a:z.size=k)(ac:v.cells.size=k):Instr.fill (λj=>σ (j*k,k)) z [(0,v)]=σ v.cells:=by
 have h:=BR v.cells.toList 0 z Θ;simp only[Instr.fill,Nat.zero_mul,V0];rw[m5 Θ];congr 1;apply Array.toList_inj.1;rw[<-Array.foldl_toList,Array.toList_zipIdx,h];simp;omega
section
variable{P:W0}{w:x5}{α β:Type}[aw α][aw β]{m:Bool}{S R:ak}
theorem jU{b:Nat}{x:x4}{a:α}{A:ak}{K:x4->x5->Prop}(C:P.underlying t=σ (.slice e))(hi:aV P e (aw.n α) b z)(N:aw.n α<=100000)(J:x.cells=cs.toArray)(s:bB A R w cs a)(E:∀v I,Ext w I->bB (λr=>A r\/w.heap.size<=r) R I [v] [a]->cq I (aw.n α) v 1 cs->K v I):aM P (Y4 t 1 #[(0,x)]) w K:=by
 have F:=aw.len s;refine lb C hi Ω (cs:=x.cells) (BS Ξ (by rw[J];simpa using F)) λg I O y f=>?_;have f:aj I g e cs:=by rw[J]at f;simpa using f
 have hm:cf I g e (aw.n α) (.slice (σ ⟨g,0,ν⟩) 1 1) 1 cs:=cf.full f Ω (by simp[maxLen]);refine E _ I y ⟨_,rfl,[cs],g,λi r=>i=0/\A r/\r<w.heap.size,⟨λi r h=>.inl h.2.1,λ_ i h=>Ω,λ_ i j r G h1 H=>G (h1.1.F H.1.symm)⟩,⟨rfl,λi c a' q B=>?_⟩,?_,λ_=>⟨.inr (.inr Ω),e,by simpa using hm⟩⟩ hm.sl
 .have L:i=0:=by simpa using(x6.1 q).1
  subst L;simp at q B;subst q B;exact bq (aw.Y s (λr M h=>⟨rfl,h,M⟩) λ_ _ h=>h) y
 .have:=pD (S:=λr=>(A r\/w.heap.size<=r)\/R r) hm (.inr (.inl (.inr Ω)));simpa using this
end
theorem b7.range{B:x4->x5->(x4->x5->Prop)->Prop}(n:Nat)(a:Nat->x5->Prop)(e:n<=9223372036854775807)(f:a 0 w)(h:∀(i:Nat)(w:x5)(k:x4->x5->Prop),i<n->a i w->(∀I,a (i+1) I->k (Δ (X5.wrap ((i:Int)+1))) I)->B (Δ (i:Int)) w k)(j:∀(w:x5)(k:x4->x5->Prop),a n w->B (Δ (n:Int)) w k):b7 (Δ 0) w B:=by
 refine⟨λt w=>∃i:Nat,t=Δ (i:Int)/\i<=n/\a i w,λt _=>n-(b2 t).toNat,by grind,?_⟩
 grind [lm,b2]
theorem ce.range{a:x4}{B:x4->x4->x5->(x4->x4->x5->Prop)->Prop}(n:Nat)(e:Nat->x4->x5->Prop)(f:n<=9223372036854775807)(h:e 0 a w)(j:∀(i:Nat)(a:x4)(w:x5)(k:x4->x4->x5->Prop),i<n->e i a w->(∀a' I,e (i+1) a' I->k a' (Δ (X5.wrap ((i:Int)+1))) I)->B a (Δ (i:Int)) w k)(q:∀(a:x4)(w:x5)(k:x4->x4->x5->Prop),e n a w->B a (Δ (n:Int)) w k):ce a (Δ 0) w B:=by
 refine⟨λa t w=>∃i:Nat,t=Δ (i:Int)/\i<=n/\e i a w,λa t _=>n-(b2 t).toNat,by grind,?_⟩
 grind [lm,b2]
theorem kE.range{a b:x4}{B:x4->x4->x4->x5->(x4->x4->x4->x5->Prop)->Prop}(n:Nat)(e:Nat->x4->x4->x5->Prop)(h:n<=9223372036854775807)(j:e 0 a b w)(q:∀(i:Nat)(a b:x4)(w:x5)(k:x4->x4->x4->x5->Prop),i<n->e i a b w->(∀a' f I,e (i+1) a' f I->k a' f (Δ (X5.wrap ((i:Int)+1))) I)->B a b (Δ (i:Int)) w k)(r:∀(a b:x4)(w:x5)(k:x4->x4->x4->x5->Prop),e n a b w->B a b (Δ (n:Int)) w k):kE a b (Δ 0) w B:=by
 refine⟨λa b t w=>∃i:Nat,t=Δ (i:Int)/\i<=n/\e i a b w,λa b t _=>n-(b2 t).toNat,by grind,?_⟩
 grind [lm,b2]
theorem rG.range{a b c:x4}{B:x4->x4->x4->x4->x5->(x4->x4->x4->x4->x5->Prop)->Prop}(n:Nat)(e:Nat->x4->x4->x4->x5->Prop)(j:n<=9223372036854775807)(q:e 0 a b c w)(r:∀(i:Nat)(a b c:x4)(w:x5)(k:x4->x4->x4->x4->x5->Prop),i<n->e i a b c w->(∀a' f h I,e (i+1) a' f h I->k a' f h (Δ (X5.wrap ((i:Int)+1))) I)->B a b c (Δ (i:Int)) w k)(s:∀(a b c:x4)(w:x5)(k:x4->x4->x4->x4->x5->Prop),e n a b c w->B a b c (Δ (n:Int)) w k):rG a b c (Δ 0) w B:=by
 refine⟨λa b c t w=>∃i:Nat,t=Δ (i:Int)/\i<=n/\e i a b c w,λa b c t _=>n-(b2 t).toNat,by grind,?_⟩
 grind [lm,b2]
theorem rH.range{a b c d:x4}{B:x4->x4->x4->x4->x4->x5->(x4->x4->x4->x4->x4->x5->Prop)->Prop}(n:Nat)(e:Nat->x4->x4->x4->x4->x5->Prop)(q:n<=9223372036854775807)(r:e 0 a b c d w)(s:∀(i:Nat)(a b c d:x4)(w:x5)(k:x4->x4->x4->x4->x4->x5->Prop),i<n->e i a b c d w->(∀a' f h j I,e (i+1) a' f h j I->k a' f h j (Δ (X5.wrap ((i:Int)+1))) I)->B a b c d (Δ (i:Int)) w k)(x:∀(a b c d:x4)(w:x5)(k:x4->x4->x4->x4->x4->x5->Prop),e n a b c d w->B a b c d (Δ (n:Int)) w k):rH a b c d (Δ 0) w B:=by
 refine⟨λa b c d t w=>∃i:Nat,t=Δ (i:Int)/\i<=n/\e i a b c d w,λa b c d t _=>n-(b2 t).toNat,by grind,?_⟩
 grind [lm,b2]
section
variable{P:W0}{w:x5}{m:Bool}{S R:ak}
theorem L2(l:Λ):(l.map λx=>[V3 k x]).flatten=ints k l:=by
 induction l<;>grind
theorem mD{g:Nat}(h:aH .i64 e w g v l):bB (λr=>r=g) R w [v] l:=by
 have ah:(l.map λx=>[V3 .i64 x]).flatten=ints .i64 l:=L2 l;refine⟨v,rfl,l.map λx=>[Δ x],g,λ_ _=>False,⟨by grind,λ_ _ h=>h,by grind⟩,⟨Ξ,λi c a f j=>?_⟩,?_,λ_=>⟨.inr rfl,e,?_⟩⟩
 .rw[u4,j]at f;simp at f;exact f.symm
 .rw[ah];exact pD h Ω
 .rw[ah];exact h
def nP.val(x:nP k):Int:=x
theorem BT(h:bB S R w [v] l):∃g e,aH .i64 e w g v l/\(v= .slice ν 0 0\/S g):=by
 obtain⟨vs,g,F,_,he,V,hm⟩:=jT h;obtain⟨h1,e,a⟩:=hm rfl;rw[BP he]at a;exact⟨g,e,a,h1⟩
end
end Go.Vc
namespace Go.Proofs.YtlcdcbgoaljiiaaGreatDoor
open Go Go.Vc Go.RowKit Go.Proofs Go.Proofs.Tryz
set_option maxRecDepth 100000
def right(k:Int):Prop:=1<=k/\k<=2147483648
def cE(a k:Int):Prop:=right k/\0<=a/\a<=k
instance (k:Int):Decidable (right k):=by unfold right;infer_instance
instance (a k:Int):Decidable (cE a k):=by unfold cE;infer_instance
theorem BU{k:Int}:aq x8 K9 [Δ k] w λv I=>v= .bool (decide (right k))/\Ext w I:=by
 refine aE func235 ?_;simp only[cG,cT,mB,ao];refine⟨λh=>⟨?_,Ext.refl _⟩,λh=>⟨?_,Ext.refl _⟩⟩
 .congr 1;simp[right,h]
 .rw[rc];intro a;exact h a.1
theorem ld{k:Int}:aq x8 KS [Δ a,Δ k] w λv I=>v= .bool (decide (cE a k))/\Ext w I:=by
 refine aE func211 ?_;simp only[cG];refine BU.Y ?_;rintro _ U _ ⟨rfl,J⟩;simp only[cT,mB,ao];refine⟨λh=>⟨λe=>⟨?_,J⟩,λe=>⟨?_,J⟩⟩,λh=>⟨?_,J⟩⟩
 .congr 1;simp[cE,h,e]
 .rw[rc];intro f;exact e f.2.1
 .rw[rc];intro f;exact h f.1
theorem L3{k:Int}:aq x8 KQ [Δ k] w λv I=>v= .bool (decide (right k))/\Ext w I:=by
 refine aE func209 ?_;simp only[cG,bU,mB,ao];refine⟨λh=>⟨?_,Ext.refl _⟩,λh=>⟨?_,Ext.refl _⟩⟩
 .congr 1;have be:1<=k:=Ω
  simp[right,be]
 .rw[rc];intro a;have:=a.1;omega
theorem BV{k:Int}:aq x8 JX [Δ a,Δ k] w λv I=>v= .bool (decide (cE a k))/\Ext w I:=by
 refine aE func138 ?_;simp only[cG];refine L3.Y ?_;rintro _ U _ ⟨rfl,J⟩;simp only[cT,mB,ao];refine⟨λh=>⟨λe=>⟨?_,J⟩,λe=>⟨?_,J⟩⟩,λh=>⟨?_,J⟩⟩
 .congr 1;simp[cE,h,e]
 .rw[rc];intro f;exact e f.2.1
 .rw[rc];intro f;exact h f.1
def aX:Λ->Int
 |[]=>1
 |x::r=>x*aX r
theorem BW:∀(a b:Λ),aX (a++b)=aX a*aX b
 |[],b=>by simp[aX]
 |x::a,b=>by simp[aX,BW a b,Int.mul_assoc]
theorem qJ{i:Nat}{x:Int}(h:l[i]?=σ x):aX (l.take (i+1))=aX (l.take i)*x:=by
 rw[u9,h,BW];simp[aX]
def ct(l:Λ):Prop:=l.length<=6/\∀x∈l,1<=x/\x<=32
theorem ct.take(h:ct l)(i:Nat):ct (l.take i):=⟨by rw[Z3];have:=h.1;omega,λx J=>h.2 x (R2 J)⟩
theorem ct.drop(h:ct l)(i:Nat):ct (l.drop i):=⟨by rw[List.length_drop];have:=h.1;omega,λx J=>h.2 x (List.mem_of_mem_drop J)⟩
theorem mE:∀(l:Λ),(∀x∈l,1<=x/\x<=32)->1<=aX l/\aX l<=32 ^ l.length
 |[],_=>by simp[aX]
 |x::r,h=>by
  obtain⟨h1,a⟩:=mE r λy e=>h y (.tail _ e);obtain⟨f,j⟩:=h x (.head _);simp only[aX,W5];constructor
  .have:=Int.mul_le_mul f h1 Ω Ω;simpa using this
  .have:=Int.mul_le_mul j a Ω Ω;rw[Int.pow_succ];rw[Int.mul_comm (32 ^ r.length) 32];exact this
theorem prod_bound(h:ct l):1<=aX l/\aX l<=1073741824:=by
 obtain⟨h1,a⟩:=mE l h.2;refine⟨h1,Int.le_trans a ?_⟩;have:(32:Int) ^ l.length<=32 ^ 6:=by
  have e:=h.1
  match l.length,e with
  |0,_=>decide
  |1,_=>decide
  |2,_=>decide
  |3,_=>decide
  |4,_=>decide
  |5,_=>decide
  |6,_=>decide
 simpa using this
def cj:Λ->Λ->Int->Option Int
 |[],[],n=>σ n
 |k::s,v::t,n=>if 0<=v/\v<k then cj s t (n*k+v)else ν
 |_,_,_=>ν
theorem xi:∀(s t:Λ)(n:Int),s.length≠t.length->cj s t n=ν
 |[],[],_,h=>m6 rfl h
 |[],_::_,_,_=>rfl
 |_::_,[],_,_=>rfl
 |k::s,v::t,n,h=>by
  unfold cj;split
  .exact xi s t _ (by simpa using h)
  .rfl
def dz:Λ->Int->Λ
 |[],_=>[]
 |k::s,n=>(n / aX s) % k::dz s n
theorem kN:∀(s:Λ)(n:Int),(dz s n).length=s.length
 |[],_=>rfl
 |_::s,n=>by simp[dz,kN s n]
theorem BX:∀{s:Λ}{n:Int}{i:Nat}{k:Int},s[i]?=σ k->(dz s n)[i]?=σ ((n / aX (s.drop (i+1))) % k)
 |a::s,n,0,k,h=>by simp at h;subst h;simp[dz]
 |a::s,n,i+1,k,h=>by
  simp only[List.getElem?_cons_succ]at h;simp only[dz,List.getElem?_cons_succ,List.drop_succ_cons];exact BX h
theorem mF:∀{s t:Λ}{m n:Int},(∀x∈s,1<=x/\x<=32)->cj s t m=σ n->m*aX s<=n/\n<(m+1)*aX s
 |[],[],m,n,_,h=>by simp[cj]at h;subst h;simp[aX];omega
 |k::s,v::t,m,n,V,h=>by
  unfold cj at h;split at h
  .rename_i ac;have a:=mF (λx J=>V x (.tail _ J)) h;have ae:=(mE s λx J=>V x (.tail _ J)).1;simp only[aX];have e:m*(k*aX s)=m*k*aX s:=(Int.mul_assoc _ _ _).symm;have f:(m+1)*(k*aX s)=(m*k+k)*aX s:=by rw[<-Int.mul_assoc,Int.add_mul,Int.one_mul]
   rw[e,f];constructor
   .refine Int.le_trans ?_ a.1;exact Int.mul_le_mul_of_nonneg_right Ω Ω
   .refine Int.lt_of_lt_of_le a.2 ?_;exact Int.mul_le_mul_of_nonneg_right Ω Ω
  .cases h
 |[],_::_,_,_,_,h=>by cases h
 |_::_,[],_,_,_,h=>by cases h
def bs:Λ->List (Λ)
 |[]=>[[]]
 |k::s=>(X0 k.toNat).flatMap λ(v:Nat)=>(bs s).map λt=>(v:Int)::t
theorem jt:∀{s:Λ},(∀x∈s,1<=x/\x<=32)->(bs s).length=(aX s).toNat
 |[],_=>rfl
 |k::s,h=>by
  have a:=jt λx J=>h x (.tail _ J);have hk:=h k (.head _);have ae:=(mE s λx J=>h x (.tail _ J)).1;simp only[bs,aX,List.length_flatMap,r9,a];rw[List.map_const',List.length_range,List.sum_replicate_nat,Int.toNat_mul Ω Ω]
theorem ui:∀{s x:Λ},x∈bs s->x.length=s.length
 |[],x,h=>by simp[bs]at h;subst h;rfl
 |k::s,x,h=>by
  simp only[bs,List.mem_flatMap,l9]at h;obtain⟨v,_,t,a,rfl⟩:=h;simp[ui a]
theorem xj{s x:Λ}(h:(bs s)[j]?=σ x):x.length=s.length:=ui (x7 h)
theorem qK(h:aQ .i64 w sv l)(V:ct l):
  aq x8 JA [.agg #[sv]] w λv I=>v=Δ (aX l)/\Ext w I:=by
 refine aE func95 ?_;refine bn λg w0 j e f=>?_;rw[aN bO.p 0 f rfl,a8 au.u (h.W e)];refine⟨λn t U=>Ext w U/\∃i:Nat,t=Δ i/\i<=l.length/\n=Δ (aX (l.take i)),λ_ t _=>l.length-(b2 t).toNat,⟨e,0,rfl,X9 _,rfl⟩,?_⟩;rintro _ _ U ⟨J,i,rfl,hi,rfl⟩;have q:=V.1;simp only[aW,ao];refine⟨λr=>?_,λs=>⟨?_,J⟩⟩
 .obtain⟨x,a⟩:=aI (l:=l) (i:=i) Ω;rw[bk au.u al.i Ψ (h.W J) a];have ae:=prod_bound (V.take (i+1));rw[qJ a]at ae;simp only[fQ,aR];rw[lm Ω Ω,lm Ω Ω,<-qJ a];refine⟨⟨J,i+1,rfl,Ω,rfl⟩,?_⟩;simp only[b2];omega
 .have:i=l.length:=Ω
  rw[this,o9]
theorem L4{i:Nat}(h:aQ .i64 w sv l)(V:ct l)(hi:i<l.length):
  aq x8 Ke [.agg #[sv],Δ i] w λv I=>v=Δ (aX (l.drop (i+1)))/\Ext w I:=by
 have A:=V.1;refine aE func157 ?_;refine bn λg w0 B e f=>?_;have a:=h.W e;simp only[cG,aW,ao];refine⟨λC=>Ω,λ_=>?_⟩;rw[aN bO.p 0 f rfl,a8 au.u a];simp only[cT,ao];refine⟨λE=>Ω,λ_=>?_⟩;rw[aN bO.p 0 f rfl];simp only[aR];have j:X5.wrap ((i:Int)+1)=((i+1:Nat):Int):=by rw[lm Ω Ω];omega
 rw[j];have r:=a;obtain⟨_,b,o,base,cap,rfl,G,H,J,K⟩:=id a;rw[iI au.u al.i rZ la fD Ω Ω Ω];have ae:=cq.part (l:=i+1) (h:=l.length) (m:=cap) r Ω Ω Ω Ω;generalize s:(x4.slice (if cap=i+1 then base else V8 (λx=>x.add ((i+1)*1)) base) (l.length-(i+1)) (cap-(i+1)))=q at ae ⊢;have y:((ints .i64 l).drop ((i+1)*1)).take ((l.length-(i+1))*1)=ints .i64 (l.drop (i+1)):=by
  rw[j9 Ξ,U3,ints,<-List.map_drop]
 rw[y]at ae;rw[ds (cs:=#[q]) (by subst s;kernel_rfl)];refine(qK (aQ.of ae) (V.drop (i+1))).Y ?_;rintro _ aa _ ⟨rfl,z⟩;exact⟨rfl,e.F z⟩
def mG(s t:Λ):x4:=match cj s t 0 with
 |some n=>.tuple #[Δ n,Δ 0]
 |none=>.tuple #[Δ 0,Δ 3]
theorem BY{s t:Λ}(h:aQ .i64 w sv s)(j:aQ .i64 w aY t)(V:ct s):
  aq x8 Kb [.agg #[sv],aY] w λv I=>v=mG s t/\Ext w I:=by
 have E:=V.1;refine aE func154 ?_;refine bn λg w0 G a q=>?_;rw[a8 au.u (j.W a),aN bO.p 0 q rfl,a8 au.u (h.W a)];simp only[bM,ao];refine⟨λH=>⟨?_,a⟩,λy=>?_⟩
 .unfold mG;rw[xi _ _ _ Ω]
 .have y:s.length=t.length:=Ω
  rw[a8 au.u (j.W a)];refine⟨λ_ _ n c U=>Ext w0 U/\∃(i:Nat)(m:Int),c=Δ i/\i<=t.length/\n=Δ m/\0<=m/\m<aX (s.take i)/\cj s t 0=cj (s.drop i) (t.drop i) m,λ_ _ _ c _=>t.length-(b2 c).toNat,
   ⟨Ext.refl _,0,0,rfl,X9 _,rfl,S5 _,by simp[aX],rfl⟩,?_⟩
  rintro _ _ _ _ U ⟨f,i,m,rfl,hi,rfl,z,K,e⟩;have J:=a.F f;simp only[aW,ao];refine⟨λL=>?_,λM=>⟨?_,J⟩⟩
  .obtain⟨v,ac,A⟩:∃v,t[i]?=σ v/\t.drop i=v::t.drop (i+1):=⟨t[i],v8 Ω,X4 Ω⟩;obtain⟨k,hk,B⟩:∃k,s[i]?=σ k/\s.drop i=k::s.drop (i+1):=⟨s[i],v8 Ω,X4 Ω⟩;rw[A,B]at e;have ae:=prod_bound (V.take (i+1));have N:=prod_bound (V.take i);have O:=V.2 k (x7 hk);rw[qJ hk]at ae;have r:¬(0<=v/\v<k)->mG s t= .tuple #[Δ 0,Δ 3]:=λC=>by unfold mG;rw[e];simp[cj,C]
   rw[bk au.u al.i Ψ (j.W J) ac];simp only[cG,aW,ao,bS];refine⟨λP=>⟨(r Ω).symm,J⟩,λQ=>?_⟩;rw[aN bO.p 0 (q.W f) rfl,bk au.u al.i Ψ (h.W J) hk];simp only[cT,ao];refine⟨λR=>⟨(r Ω).symm,J⟩,λS=>?_⟩;rw[aN bO.p 0 (q.W f) rfl,bk au.u al.i Ψ (h.W J) hk];have W:0<=m*k/\m*k+k<=aX (s.take i)*k:=by
    constructor
    .exact Int.mul_nonneg z Ω
    .have:=Int.mul_le_mul_of_nonneg_right (show m+1<=aX (s.take i) by omega) (show 0<=k by omega);rw[Int.add_mul,Int.one_mul]at this;exact this
   simp only[fQ,aR];rw[lm (x:=m*k) Ω Ω,lm (x:=m*k+v) Ω Ω,lm Ω Ω];refine⟨⟨f,i+1,m*k+v,rfl,Ω,rfl,Ω,by rw[qJ hk];omega,?_⟩,?_⟩
   .rw[e];simp[cj,show 0<=v/\v<k from⟨Ω,Ω⟩]
   .simp only[b2];omega
  .have:i=t.length:=Ω
   rw[this,List.drop_of_length_le Ω,List.drop_of_length_le Ω]at e;unfold mG;rw[e];rfl
theorem L5{e:Nat}{a b:Λ}(h1:cq w 1 s1 e (ints .i64 a))(A:cq w 1 z h (ints .i64 b)):
  aq x8 Bm [s1,z] w λv I=>v= .bool (decide (a=b))/\Ext w I:=by
 have Q:a.length=e:=by simpa using h1.1
 have R:b.length=h:=by simpa using A.1
 have B:=h1.le;obtain⟨_,S,V,W,X,rfl,Y,Z,G,H⟩:=h1;obtain⟨_,ab,ac,ad,ae,rfl,af,ag,K,L⟩:=A;refine aE func185 ?_;simp only[jr au.u,bM,ao];refine⟨λC=>⟨?_,Ext.refl _⟩,λE=>?_⟩
 .rw[rc];rintro rfl;omega
 .have E:e=h:=Ω
  refine⟨λt4 j U=>Ext w U/\∃i:Nat,j=Δ i/\i<=e/\a.take i=b.take i,λ_ j _=>e-(b2 j).toNat,⟨Ext.refl _,0,rfl,X9 _,rfl⟩,?_⟩;rintro t4 _ U ⟨J,i,rfl,hi,q⟩;simp only[aW,ao,ey];refine⟨λr aa M _ _=>?_,λah=>⟨?_,J⟩⟩
  .have r:i<e:=Ω
   have J:=J.F M;obtain⟨x,s⟩:=aI (l:=a) (i:=i) Ω;obtain⟨y,f⟩:=aI (l:=b) (i:=i) Ω;have N:=kk J (H i _ (mC s));have O:=kk J (L i _ (mC f));rw[e5 au.u al.i r G,U3,aG Ψ N,e5 au.u al.i (E▸r) K,U3,aG Ψ O];simp only[bM,ao,aR];refine⟨λC=>⟨?_,J⟩,λai=>⟨⟨J,i+1,?_,Ω,xg q s f Ω⟩,?_⟩⟩
   .rw[rc];rintro rfl;rw[s]at f;cases f;exact C rfl
   .rw[lm Ω (by simp only[maxLen]at B;omega)];rfl
   .rw[lm Ω (by simp only[maxLen]at B;omega)];simp only[b2];omega
  .have P:i=e:=Ω
   subst P;rw[ms];rw[j9 Ω,j9 Ω]at q;exact q
theorem L6{s:x4}{a:Λ}(h1:cq w 1 s n (ints .i64 a))(B:n<=1000000):
  aq x8 A8 [s] w λv I=>Ext w I/\∃g,w.heap.size<=g/\cf I g al 1 v n (ints .i64 a):=by
 have f:=h1;obtain⟨j,C,E,G,H,rfl,K,L,q,M⟩:=h1;refine aE func87 ?_;simp only[qG au.u,cb];refine⟨λe=>⟨Ext.refl _,w.heap.size,o6 _,?_⟩,λ_=>?_⟩
 .have:n=0:=by
   rcases Nat.eq_zero_or_pos n with h|h
   .exact h
   .rw[q h]at e;cases e
  subst this;have:ints .i64 a=[]:=j6 (by simpa using j);rw[this];exact cf.nil _ _ _ _
 .refine lb au.u al.i Ω (cs:=#[]) Ψ ?_;intro g U N J x;refine pA au.u au.u al.i rfl (cf.full x rfl Ω) (f.W J) (r0 _ _) Ω (by simp only[maxLen];omega) ?_;intro O y aa P z A;refine⟨J.then A (by rintro r Q rfl;omega),y,?_,?_⟩
  .have:=J.size;omega
  .simpa using z
theorem L7{e:Nat}{a b:Λ}(h1:cq w 1 s1 e (ints .i64 a))(A:cq w 1 z h (ints .i64 b)):
  aq x8 A0 [s1,z] w λv I=>v= .bool (decide (a=b))/\Ext w I:=by
 have Q:a.length=e:=by simpa using h1.1
 have R:b.length=h:=by simpa using A.1
 have B:=h1.le;obtain⟨_,S,V,W,X,rfl,Y,Z,G,H⟩:=h1;obtain⟨_,ab,ac,ad,ae,rfl,af,ag,K,L⟩:=A;refine aE func21 ?_;simp only[jr aB.u,bM,ao];refine⟨λC=>⟨?_,Ext.refl _⟩,λE=>?_⟩
 .rw[rc];rintro rfl;omega
 .have E:e=h:=Ω
  refine⟨λt4 j U=>Ext w U/\∃i:Nat,j=Δ i/\i<=e/\a.take i=b.take i,λ_ j _=>e-(b2 j).toNat,⟨Ext.refl _,0,rfl,X9 _,rfl⟩,?_⟩;rintro t4 _ U ⟨J,i,rfl,hi,q⟩;simp only[aW,ao,ey];refine⟨λr aa M _ _=>?_,λah=>⟨?_,J⟩⟩
  .have r:i<e:=Ω
   have J:=J.F M;obtain⟨x,s⟩:=aI (l:=a) (i:=i) Ω;obtain⟨y,f⟩:=aI (l:=b) (i:=i) Ω;have N:=kk J (H i _ (mC s));have O:=kk J (L i _ (mC f));rw[e5 aB.u ay.i r G,U3,aG Ψ N,e5 aB.u ay.i (E▸r) K,U3,aG Ψ O];simp only[bM,ao,aR];refine⟨λC=>⟨?_,J⟩,λai=>⟨⟨J,i+1,?_,Ω,xg q s f Ω⟩,?_⟩⟩
   .rw[rc];rintro rfl;rw[s]at f;cases f;exact C rfl
   .rw[lm Ω (by simp only[maxLen]at B;omega)];rfl
   .rw[lm Ω (by simp only[maxLen]at B;omega)];simp only[b2];omega
  .have P:i=e:=Ω
   subst P;rw[ms];rw[j9 Ω,j9 Ω]at q;exact q
theorem L8{s:x4}{a:Λ}(h1:cq w 1 s n (ints .i64 a))(B:n<=1000000):
  aq x8 Bo [s] w λv I=>Ext w I/\∃g,w.heap.size<=g/\cf I g ay 1 v n (ints .i64 a):=by
 have f:=h1;obtain⟨j,C,E,G,H,rfl,K,L,q,M⟩:=h1;refine aE func200 ?_;simp only[qG aB.u,cb];refine⟨λe=>⟨Ext.refl _,w.heap.size,o6 _,?_⟩,λ_=>?_⟩
 .have:n=0:=by
   rcases Nat.eq_zero_or_pos n with h|h
   .exact h
   .rw[q h]at e;cases e
  subst this;have:ints .i64 a=[]:=j6 (by simpa using j);rw[this];exact cf.nil _ _ _ _
 .refine lb aB.u ay.i Ω (cs:=#[]) Ψ ?_;intro g U N J x;refine pA aB.u aB.u ay.i rfl (cf.full x rfl Ω) (f.W J) (r0 _ _) Ω (by simp only[maxLen];omega) ?_;intro O y aa P z A;refine⟨J.then A (by rintro r Q rfl;omega),y,?_,?_⟩
  .have:=J.size;omega
  .simpa using z
theorem L9{e:x4}{a b:Λ}(h1:aQ .i64 w s1 a)(f:aQ .i64 w e b):
  aq x8 Bm [s1,e] w λv I=>v= .bool (decide (a=b))/\Ext w I:=L5 h1 f
theorem lf{s:x4}{a:Λ}(h1:aQ .i64 w s a)(e:a.length<=1000000):
  aq x8 A8 [s] w λv I=>Ext w I/\∃g,w.heap.size<=g/\aH .i64 al I g v a:=L6 h1 e
theorem Ma{e:x4}{a b:Λ}(h1:aQ .i64 w s1 a)(f:aQ .i64 w e b):
  aq x8 A0 [s1,e] w λv I=>v= .bool (decide (a=b))/\Ext w I:=L7 h1 f
theorem xk{s:x4}{a:Λ}(h1:aQ .i64 w s a)(e:a.length<=1000000):
  aq x8 Bo [s] w λv I=>Ext w I/\∃g,w.heap.size<=g/\aH .i64 ay I g v a:=L8 h1 e
theorem Mb{n:Int}(h:aQ .i64 w sv l)(V:ct l)(x:0<=n)(X:n<aX l):
  aq x8 JB [.agg #[sv],Δ n] w λv I=>Ext w I/\∃aY g,v= .tuple #[aY,Δ 0]/\w.heap.size<=g/\aH .i64 al I g aY (dz l n):=by
 have Y:=V.1;have Z:=prod_bound V;refine aE func96 ?_;refine bn λg w0 ab y a=>?_;have ac:=h.cells;simp only[cG,aW,ao];refine⟨λad=>Ω,λ_=>?_⟩;rw[bH bO.p bO.i rfl a.range];refine(qK (h.W y) V).Y ?_;rintro _ U _ ⟨rfl,f⟩;simp only[cT,ao];refine⟨λae=>Ω,λ_=>?_⟩;have j:=y.F f;rw[aN bO.p 0 (a.W f) rfl,a8 au.u (h.W j)];refine kM au.u al.i Ω Ω ?_;intro E aa af z K;simp only[jr au.u];have L:=j.F z;have s0:=y.size;have s1:=f.size;have ag:=a.lt;refine⟨λt q=>Ext w q/\Ext w0 q/\∃i:Nat,t=Δ i/\i<=l.length/\aj q E al (ints .i64 ((dz l n).take i++o5 (l.length-i) 0)),λt _=>l.length-(b2 t).toNat,
  ⟨L,f.F z,0,rfl,X9 _,by simpa using K⟩,?_⟩
 rintro _ q ⟨A,B,i,rfl,hi,G⟩;simp only[aW,ao];refine⟨λC=>?_,λah=>?_⟩
 .have C:i<l.length:=Ω
  rw[bH bO.p bO.i rfl (a.W B).range];refine(L4 (h.W A) V C).Y ?_;rintro _ ai _ ⟨rfl,M⟩;simp only[ey];intro ak N _ _;have s:=M.F N;have H:=A.F s;obtain⟨k,hk⟩:∃k,l[i]?=σ k:=⟨l[i],v8 Ω⟩;have am:=V.2 k (x7 hk);have an:=prod_bound (V.drop (i+1));have O:0<=n / aX (l.drop (i+1)):=Int.ediv_nonneg x Ω;have ap:n / aX (l.drop (i+1))<=n:=Int.ediv_le_self _ x;rw[ow Ω,Int.tdiv_eq_ediv_of_nonneg x,lm Ω Ω,
   aN bO.p 0 ((a.W B).W s) rfl,bk au.u al.i Ψ (h.W H) hk,
   rX Ω,Int.tmod_eq_emod_of_nonneg O,e5 au.u al.i C (λ_=>rfl),U3]
  refine bw al.i rfl rfl (G.W s) (by simp[kN];omega) ?_;intro av J aw P;simp only[aR];rw[lm Ω Ω];have ax:=z.size;have ay:=j.size;refine⟨⟨H.then J (by rintro r Q rfl;omega),(B.F s).then J (by rintro r Q rfl;omega),i+1,rfl,Ω,?_⟩,?_⟩
  .have R:=BX (n:=n) hk;have e:(ints .i64 ((dz l n).take i++o5 (l.length-i) 0)).set (0+i) (Δ (n / aX (l.drop (i+1)) % k))=ints .i64 ((dz l n).take (i+1)++o5 (l.length-(i+1)) 0):=by
    have S:((dz l n).take i).length=i:=by rw[Z3,kN];omega
    rw[V0,ints,<-U2];congr 1;rw[List.set_append,m5 Ω,S,V7,show l.length-i=(l.length-(i+1))+1 by omega,List.replicate_succ,List.set_cons_zero,u9,R];simp
   rw[<-e];exact P
  .simp only[b2];omega
 .have W:i=l.length:=Ω
  subst W;refine⟨A,_,E,rfl,by have:=j.size;omega,aH.of (cf.full ?_ (by simp[ints,kN]) (by simp[maxLen];omega))⟩;have e:(dz l n).take l.length++o5 (l.length-l.length) 0=dz l n:=by rw[V7,j9 (by rw[kN];omega)];simp
  rw[<-e];exact G
def jV(x:Int):Prop:=1<=x/\x<=32
instance (x:Int):Decidable (jV x):=by unfold jV;infer_instance
theorem Mc{x:Int}:aq x8 ub [Δ x] w λv I=>v= .bool (decide (¬jV x))/\Ext w I:=by
 refine aE func293 ?_;simp only[cG,aW,bU,ao];refine⟨λh=>⟨?_,Ext.refl _⟩,λh=>⟨?_,Ext.refl _⟩⟩
 .rw[ms];intro a;have:=a.1;omega
 .congr 1;have:(32<x)=(¬jV x):=propext ⟨λe a=>by have:=a.2;omega,λe=>by
   by_cases f:32<x
   .exact f
   .exact m6 ⟨Ω,Ω⟩ e⟩
  simp only[this]
theorem Md(h:aQ .i64 w sv l):
  aq x8 w2 [sv,.func (.func ub) #[] #[]] w λv I=>Ext w I/\∃n:Int,v=Δ n/\((0<=n)=¬∀x∈l,jV x):=by
 have z:=h.le;refine aE func136 ?_;rw[a8 au.u h];refine⟨λ_ t U=>Ext w U/\∃i:Nat,t=Δ i/\i<=l.length/\∀x∈l.take i,jV x,λ_ t _=>l.length-(b2 t).toNat,⟨Ext.refl _,0,rfl,X9 _,Ξ⟩,?_⟩;rintro _ _ U ⟨J,i,rfl,hi,e⟩;simp only[aW,ao];refine⟨λA=>?_,λB=>⟨J,-1,rfl,?_⟩⟩
 .obtain⟨x,f⟩:=aI (l:=l) (i:=i) Ω;rw[bk au.u al.i Ψ (h.W J) f];show aq x8 ub [Δ x] U _;refine Mc.Y ?_;rintro _ aa _ ⟨rfl,j⟩;simp only[ao,aR];refine⟨λq=>⟨J.F j,i,rfl,?_⟩,λr=>?_⟩
  .exact propext ⟨λ_ s=>q (s x (x7 f)),λ_=>Ω⟩
  .rw[lm Ω Ω];refine⟨⟨J.F j,i+1,rfl,Ω,λy a=>?_⟩,?_⟩
   .rw[u9,f]at a;rcases j5.1 a with a|a
    .exact e y a
    .simp at a;subst a;exact X1.1 r
   .simp only[b2];omega
 .have:i=l.length:=Ω
  rw[this,o9]at e;exact propext ⟨λh=>Ω,λh=>m6 e h⟩
theorem Me(h:aQ .i64 w sv l):
  aq x8 w5 [sv,.func (.func ub) #[] #[]] w λv I=>v= .bool (decide (¬∀x∈l,jV x))/\Ext w I:=by
 refine aE func231 ?_;refine(Md h).Y ?_;rintro _ U _ ⟨J,n,rfl,a⟩;simp only[cT];exact⟨by congr 1;simp only[a],J⟩
def Mf(w:x5)(l:Λ)(v:x4)(I:x5):Prop:=
 Ext w I/\
   (¬ct l->v= .tuple #[.agg #[.slice ν 0 0],Δ 1])/\
   (ct l->4096<aX l->v= .tuple #[.agg #[.slice ν 0 0],Δ 5])/\
   (ct l->aX l<=4096->∃g aY,v= .tuple #[.agg #[aY],Δ 0]/\w.heap.size<=g/\aH .i64 al I g aY l)
theorem Mg(h:aQ .i64 w sv l):aq x8 Ll [sv] w (Mf w l):=by
 refine aE func257 ?_;refine bE bO.i λag U ai a q=>?_;have aj:=q.lt;refine a6 (λv aa=>Ext w aa/\Ext U aa/\∃c:Bool,v= .bool c/\((c=s2)=¬ct l)) ?_ ?_
 .rintro _ aa ⟨J,s,c,rfl,E⟩;simp only[cb];refine⟨λR=>?_,λah=>?_⟩
  .have G:¬ct l:=by rw[<-E];exact R
   rw[ds (cs:=#[.slice ν 0 0]) Ψ];refine b3 (vs:=[.slice ν 0 0]) bO.i rfl rfl (by simp;rfl) (q.W s) ?_;intro ak S al W;rw[fu bO.p bO.i rfl W.range];exact⟨J.then S (by rintro r x rfl;omega),λ_=>rfl,λh=>m6 h G,λh=>m6 h G⟩
  .have e:ct l:=by
    have H:¬(c=s2):=by simp[ah]
    rw[E]at H;exact Classical.not_not.1 H
   have am:=e.1;refine(lf (h.W J) Ω).Y ?_;rintro aY an _ ⟨y,X,ap,hm⟩;have I:=hm.ls.cells;rw[ds (cs:=#[aY]) (by obtain⟨_,_,_,_,_,rfl,_⟩:=hm.ls;kernel_rfl)];refine bE bO.i λgs av aw z Y=>?_;refine b3 (vs:=[aY]) bO.i rfl rfl (by intro u hu;simp at hu;subst hu;exact I.2) Y ?_;intro ax K ay L;rw[bH bO.p bO.i rfl L.range];have az:=y.size;have aB:=z.size;have aC:=s.size;have aD:=(z.ab _).F K;have A:=z.then K (by rintro r x rfl;omega);have Z:=(J.F y).F A;have M:=hm.W A;refine(qK M.ls e).Y ?_;rintro _ aF _ ⟨rfl,f⟩;have N:=Z.F f;have O:=q.W (((s.F y).F A).F f);simp only[bU,ao];refine⟨λac=>?_,λad=>?_⟩
   .rw[ds (cs:=#[.slice ν 0 0]) Ψ];refine b3 (vs:=[.slice ν 0 0]) bO.i rfl rfl (by simp;rfl) O ?_;intro ae j af B;rw[fu bO.p bO.i rfl B.range];exact⟨N.then j (by rintro r x rfl;omega),λh=>m6 e h,λ_ _=>rfl,λ_ h=>Ω⟩
   .rw[bH bO.p bO.i rfl (L.W f).range];refine b3 (vs:=[aY]) bO.i rfl rfl (by intro u hu;simp at hu;subst hu;exact I.2) O ?_;intro ae j af B;rw[fu bO.p bO.i rfl B.range];have aG:=a.size;exact⟨N.then j (by rintro r x rfl;omega),λh=>m6 e h,λ_ h=>Ω,λ_ _=>⟨X,aY,rfl,Ω,(M.W f).ab j Ω⟩⟩
 .intro aA P;rw[a8 au.u (h.W a)];simp only[bU,ao];refine⟨λac=>P _ _ ⟨a,Ext.refl _,s2,rfl,?_⟩,λad=>?_⟩
  .exact propext ⟨λ_ V=>by have:=V.1;omega,λ_=>rfl⟩
  .refine (Me (h.W a)).Y ?_;rintro _ aa _ ⟨rfl,Q⟩;refine P _ _ ⟨a.F Q,Q,_,rfl,?_⟩;rw[ro];exact propext ⟨λC V=>C V.2,λC V=>C ⟨Ω,V⟩⟩
theorem xl{P:W0}(f:0<=a)(h1:a<4294967296):
  ad P (aT .and t cx cy (.int .u64 a) (.int .u64 4294967295)) w K=K (.int .u64 a):=ad.of λI _=>by
 obtain⟨n,rfl⟩:=Y6 f;have r:n<4294967296:=Ω
 have e:(U6 64 (n:Int) &&& U6 64 4294967295).toNat=n:=by
  rw[BitVec.toNat_and,BitVec.toNat_ofInt,BitVec.toNat_ofInt];have h:((n:Int) % ((2 ^ 64:Nat):Int)).toNat=n:=Ω
  have j:((4294967295:Int) % ((2 ^ 64:Nat):Int)).toNat=2 ^ 32-1:=Φ
  rw[h,j,Nat.and_two_pow_sub_one_eq_mod];omega
 have q:(U6 U4.bits (n:Int) &&& U6 U4.bits 4294967295).toNat=n:=e;simp only[aT,eqGuard,binOp,Op.intBits,q];rw[lw Ω Ω];rfl
theorem r1{P:W0}(f:0<=a)(h1:a<4294967296):
  ad P (aT .shr t cx cy (.int .u64 a) (.int .u64 32)) w K=K (.int .u64 0):=ad.of λI _=>by
 have e:a.fdiv (2 ^ min 32 U4.bits)=0:=by
  have:(2:Int) ^ min 32 U4.bits=4294967296:=rfl;rw[this,Int.fdiv_eq_ediv_of_nonneg _ Ω];omega
 simp[aT,eqGuard,binOp,Op.shift,e]
theorem Mh{x:Int}(J:0<=x/\x<65536)(a:0<=y/\y<65536):
  aq x8 LF [.int .u64 x,.int .u64 y] w λv I=>v= .tuple #[.int .u64 0,.int .u64 (x*y)]/\Ext w I:=by
 have f:0<=x*y/\x*y<4294967296:=⟨Int.mul_nonneg J.1 a.1,by
  have:x*y<=65535*65535:=Int.mul_le_mul Ω Ω a.1 Ω;omega⟩
 refine aE func294 ?_;refine aq.Y (K:=λv I=>v= .tuple #[.int .u64 0,.int .u64 (x*y)]/\Ext w I) ?_ ?_
 .refine aE func309 ?_;rw[xl Ω Ω,r1 Ω Ω,xl Ω Ω,r1 Ω Ω];simp only[fQ,Int.zero_mul,Int.mul_zero];rw[lw Ω Ω,show U4.wrap 0=0 from rfl,r1 Ω Ω];simp only[aR,Int.add_zero];rw[show U4.wrap 0=0 from rfl,xl Ω Ω,r1 Ω Ω];simp only[fQ,aR,Int.zero_mul,Int.mul_zero,Int.add_zero,show U4.wrap 0=0 from rfl];rw[r1 Ω Ω];simp only[fQ,aR,Int.add_zero,show U4.wrap 0=0 from rfl];exact⟨trivial,Ext.refl _⟩
 .rintro _ U _ ⟨rfl,e⟩;rw[bz,bA];exact⟨rfl,e⟩
theorem BZ{dm:x4}{c:Int}(h:aQ .i64 w dm [c])(X:n<65536):
  aq x8 Lm [dm,Δ n] w λv I=>Ext w I/\∃g,w.heap.size<=g/\aH .i64 ay I g v (o5 n c):=by
 refine aE func258 ?_;refine dh (λU=>w=U) ?_ ?_
 .rintro _ rfl;rw[a8 aB.u h,fR al.u qD.u,fR al.u qD.u,lw Ξ Ξ,lw Ω Ω];refine(Mh Ξ Ω).Y ?_;rintro _ aa _ ⟨rfl,y⟩;rw[bz,bA];have C:(([c].length:Int)*n)=(n:Int):=Ξ
  rw[C];refine dh (λa=>aa=a) ?_ ?_
  .rintro _ rfl;rw[fR qD.u al.u,lm Ω Ω];refine kM aB.u ay.i Ω Ω ?_;intro g Y Z E G;have J:=y.F E;have ab:=y.size;refine BL aB.u ay.i G (λ_=>rfl) Ξ (h.W J) (r0 _ _) ?_;intro ac H ad z;have K:=J.then H (by rintro r L rfl;omega);have st:over (ints .i64 (o5 n 0)) 0 ((ints .i64 [c]).take n)=ints .i64 (o5 (min 1 n) c++o5 (n-min 1 n) 0):=by
    rcases Nat.eq_zero_or_pos n with rfl|ae
    .simp[over]
    .rw[j9 Θ,ox Θ];have:min 1 n=1:=Ω
     simp[this,ints]
   rw[st]at z;refine⟨λt e=>Ext w e/\∃i:Nat,t=Δ i/\i<=n/\(0<n->0<i)/\aj e g ay (ints .i64 (o5 i c++o5 (n-i) 0)),λt _=>n-(b2 t).toNat,
    ⟨K,min 1 n,Ξ,Ω,Ω,z⟩,?_⟩
   rintro _ e ⟨f,i,rfl,hi,af,q⟩;simp only[jr aB.u,aW,ao,ey];refine⟨λM N s _ _=>?_,λag=>?_⟩
   .have M:i<n:=Ω
    have A:=q.W s;rw[iI aB.u ay.i rZ la fD Ω Ω Ω,
     iI aB.u ay.i kl py fD Ω Ω Ω]
    have O:cq N 1 (.slice (σ ⟨g,0,ν⟩) n n) n (ints .i64 (o5 i c++o5 (n-i) 0)):=(cf.full A (by simp<;>omega) (by simp[maxLen]<;>omega)).sl;have ae:=O.part (l:=0) (h:=i) (m:=n) Ω Ω Ω Ω;have P:((ints .i64 (o5 i c++o5 (n-i) 0)).drop (0*1)).take ((i-0)*1)=ints .i64 (o5 i c):=by
     simp[ints]
    rw[P]at ae;refine BL aB.u ay.i A (o:=i) (λ_=>?_) (by simp<;>omega) ae (r0 _ _) ?_
    .rw[m5 Ω];simp[U8]
    .intro ah Q ai B;have ak:=f.size;have am:=s.size;have R:over (ints .i64 (o5 i c++o5 (n-i) 0)) i ((ints .i64 (o5 i c)).take (n-i))=ints .i64 (o5 (i+min i (n-i)) c++o5 (n-(i+min i (n-i))) 0):=by
      apply Y3;intro j;rw[qH _ _ _ (by simp[ints]<;>omega)];simp only[ints,Z2,List.map_replicate,List.getElem?_append,List.getElem?_take,List.getElem?_replicate,Z3,List.length_replicate]
      repeat' split
      all_goals first|rfl|omega
     rw[R]at B;have S:min (i-0) (n-i)=min i (n-i):=Ω
     simp only[aR,S];have V:X5.wrap ((i:Int)+((min i (n-i):Nat):Int))=((i+min i (n-i):Nat):Int):=by rw[lm Ω Ω];omega
     rw[V];refine⟨⟨(f.F s).then Q (by rintro r L rfl;omega),_,rfl,Ω,Ω,B⟩,?_⟩;simp only[b2,u7];omega
   .have:i=n:=Ω
    subst this;rw[V7,List.replicate_zero,T4]at q;exact⟨f,g,Ω,aH.of (cf.full q Ξ (by simp[maxLen];omega))⟩
  .intro aA x;refine a6 (λv a=>v= .bool sp/\aa=a) ?_ ?_
   .rintro _ _ ⟨rfl,rfl⟩;rw[bc];exact x _ rfl
   .intro an W;simp only[bU,ao];refine⟨λh=>Ω,λ_=>W _ _ ⟨?_,rfl⟩⟩;rw[rc];omega
 .intro aA x;simp only[aW,ao];exact⟨λh=>Ω,λ_=>x _ rfl⟩
def lc(v:x4)(r:Nat):Prop:=∃a n c,v= .slice (σ a) n c/\a.block=r
theorem cd{g:Nat}(h:aH k e w g v l){r:Nat}(f:lc v r):r=g/\g<w.heap.size:=by
 obtain⟨a,n,c,rfl,rfl⟩:=f;obtain⟨_,⟨h,_⟩|⟨cap,cs,h,j,_⟩⟩:=h
 .cases h
 .cases h;exact⟨rfl,j.lt⟩
theorem bG{g:Nat}(h:aH k e w g v l)(J:ai S w I)(a:∀r,lc v r->¬S r):aH k e I g v l:=by
 refine⟨h.1,h.2.imp id λ⟨cap,cs,h1,f,j⟩=>⟨cap,cs,h1,f.ab J (a g ⟨_,_,_,h1,rfl⟩),j⟩⟩
def du(w:x5)(g a:Nat)(sv:x4)(an:Λ)(k:Int)(cs:Λ):Prop:=
 (∃bf gs,aj w g db [sv,Δ k,bf]/\aH .i64 al w gs sv an/\aH .i64 ay w a bf cs)/\(g≠a/\¬lc sv a/\aX an<=4096)/\ct an/\cs.length=(aX an).toNat
theorem du.W{g a:Nat}{k:Int}{cs:Λ}(h:du w g a sv an k cs)(J:Ext w I):du I g a sv an k cs:=by
 obtain⟨⟨bf,gs,h1,e,f⟩,j⟩:=h;exact⟨⟨bf,gs,h1.W J,e.W J,f.W J⟩,j⟩
def B1(w:x5)(l:Λ)(k a:Int)(v:x4)(I:x5):Prop:=
 Ext w I/\
  (¬ct l->v= .tuple #[.pointer ν,Δ 1])/\
  (ct l->4096<aX l->v= .tuple #[.pointer ν,Δ 5])/\
  (ct l->aX l<=4096->¬cE a k->v= .tuple #[.pointer ν,Δ 3])/\
  (ct l->aX l<=4096->cE a k->∃g e sv,v= .tuple #[Γ g,Δ 0]/\w.heap.size<=g/\w.heap.size<=e/\(∀r,lc sv r->w.heap.size<=r)/\
   du I g e sv l k (o5 (aX l).toNat a))
theorem xm{k z:Int}(h:aQ .i64 w sv l):aq x8 KG [sv,Δ k,Δ z] w (B1 w l k z):=by
 refine aE func197 ?_;refine(Mg h).Y ?_;rintro v U _ ⟨I,W,X,Y⟩;obtain⟨aY,e,rfl,Z,he⟩:∃(aY:x4)(e:Int),v= .tuple #[.agg #[aY],Δ e]/\aY.oneCell'=s2/\
   ((e=1/\¬ct l)\/(e=5/\ct l/\4096<aX l)\/(e=0/\ct l/\aX l<=4096/\∃g,w.heap.size<=g/\aH .i64 al U g aY l)):=by
  by_cases V:ct l
  .by_cases ae:aX l<=4096
   .obtain⟨g,aY,rfl,h1,J⟩:=Y V ae;exact⟨aY,0,rfl,J.ls.cells.2,.inr (.inr ⟨rfl,V,ae,g,h1,J⟩)⟩
   .exact⟨_,_,X V Ω,rfl,.inr (.inl ⟨rfl,V,Ω⟩)⟩
  .exact⟨_,_,W V,rfl,.inl ⟨rfl,V⟩⟩
 rw[bz,bA];refine bE bO.i λaJ aa aK ab ac=>?_;refine b3 (vs:=[aY]) bO.i rfl rfl (by intro u hu;simp at hu;subst hu;exact Z) ac ?_;intro aL af aN ag;have K:=ab.then af (by rintro r j rfl;omega);have L:=I.F K;simp only[bM,ao];refine⟨λai=>⟨L,?_⟩,λaO=>?_⟩
 .rcases he with⟨rfl,A⟩|⟨rfl,V,ae⟩|⟨rfl,_⟩
  .exact⟨λ_=>rfl,λh=>m6 h A,λh=>m6 h A,λh=>m6 h A⟩
  .exact⟨λh=>m6 V h,λ_ _=>rfl,λ_ h=>Ω,λ_ h=>Ω⟩
  .exact m6 rfl ai
 .obtain⟨rfl,V,ae,gs,aP,hm⟩:e=0/\ct l/\aX l<=4096/\∃g,w.heap.size<=g/\aH .i64 al U g aY l:=by
   rcases he with⟨rfl,A⟩|⟨rfl,V,ae⟩|h
   .omega
   .omega
   .exact h
  have aR:=prod_bound V;refine ld.Y ?_;rintro _ aS _ ⟨rfl,C⟩;have M:=L.F C;simp only[bN,cb];refine⟨λah=>⟨M,λh=>m6 V h,λ_ h=>Ω,λ_ _ _=>rfl,λ_ _ h=>by simp[h]at ah⟩,λaj=>?_⟩;have ak:cE z k:=by simpa using aj
  simp only[cG,ey];intro N E _ _;have am:=M.F E;have B:=(K.F C).F E;have O:=(ag.W C).W E;rw[bH bO.p bO.i rfl O.range,bH bO.p bO.i rfl O.range];have s1:=I.size;have aT:=B.size;have P:((aX l).toNat:Int)=aX l:=Ω
  have Q:∀{x:x5}{s:x4}{y:Nat},Ext N x->N.heap.size<=y->aH .i64 ay x y s (o5 (aX l).toNat z)->
    ad x8 (Instr.build db #[(0,.agg #[aY]),(1,Δ k),(2,s)]) x λan=>aM x8 (Instr.box db an) x λap R=>B1 w l k z (.tuple #[ap,Δ 0]) R:=by
   intro x s y q S j;rw[ds (cs:=#[aY,Δ k,s]) (by
    obtain⟨_,_,_,_,_,rfl,_⟩:=j.ls;obtain⟨_,_,_,_,_,rfl,_⟩:=hm.ls;kernel_rfl)]
   refine bn λg R aU G au=>?_;have aV:=q.size;have aw:lc s y:=by
    obtain⟨aW,⟨_,ax⟩|⟨cap,cs,rfl,_⟩⟩:=j
    .simp at ax;omega
    .exact⟨_,_,_,rfl,rfl⟩
   have aZ:=(cd j aw).2;refine⟨(am.F q).F G,λh=>m6 V h,λ_ h=>Ω,λ_ _ h=>m6 ak h,λ_ _ _=>⟨g,y,aY,rfl,Ω,Ω,λr az=>?_,⟨s,gs,au,((hm.W B).W q).W G,j.W G⟩,⟨Ω,λaA=>?_,ae⟩,V,Ξ⟩⟩
   .have:=(cd hm az).1;omega
   .have:=cd hm aA;omega
  constructor
  .refine e6 aB.u ay.i rfl λdm av aC aD a H=>⟨.inl a,?_⟩;refine(qK ((hm.W B).W a).ls V).Y ?_;rintro _ aF _ ⟨rfl,f⟩;refine⟨.inl (a.F f),?_⟩;rw[<-P];refine(BZ (H.W f).ls Ω).Y ?_;rintro s x _ ⟨q,y,S,j⟩;have aG:=a.size;have aI:=f.size;exact⟨.inl ((a.F f).F q),Q ((a.F f).F q) Ω j⟩
  .refine (qK (hm.W B).ls V).Y ?_;rintro _ aC _ ⟨rfl,a⟩;refine⟨.inl a,?_⟩;refine e6 aB.u ay.i rfl λdm av aF aD f H=>⟨.inl (a.F f),?_⟩;rw[<-P];refine(BZ H.ls Ω).Y ?_;rintro s x _ ⟨q,y,S,j⟩;have aG:=a.size;have aI:=f.size;exact⟨.inl ((a.F f).F q),Q ((a.F f).F q) Ω j⟩
theorem pE{g:Nat}{a:List x4}{o:Nat}(h:aj w g e cs)(f:∀j v,a[j]?=σ v->cs[o+j]?=σ v):w.rangeAt g o a:=λj v ac=>h.cell (f j v ac)
theorem B2{g a:Nat}{t:Λ}{k:Int}{cs:Λ}(h:du w g a sv an k cs)(e:aQ .i64 w aY t):
  aq x8 Lq [Γ g,aY] w λv I=>v=mG an t/\Ext w I:=by
 obtain⟨⟨bf,gs,f,hm,q⟩,_,V,_⟩:=h;refine aE func263 ?_;rw[dl fs.u];simp only[b8,bc];rw[cc,a1 db.p rfl,bH (cs:=[sv]) bO.p bO.i rfl (pE f (by
  intro j v ac
  match j,ac with
  |0,ac=>exact ac))]
 refine(BY hm.ls e V).Y ?_;rintro _ U _ ⟨rfl,J⟩;unfold mG;cases cj an t 0 with
 |none=>rw[bz,bA];exact⟨rfl,J⟩
 |some n=>rw[bz,bA];exact⟨rfl,J⟩
def uj(an t cs:Λ):x4:=match cj an t 0 with
 |some n=>.tuple #[Δ (cs.getD n.toNat 0),Δ 0]
 |none=>.tuple #[Δ 0,Δ 3]
theorem B3{t cs:Λ}{n:Int}(V:ct an)(a:cs.length=(aX an).toNat)(h:cj an t 0=σ n):n=(n.toNat:Int)/\n.toNat<cs.length:=by
 have:=mF V.2 h;simp only[Int.zero_mul,Int.zero_add,Int.one_mul]at this;omega
theorem xn{g e:Nat}{t:Λ}{k:Int}{cs:Λ}(h:du w g e sv an k cs)(f:aQ .i64 w aY t):
  aq x8 Li [Γ g,aY] w λv I=>v=uj an t cs/\Ext w I:=by
 refine aE func248 ?_;refine(B2 h f).Y ?_;rintro _ U _ ⟨rfl,J⟩;obtain⟨⟨bf,gs,j,hm,q⟩,_,V,r⟩:=h.W J;unfold mG uj;cases hi:cj an t 0 with
 |none=>
  rw[bz,bA];simp only[bM,ao];exact⟨λ_=>⟨trivial,J⟩,λh=>by simp at h⟩
 |some n=>
  obtain⟨s,a⟩:=B3 V r hi;rw[bz,bA];simp only[bM,ao];refine⟨λh=>m6 rfl h,λ_=>?_⟩;rw[aP db.p 2 j rfl,
   ft s aB.u ay.i Ψ q.ls (v8 a)]
  refine⟨?_,J⟩;rw[r8,v8 a];rfl
def uk(an t:Λ)(k c:Int)(cs:Λ):Λ:=match cj an t 0 with
 |some n=>if cE c k then cs.set n.toNat c else cs
 |none=>cs
def B4(an t:Λ)(k c:Int):Int:=match cj an t 0 with
 |some _=>if cE c k then 0 else 3
 |none=>3
theorem Mi{g e:Nat}{t:Λ}{k c:Int}{cs:Λ}(h:du w g e sv an k cs)(B:aQ .i64 w aY t):
  aq x8 KI [Γ g,aY,Δ c] w λv I=>v=Δ (B4 an t k c)/\ai (λr=>r=e) w I/\du I g e sv an k (uk an t k c cs):=by
 refine aE func199 ?_;refine(B2 h B).Y ?_;rintro _ U _ ⟨rfl,J⟩;have h1:=h.W J;obtain⟨⟨bf,gs,a,hm,f⟩,_,V,j⟩:=h1;unfold mG B4 uk;cases hi:cj an t 0 with
 |none=>
  rw[bz,bA];simp only[bM,ao];exact⟨λ_=>⟨trivial,J.ab _,h.W J⟩,λh=>by simp at h⟩
 |some n=>
  obtain⟨O,P⟩:=B3 V j hi;rw[bz,bA];simp only[bM,ao];refine⟨λh=>m6 rfl h,λ_=>?_⟩;rw[aP db.p 1 a rfl];refine ld.Y ?_;rintro _ aa _ ⟨rfl,q⟩;have x:=(h.W J).W q;by_cases y:cE c k
  .simp only[y,decide_true,bN,Y5,bc,if_true];obtain⟨⟨bf,gs,a,hm,f⟩,⟨C,z⟩,V,j⟩:=x;have Q:=f;obtain⟨R,⟨rfl,S⟩|⟨cap,full,rfl,E,G,H,K,A⟩⟩:=f
   .omega
   .rw[aP db.p 2 a rfl,
     BH aB.u ay.i Ω Ω (λ_=>rfl)]
    refine bw ay.i rfl rfl E Ω ?_;intro W s X L;refine⟨trivial,((J.F q).ab _).F s,⟨_,gs,a.ab s Ω,bG hm s (λr M N=>z.1 (N▸M)),?_⟩,⟨C,z⟩,V,by simp[j]⟩;refine⟨Ξ,.inr ⟨cap,full.set (0+n.toNat*1) (Δ c),?_,L,by simpa using G,H,by simpa using K,?_⟩⟩
    .simp
    .simp only[Z9,V0,U3]at A ⊢;rw[List.take_set,A,ints,ints,U2]
  .simp only[y,decide_false,bN,X6,bS,if_false];exact⟨trivial,(J.F q).ab _,x⟩
def c4(b:Int):Bool:=decide (b=32\/b=9\/b=10\/b=13)
def ck(b:Int):Bool:=decide (33<=b/\b<=126)
def pF:Nat->Λ->List (Λ)×Bool
 |0,_=>([],s2)
 |n+1,p=>
  match p.dropWhile c4 with
  |[]=>([],s2)
  |b::q=>
   if ck b then
    match(b::q).dropWhile ck with
    |[]=>([(b::q).takeWhile ck],s2)
    |c::r=>if c4 c then(((b::q).takeWhile ck)::(pF n (c::r)).1,(pF n (c::r)).2)else([],sp)
   else([],sp)
def lex(p:Λ):List (Λ)×Bool:=pF (p.length+1) p
theorem qL(f:Int->Bool):∀(l:Λ),(l.dropWhile f).length<=l.length
 |[]=>o6 _
 |x::l=>by
  rw[List.dropWhile_cons];split
  .exact X3 (qL f l) (Nat.le_succ _)
  omega
theorem ul{f:Int->Bool}{x:Int}(h:f x=s2):((x::l).dropWhile f).length<=l.length:=by
 grind [List.dropWhile_cons,qL]
theorem B5:∀{n m:Nat}{p:Λ},p.length<n->p.length<m->pF n p=pF m p
 |n+1,m+1,p,j,hm=>by
  unfold pF;have h1:=qL c4 p;cases f:p.dropWhile c4 with
  |nil=>rfl
  |cons b q=>
   rw[f]at h1;simp only;by_cases a:ck b=s2
   .rw[m3 a,m3 a];have e:=ul (l:=q) a;cases h:(b::q).dropWhile ck with
    |nil=>rfl
    |cons c r=>
     rw[h]at e;simp only[W5]at h1 e;simp only;rw[B5 (n:=n) (m:=m) (p:=c::r) (by grind) (by grind)]
   grind
theorem mH(p:Λ):lex p=match p.dropWhile c4 with
  |[]=>([],s2)
  |b::q=>
   if ck b then
    match(b::q).dropWhile ck with
    |[]=>([(b::q).takeWhile ck],s2)
    |c::r=>if c4 c then(((b::q).takeWhile ck)::(lex (c::r)).1,(lex (c::r)).2)else([],sp)
   else([],sp):=by
 unfold lex
 conv=>lhs;unfold pF
 have h1:=qL c4 p;cases a:p.dropWhile c4<;>grind [ul,B5]
theorem r2:∀(n:Nat)(p:Λ),p.length<=n->(lex p).1.length<=p.length
 |n,p,s=>by
  rw[mH];have h1:=qL c4 p;cases f:p.dropWhile c4 with
  |nil=>simp
  |cons b q=>
   rw[f]at h1;simp only;by_cases a:ck b=s2
   .rw[m3 a];have e:=ul (l:=q) a;cases h:(b::q).dropWhile ck with
    |nil=>grind
    |cons c r=>
     rw[h]at e;simp only[W5]at h1 e;simp only;by_cases j:c4 c=s2
     .rw[m3 j]
      match n with
      |0=>omega
      |n+1=>
       have:=r2 n (c::r) (by grind)
       grind
     grind
   grind
theorem um:∀(n:Nat)(p:Λ),p.length<=n->∀w∈(lex p).1,w≠[]/\(∀b∈w,ck b=s2)/\w.length<=p.length
 |n,p,y,w,hw=>by
  rw[mH]at hw;have h1:=qL c4 p;cases f:p.dropWhile c4 with
  |nil=>grind
  |cons b q=>
   rw[f]at h1 hw;simp only at hw;have z:(b::q).length<=p.length:=h1;by_cases a:ck b=s2
   .rw[m3 a]at hw;have e:=ul (l:=q) a;have h:(b::q).takeWhile ck≠[]/\(∀x∈(b::q).takeWhile ck,ck x=s2)/\((b::q).takeWhile ck).length<=p.length:=
     by grind [List.takeWhile_cons,List.all_takeWhile,List.takeWhile_sublist]
    cases j:(b::q).dropWhile ck with
    |nil=>
     grind
    |cons c r=>
     rw[j]at e hw;simp only[W5]at h1 e;simp only at hw;by_cases s:c4 c=s2
     .rw[m3 s]at hw;rcases List.mem_cons.1 hw with rfl|hw
      .exact h
      .match n with
       |0=>omega
       |n+1=>
        have:=um n (c::r) (by grind) w hw
        grind
     grind
   grind
def aF:Int:=4611686018427387904
def gZ(b:Int):Bool:=decide (48<=b/\b<=57)
def fV(n b:Int):Int:=min aF (10*n+(b-48))
def lW:Λ->Option Int
 |[]=>ν
 |l=>if l.all gZ then σ (l.foldl fV 0)else ν
def iw:Λ->Option Int
 |45::l=>(lW l).map λn=>-n
 |l=>lW l
theorem xo:∀{l:Λ}{n:Int},l.all gZ=s2->0<=n/\n<=aF->0<=l.foldl fV n/\l.foldl fV n<=aF
 :=by
 intro a;induction a<;>grind [gZ,fV]
structure aO where
 hp:List (Λ)
 m1:Int
 big:Bool
 m2:List (Λ×List (Λ×Int))
deriving DecidableEq
def eh(s:aO):Option (Λ×aO):=match s.hp with
 |[]=>ν
 |w::l=>σ (w,{s with hp:=l})
def bt(lo hi:Int)(s:aO):Option (Int×aO):=match eh s with
 |none=>ν
 |some (w,s)=>match iw w with
  |none=>ν
  |some n=>if lo<=n/\n<=hi then σ (n,s)else ν
def br(b:Bool)(s:aO):aO:={s with big:=s.big||b}
def dc{α:Type}(f:List α->aO->Option (α×aO)):Nat->List α->aO->Option (List α×aO)
 |0,acc,s=>σ (acc,s)
 |n+1,acc,s=>match f acc s with
  |none=>ν
  |some (a,s)=>dc f n (acc++[a]) s
def fv(n:Int)(a:Nat)(s:aO):Option (Λ×aO):=dc (λacc s=>match bt 0 (n-1) s with
 |none=>ν
 |some (v,s)=>if v∈acc then ν else σ (v,s)) a [] s
def kO:Λ->Λ->aO->Option (Λ×aO)
 |[],acc,s=>σ (acc,s)
 |k::l,acc,s=>match bt 0 (k-1) s with
  |none=>ν
  |some (v,s)=>kO l (acc++[v]) s
def eX(d6:Λ)(acc:List (Λ×Int))(s:aO):Option ((Λ×Int)×aO):=match kO d6 [] s with
 |none=>ν
 |some (t,s)=>match bt 0 aF s with
  |none=>ν
  |some (c,s)=>if t∈acc.map (·.1)then ν else σ ((t,c),s)
def ei(d6:Λ)(s:aO):Option (List (Λ×Int)×aO):=match bt (-aF) aF s with
 |none=>ν
 |some (n,s)=>
  if n<0 then match s.m2[(-n-1).toNat]? with
   |none=>ν
   |some (z,l)=>if z=d6 then σ (l,s)else ν
  else dc (eX d6) n.toNat [] (br (decide (16384<min (s.m1+n) aF)) {s with m1:=min (s.m1+n) aF})
def dO(d6:Λ):Bool:=decide (4096<aX (d6.map λk=>min k 4097))
structure cI where
 scope:Λ
 d6:Λ
 other:Int
 lines:List (Λ×Int)
deriving DecidableEq
def dA(all:Λ)(s:aO):Option (cI×aO):=match bt (-aF) aF s with
 |none=>ν
 |some (a,s)=>match fv all.length a.natAbs s with
  |none=>ν
  |some (scope,s)=>
   let d6:=scope.map λv=>all.getD v.toNat 0
   match bt 0 aF (br (decide (6<a.natAbs)||dO d6) s)with
   |none=>ν
   |some (other,s)=>match ei d6 s with
    |none=>ν
    |some (lines,s)=>σ (⟨scope,d6,other,lines⟩,if a<0 then{s with m2:=s.m2++[(d6,lines)]}else s)
def ia(most:Int)(_:Λ)(s:aO):Option (Int×aO):=match bt 1 most s with
 |none=>ν
 |some (z,s)=>σ (z,br (decide (32<z)) s)
structure cn where
 name:Λ
 k:Int
 d6:Λ
 ho:List cI
deriving DecidableEq
def jW(s:aO):Option (cn×aO):=match eh s with
 |none=>ν
 |some (name,s)=>match bt 1 aF (br (decide (64<name.length)) s)with
  |none=>ν
  |some (n,s)=>match bt 1 aF (br (decide (64<n)) s)with
   |none=>ν
   |some (most,s)=>match bt 0 aF s with
    |none=>ν
    |some (a,s)=>match bt 1 aF (br (decide (256<a)) s)with
     |none=>ν
     |some (k,s)=>match dc (ia most) n.toNat [] (br (decide (2147483648<k)) s)with
      |none=>ν
      |some (d6,s)=>match dc (λ_ s=>dA d6 s) a.toNat [] s with
       |none=>ν
       |some (ho,s)=>σ (⟨name,k,d6,ho⟩,s)
def ix(p:Λ):Option cn:=if 65536<p.length then ν else match jW ⟨(lex p).1,0,sp,[]⟩with
 |none=>ν
 |some (f,s)=>if s.hp=[]/\(lex p).2=s2/\s.big=sp then σ f else ν
def oA(n:Int)(a:Bool)(v:Int):Prop:=0<=n/\n<=4611686018427387909/\(a=s2->v=aF)/\(a=sp->v=min aF n)
theorem Mj{n b v:Int}{a:Bool}(h:oA n a v)(e:48<=b/\b<=57):
  oA (if a=s2\/461168601842738790<n then n else 10*n+(b-48)) (a||decide (461168601842738790<n)) (fV v b):=by
 obtain⟨h1,f,j,q⟩:=h;unfold fV oA aF at*;cases a<;>grind
theorem Mk:oA 0 sp 0:=by grind [oA,aF]
theorem Ml{n v:Int}{a:Bool}(h:oA n a v):v=if a=s2\/4611686018427387904<n then 4611686018427387904 else n:=by
 obtain⟨h1,e,f,j⟩:=h
 grind [aF]
structure Cell where
 v:Int
 st:Nat
structure mI where
 i:Nat
 c:Cell
structure uo where
 olds:Nat
 cells:Nat
 st:Nat
structure aD where
 cells:List Cell
 olds:List mI
 marks:List uo
 kP:Nat
def aD.cg(t:aD):Λ:=t.cells.map (·.v)
def aD.set(t:aD)(i:Nat)(x:Int):aD:=match t.cells[i]? with
 |none=>t
 |some c=>match t.marks.getLast? with
  |none=>{t with cells:=t.cells.set i ⟨x,c.st⟩}
  |some m=>if c.st<m.st/\i<m.cells then{t with olds:=t.olds++[⟨i,c⟩],cells:=t.cells.set i ⟨x,m.st⟩}else{t with cells:=t.cells.set i ⟨x,c.st⟩}
def aD.grow(t:aD)(n:Nat):aD:={t with cells:=t.cells++o5 n ⟨0,0⟩}
def back(os:List mI)(cs:List Cell):List Cell:=os.foldr (λo cs=>cs.set o.i o.c) cs
theorem Mm:∀(os:List mI)(cs:List Cell),(back os cs).length=cs.length
 :=by
 intro a;induction a<;>grind [back]
theorem back_append(a b:List mI)(cs:List Cell):back (a++b) cs=back a (back b cs):=by grind [back]
theorem Mn:∀{os:List mI}{cs:List Cell}{n:Nat},(back os cs).take n=back (os.filter λo=>decide (o.i<n)) (cs.take n)
 :=by
 intro a;induction a<;>grind [back,List.take_set,List.take_set_of_le]
theorem Mo{os:List mI}{cs:List Cell}(h:∀o∈os,o.i<n):(back os cs).take n=back os (cs.take n):=by
 grind [Mn,List.filter_eq_self]
theorem B6:∀{os:List mI}{cs a:List Cell}{i:Nat},cs.length=a.length->(∃o∈os,o.i=i)->(back os cs)[i]?=(back os a)[i]?
 |[],_,_,_,_,⟨_,h,_⟩=>by cases h
 |o::os,cs,a,i,e,hm=>by
  show((back os cs).set o.i o.c)[i]?=((back os a).set o.i o.c)[i]?;rw[X7,X7];by_cases h:o.i=i
  .grind [Mm]
  .rw[m5 h,m5 h];obtain⟨x,J,he⟩:=hm;rcases List.mem_cons.1 J with rfl|J
   .omega
   .exact B6 e ⟨x,J,he⟩
theorem Mp:∀{os:List mI}{cs e:List Cell}{i:Nat},cs[i]?=e[i]? ->cs.length=e.length->(back os cs)[i]?=(back os e)[i]?
 :=by
 intro a;induction a<;>grind [back]
def i9:aD->List aD->Prop
 |t,[]=>t.marks=[]/\t.olds=[]/\(∀c∈t.cells,c.st<=t.kP)/\t.kP<=1000000
 |t,s::h=>i9 s h/\(∀c∈t.cells,c.st<=t.kP)/\∃m new,t.marks=s.marks++[m]/\m.olds=s.olds.length/\m.cells=s.cells.length/\t.olds=s.olds++new/\m.cells<=t.cells.length/\(back new t.cells).take m.cells=s.cells/\
   (∀c∈s.cells,c.st<m.st)/\(∀c∈t.cells,c.st<=m.st)/\(∀(i:Nat)c,i<m.cells->t.cells[i]?=σ c->c.st=m.st->∃o∈new,o.i=i)/\(∀o∈new,o.i<m.cells)/\m.st<=t.kP/\s.kP<=t.kP
theorem i9.grow{h:List aD}{t:aD}(hk:i9 t h):i9 (t.grow n) h:=by
 cases h with
 |nil=>
  refine⟨hk.1,hk.2.1,λc a=>?_,hk.2.2.2⟩;rcases j5.1 a with a|a
  .exact hk.2.2.1 c a
  grind
 |cons s h=>
  obtain⟨h1,f,m,new,j,q,a3,a4,a5,A,r,w,a9,x,y,z⟩:=hk;have e:∀{b:Nat},(∀c∈t.cells,c.st<=b)->∀c∈(t.grow n).cells,c.st<=b:=λB c a=>by
   rcases j5.1 a with a|a
   all_goals grind
  refine⟨h1,e f,m,new,j,q,a3,a4,by show m.cells<=(t.cells++_).length;grind,?_,r,e w,λi c hi a he=>?_,x,y,z⟩
  .show (back new (t.cells++_)).take m.cells=_
   grind [Mo]
  .have a:(t.cells++o5 n ⟨0,0⟩)[i]?=σ c:=a
   grind
theorem Mq{s:aD}{m:uo}{l:List uo}(h:l=s.marks++[m]):l.getLast? =σ m:=by grind
theorem i9.set{h:List aD}{t:aD}{i:Nat}{x:Int}(hk:i9 t h):i9 (t.set i x) h:=by
 unfold aD.set;cases y:t.cells[i]? with
 |none=>exact hk
 |some c=>
  have L:=(x6.1 y).1;have f:=x7 y;have e:∀{b st:Nat},(∀c∈t.cells,c.st<=b)->st<=b->∀d∈t.cells.set i ⟨x,st⟩,d.st<=b:=by grind
  cases h with
  |nil=>
   obtain⟨h1,a,z,G⟩:=hk;simp only[h1,List.getLast?_nil];exact⟨rfl,a,e z (z c f),G⟩
  |cons s h=>
   obtain⟨h1,a,m,new,q,A,a3,a4,a5,H,B,C,a9,I,r,E⟩:=hk;simp only[Mq q];by_cases F:c.st<m.st/\i<m.cells
   .rw[m3 F];refine⟨h1,e a r,m,new++[⟨i,c⟩],q,A,a3,by grind,by grind,?_,B,by grind,λj d J w he=>?_,λo aC=>?_,r,E⟩
    .show (back (new++[⟨i,c⟩]) (t.cells.set i _)).take m.cells=_;rw[back_append];have:back [⟨i,c⟩] (t.cells.set i ⟨x,m.st⟩)=t.cells:=by
      show(t.cells.set i _).set i c=_;rw[List.set_set];refine Y3 λj=>?_
      grind
     grind
    .have w:(t.cells.set i ⟨x,m.st⟩)[j]?=σ d:=w;by_cases K:i=j
     .exact⟨⟨i,c⟩,Ξ,K⟩
     grind
    grind
   .rw[m5 F];refine⟨h1,e a (a c f),m,new,q,A,a3,a4,by grind,?_,B,e C (C c f),λj d J w he=>?_,I,r,E⟩
    .rw[<-H];show(back new (t.cells.set i _)).take m.cells=_;refine Y3 λj=>?_
     grind [B6,Mp]
    grind
theorem aD.r3{t:aD}{i:Nat}{x:Int}:(t.set i x).cg=t.cg.set i x:=by
 grind [aD.set,aD.cg,List.set_eq_of_length_le,U2]
theorem aD.Mr{t:aD}:(t.grow n).cg=t.cg++o5 n 0:=by
 grind [aD.grow,aD.cg,List.map_replicate]
end Go.Proofs.YtlcdcbgoaljiiaaGreatDoor
namespace Go.Vc
open Go Go.RowKit
section
variable{P:W0}{w:x5}{m:Bool}{S R:ak}
theorem uq{b k l:Nat}{low high:Option x4}(j:P.underlying t=σ (.slice e))(hi:aV P e k b z)(ac:cq w k v n cs)(h1:nL low l)(q:nM high n h)(a:l<=h)(ax:h<=n)(r:∀f,cq w k f (h-l) ((cs.drop (l*k)).take ((h-l)*k))->K f):
  ad P (V5 t v low high ν) w K:=by
 have s:=ac;obtain⟨_,x,o,base,cap,rfl,y,_⟩:=ac;rw[iI j hi h1 q fD a Ω (o6 _)];exact r _ (cq.part s a ax Ω (o6 _))
theorem Ms{f:o8}{b i:Nat}(j:y=(i:Int))(q:P.underlying t=σ (.slice e))(hi:aV P e 1 b z)(h:aQ k w v l)(r:i<=l.length)(s:∀a,aQ k w a (l.drop i)->K a):ad P (V5 t v (σ (.int f y)) ν ν) w K:=by
 refine uq q hi h (pw i y j) la r (o6 _) λa be=>s a (aQ.of (n:=l.length-i) ?_);have x:((ints k l).drop (i*1)).take ((l.length-i)*1)=ints k (l.drop i):=by
  rw[j9 Ξ,U3,ints,<-List.map_drop]
 rw[x]at be;exact be
theorem Mt{f:o8}{b i:Nat}(j:y=(i:Int))(q:P.underlying t=σ (.slice e))(hi:aV P e 1 b z)(h:aQ k w v l)(r:i<=l.length)(s:∀a,aQ k w a (l.take i)->K a):ad P (V5 t v ν (σ (.int f y)) ν) w K:=by
 refine uq q hi h kl (px i y j) (X9 _) r λa be=>s a (aQ.of (n:=i) ?_);have x:((ints k l).drop (0*1)).take ((i-0)*1)=ints k (l.take i):=by
  simp[ints,List.map_take]
 rw[x]at be;exact be
theorem oB{b:Nat}{parts:Array (Nat×x4)}{K:x4->x5->Prop}(a:P.underlying t=σ (.slice e))(hi:aV P e 1 b (Δ 0))(s:n<=100000)(f:l.length=n)(ah:Instr.fill (λj=>σ (j*1,1)) ((Array.range (n*1)).map ((if n*1=0 then#[]else(V3 .i64 0).cells)[·% (if n*1=0 then#[]else(V3 .i64 0).cells).size]!)) parts.toList=σ (ints .i64 l).toArray)(h:∀v g I,g=w.heap.size->Ext w I->aH .i64 e I g v l->K v I):aM P (Y4 t n parts) w K:=
 lb a hi Ω ah λg I q J r=>h _ g I q J (aH.of (cf.full (by simpa using r) (by simp[f]) (by simp[maxLen];omega)))
end
section
variable{P:W0}{w:x5}
theorem Mu{h q:o4}{r kn:o8}{b k cap:Nat}{base:Option Addr}{K:x4->x5->Prop}(A:y=(k:Int))(B:P.underlying t=σ (.slice e))(C:P.underlying h=σ (.int kn))(hi:aV P e 1 b z)(E:z.cells= #[z])(V:cq w 1 (.slice base n cap) n xs)(F:0<k)(s:cap<n+k)(G:(n+k)*b<=140737488355328)(H:n+k<=9223372036854775807)(J:∀v g I,g=w.heap.size->Ext w I->cf I g e 1 v (n+k) (xs++o5 k z)->K v I):aM P (b9 #[t,h] q #[.slice base n cap,.int r y]) w K:=by
 subst A;obtain⟨i,hi,L,rfl,M⟩:=hi;obtain⟨f,Y,o,Z,aa,he,N,ab,O,Q⟩:=V;cases he;have R:(Z0.firstCells i.size n (.slice base n cap)).run P w.drew= .ok xs.toArray w.drew:=by
  rcases Nat.eq_zero_or_pos n with rfl|S
  .have:xs=[]:=j6 (by simpa using f);subst this;cases base with
   |none=>exact run_firstCells_none w.drew i.size 0 0 cap
   |some a=>exact run_firstCells_some w.drew i.size 0 a 0 cap [] Ξ Ξ
  .have:=O S;subst this;refine run_firstCells_some w.drew i.size n _ n cap xs (by rw[L];exact f) λj u hu=>?_;rw[U8];exact Q j u hu
 have T:k*i.bytes<=281474976710656:=by
  have:k*i.bytes<=(n+k)*i.bytes:=V4 _ Ω;omega
 have U:=Lib.run_append_grow_zeros (P:=P) w t h q e i z r kn B C hi M base n cap xs R k F Ω s Ω T (growslice_fits s G);have W:n+k<=grownCap w (n+k) cap e:=grownCap_ge w _ _ _;have X:grownCap w (n+k) cap e<=maxLen:=grownCap_le_maxLen w (n+k) cap e (by simpa[maxLen]using H);have x:∀m,Z0.zeroCells z.cells m=(o5 m z).toArray:=λm=>by
  rw[E];apply Array.ext
  .simp[size_zeroCells]
  .intro j h1 N;simp[Z0.zeroCells,Nat.mod_one]
 refine .of U ((rz w _ (Nat.le_succ _)).F (rB _ _)) (J _ w.heap.size _ rfl ((tu w _).F (rA _ _)) ⟨by simp at f;simp[f],.inr ⟨_,xs++o5 k z++o5 (grownCap w (n+k) cap e-(n+k)) z,rfl,?_,W,X,?_,?_⟩⟩)
 .rw[x,x];have:=heap_alloc_new w.drew (.cells (xs.toArray++(o5 k z).toArray++(o5 (grownCap w (n+k) cap e-(n+k)) z).toArray) e);rw[List.append_toArray,List.append_toArray]at this ⊢;exact this
 .simp at f;simp[f];omega
 .simp at f;rw[List.take_append_of_le_length (by simp[f]),j9 (by simp[f])]
theorem B7{a:o4}{base:Option Addr}(f:P.underlying t=σ (.slice e)):
  ad P (Z0.cap_ #[t] a #[.slice base n c]) w K=K (Δ c):=ad.of λI _=>by simp[Z0.cap_,run_underlying f,goInt]
theorem Mv{g o k:Nat}(h:aj w g e cs)(hk:o+k<=cs.length)(a:k<=c)(f:c<=maxLen):cq w 1 (.slice (σ ⟨g,o,ν⟩) k c) k ((cs.drop o).take k):=by
 refine⟨Θ,g,o,_,c,rfl,a,f,λ_=>rfl,λj v ac=>?_⟩;have q:=(x6.1 ac).1;simp at q;rw[V1 Ω,List.getElem?_drop]at ac;exact h.cell ac
theorem B8{h q:o4}{s g o cap:Nat}{K:x4->x5->Prop}(x:P.underlying t=σ (.slice e))(hi:aV P e 1 s z)(y:z.cells= #[z])(h1:z.oneCell'=s2)(a:aj w g q cs)(A:0<n)(G:o+n<=cs.length)(B:∀I,ai (λr=>r=g) w I->I.heap.size=w.heap.size->aj I g q (over cs o (o5 n z))->K (.tuple #[]) I):aM P (Z0.clear_ #[t] h #[.slice (σ ⟨g,o,ν⟩) n cap]) w K:=by
 obtain⟨i,hi,H,rfl,C⟩:=hi;have E:=Lib.run_clear_slice (P:=P) w t e h z x (λw=>by simp[zeroValue,typeInfo,hi,C]) y h1 g o n cap A
  (λj J=>by rw[a.cell (v8 (show o+j<cs.length by omega))];rfl) (λj _=>a.frozen _ _)
 obtain⟨F,f⟩:=pz (o5 n z) cs o w a;exact .of E (f.cR a) (B _ f.ab f.size F)
end
section
variable{P:W0}{w:x5}
theorem ju{a:o4}{f:o8}{i b g:Nat}(j:y=(i:Int))(q:P.underlying t=σ (.slice e))(hi:aV P e 1 b z)(h:aH k a w g v l)(r:i<l.length):ad P (n9 t v (.int f y)) w K=K (.pointer (σ ⟨g,i,ν⟩)):=by
 subst j;obtain⟨_,⟨_,s⟩|⟨cap,cs,rfl,_⟩⟩:=h
 .omega
 .rw[e5 q hi r (λ_=>rfl)];simp
theorem nR{a:o8}{i b:Nat}{x:Int}(f:y=(i:Int))(j:P.underlying t=σ (.slice e))(hi:aV P e 1 b z)(h:aQ k w v l)(J:l[i]?=σ x)(q:∀b o,w.cell? ⟨b,o,ν⟩=σ (.int k x)->K (.pointer (σ ⟨b,o,ν⟩))):ad P (n9 t v (.int a y)) w K:=by
 subst f;have r:=(x6.1 J).1;obtain⟨_,_,_,_,_,rfl,_,_,s,A⟩:=h;rw[e5 j hi r s,U3];exact q _ _ (A i _ (mC J))
theorem jv{a:o4}{i b g:Nat}{x:Int}{K:Unit->x5->Prop}(hi:aV P e 1 b z)(h:aH k a w g v l)(B:i<l.length)(f:∀I,ai (λr=>r=g) w I->I.heap.size=w.heap.size->aH k a I g v (l.set i x)->K () I):aM P (o7 e (.pointer (σ ⟨g,i,ν⟩)) (.int k x)) w K:=by
 obtain⟨C,⟨_,E⟩|⟨cap,full,rfl,j,F,q,G,H⟩⟩:=h
 .omega
 .have s:i<full.length:=Ω
  refine bw hi rfl rfl j s λI y V A=>f I y V ⟨Ξ,.inr ⟨cap,full.set i (.int k x),Ξ,A,by grind,q,by grind,?_⟩⟩
  grind [List.take_set,U2]
theorem ur{b o:Nat}(a:k9 P t=s2)(h:w.cell? ⟨b,o,ν⟩=σ v):ch P (u5 t (.pointer (σ ⟨b,o,ν⟩))) v w:=λI J=>by
 have be:=kk J h;unfold k9 at a;cases hu:P.underlying t with
 |none=>grind
 |some d=>
  rw[hu]at a;cases d<;>first|(cases a;done)|simp[u5,Instr.sureAddr,loadVar,isAgg,run_underlying hu,be]
theorem jw{S:ak}(h:aQ k w v l)(J:ai S w I)(y:∀r,S r->∀a n c,v= .slice (σ a) n c->a.block≠r):aQ k I v l:=by
 obtain⟨h1,b,o,base,cap,rfl,q,s,e,z⟩:=h;refine⟨h1,b,o,base,cap,rfl,q,s,e,?_⟩;rcases Nat.eq_zero_or_pos l.length with f|f
 .intro j u hu
  grind
 .have x:=e f;subst x
  grind [iH]
end
end Go.Vc
namespace Go.Vc
open Go Go.RowKit Go.ChangeShapes Go.WideShapes
structure oC(P:W0)(t:o4)(α:Type)[aw α](G:α->Prop):Prop where
 op:∀{H:Type}{enc:o4×x4->H}{w:x5}{base:Nat}{spare:Nat->Bool}{held:Bool}{fuel:Nat}{cs:List x4}{x:DataW H×List MemPlace},
  DataW.trod enc P w base spare held fuel t cs=σ x->∃a:α,Seen eW w cs a/\G a
section
variable{P:W0}{α β:Type}[aw α][aw β]
theorem B9{n:Int}(h:(Lit.int k n).wf=s2):k.min<=n/\n<=k.max:=by grind [Lit.wf]
theorem Mw(a:P.underlying t=σ (.int k)):oC P t (nP k) λn=>k.min<=n.val/\n.val<=k.max:=⟨λh=>by
 obtain⟨n,rfl,_,hw⟩:=DataW.trod_int a h;exact⟨(n:Int),rfl,B9 hw⟩⟩
theorem ut(a:P.underlying t=σ (.int .i64)):oC P t Int λn=>X5.min<=n/\n<=X5.max:=⟨λh=>by
 obtain⟨n,rfl,_,hw⟩:=DataW.trod_int a h;exact⟨n,rfl,B9 hw⟩⟩
theorem Mx(a:Addr)(m n:Nat):(a.add m).add n=a.add (m+n):=by
 grind [Addr.add]
theorem My{base:Nat}{a:Addr}(h:w.cells? base a n=σ cs):cs.length=n/\∀j v,cs[j]?=σ v->w.cell? (a.add j)=σ v:=by
 unfold x5.cells? at h;split at h
 .have e:cs.length=n:=by
   have:=mapM_some_length h
   grind
  refine⟨e,λj v ac=>?_⟩;have f:=(x6.1 ac).1;have:=mapM_some_get h j j (List.getElem?_range Ω)
  grind
 .cases h
theorem Mz{G:α->Prop}(F:P.underlying t=σ (.slice e))(he:oC P e α G)(I:P.cellsOf e=aw.n α)(N:0<aw.n α):oC P t (List α) λl=>∀a∈l,G a:=by
 constructor;intro H enc w base O Q fuel cs x h;rcases DataW.trod_slice F h with⟨rfl,_⟩|⟨a,len,cap,R,rest,n,_,rfl,rfl,S,T,hm,U,J,_,_⟩
 .exact⟨[],gH,by grind⟩
 .
  have B:∀i,i<len->∃(c:List x4)(y:α),c.length=aw.n α/\(∀j v,c[j]?=σ v->w.cell? (a.add (i*aw.n α+j))=σ v)/\Seen eW w c y/\G y:=by
   intro i hi;have h1:=J i hi;rw[v8 Ω,I,Option.bind_eq_some_iff]at h1;obtain⟨c,f,q⟩:=h1;obtain⟨C,r⟩:=My f;obtain⟨y,s,V⟩:=he.op q
   grind [Mx]
  have all:∀m,m<=len->∃(vs:List (List x4))(l:List α),vs.length=m/\l.length=m/\(∀c∈vs,c.length=aw.n α)/\(∀(j:Nat)(v:x4),vs.flatten[j]?=σ v->w.cell? (a.add j)=σ v)/\
    (∀(i:Nat)(c:List x4)(y:α),vs[i]?=σ c->l[i]?=σ y->Seen eW w c y)/\∀y∈l,G y:=by
   intro m;induction m with
   |zero=>exact λ_=>⟨[],[],rfl,rfl,by grind,by grind,by grind,by grind⟩
   |succ m K=>
    intro hm;obtain⟨vs,l,h1,f,q,C,r,s⟩:=K Ω;obtain⟨c,y,g1,E,W,X⟩:=B m Ω;refine⟨vs++[c],l++[y],by simp[h1],by simp[f],λd L=>?_,λj v ac=>?_,λi d z L M=>?_,λz M=>?_⟩
    .grind
    .have A:=uh q
     grind
    all_goals grind
  obtain⟨vs,l,h1,f,q,C,r,s⟩:=all len (o6 _);have A:=uh q;rw[h1]at A;have Y:0<len->a=⟨a.block,a.off,ν⟩:=λZ=>by
   obtain⟨c,y,g1,E,_⟩:=B 0 Ω;have:=E 0 c[0] (v8 Ω);rw[Nat.zero_mul]at this;exact xh this
  refine⟨l,⟨_,rfl,vs,0,λ_ _=>False,⟨by grind,by grind,by grind⟩,⟨Ω,r⟩,⟨by rw[A,f],a.block,a.off,σ a,cap,by rw[f],Ω,hm,by grind,by grind,λj v ac=>?_⟩,by grind⟩,s⟩
  grind [U8]
structure uu(P:W0)(fs:List Field)(off:Nat)(α:Type)[aw α](G:α->Prop):Prop where
 op:∀{H:Type}{enc:o4×x4->H}{w:x5}{base:Nat}{spare:Nat->Bool}{held:Bool}{n:Nat}{cs:List x4},cs.length=off+aw.n α->
  (∀f∈fs,∃x,DataW.trod enc P w base spare held n f.type ((cs.drop f.offset).take (P.cellsOf f.type))=σ x)->∃a:α,Seen eW w (cs.drop off) a/\G a
theorem MA{f:Field}{e:Nat}{G:α->Prop}(h:oC P f.type α G)(aC:f.offset=e)(j:P.cellsOf f.type=aw.n α):uu P [f] e α G:=by
 constructor;intro H enc w base q r n cs s ah;obtain⟨x,J⟩:=ah f (.head _);obtain⟨a,h1,y⟩:=h.op J
 grind [j9]
theorem uv{f:Field}{j:List Field}{e:Nat}{G:α->Prop}{q:β->Prop}(h:oC P f.type α G)(aC:f.offset=e)(r:P.cellsOf f.type=aw.n α)(s:uu P j (e+aw.n α) β q):
  uu P (f::j) e (α×β) λp=>G p.1/\q p.2:=by
 constructor;intro H enc w base C E n cs F ah;obtain⟨x,J⟩:=ah f (.head _);obtain⟨a,h1,y⟩:=h.op J;rw[aC,r]at h1;have I:aw.n (α×β)=aw.n α+aw.n β:=rfl;obtain⟨b,z,A⟩:=s.op Ω λg B=>ah g (.tail _ B);refine⟨(a,b),⟨(cs.drop e).take (aw.n α),cs.drop (e+aw.n α),λ_=>False,λ_=>False,?_,λ_ h=>h,λ_ h=>h,by grind,h1,z⟩,y,A⟩;rw[<-List.drop_drop,List.take_append_drop]
theorem MB{a:List Field}{G:α->Prop}(e:P.underlying t=σ (.struct a.toArray))(ah:uu P a 0 α G)(s:P.cellsOf t=aw.n α):oC P t α G:=by
 constructor;intro H enc w base y z fuel cs x h;obtain⟨xs,n,_,rfl,A,B,j⟩:=DataW.trod_struct e h;have:=ah.op (cs:=cs) Ω λf q=>by
  obtain⟨i,hi,rfl⟩:=List.mem_iff_getElem.1 q;have r:i<xs.length:=by grind
  have:=j i a[i] (by simp[hi]);rw[v8 r]at this;exact⟨_,this⟩
 grind
end
end Go.Vc
namespace Go.Vc
open Go Go.RowKit
set_option maxRecDepth 100000
theorem MC:(⟨#[]⟩:ByteArray)=strOfNums []:=rfl
theorem Ca{aA:x4->x4->x4->x5->Prop}{B:(x4->x4->x4->x5->Prop)->Prop}(G:x4->x4->x4->x5->Prop)(h1:∀t u v w,G t u v w->aA t u v w)(e:∀a:x4->x4->x4->x5->Prop,(∀t u v w,G t u v w->a t u v w)->B a):cG aA B:=e aA h1
theorem Cb{aA:x4->x4->x4->x4->x5->Prop}{B:(x4->x4->x4->x4->x5->Prop)->Prop}(G:x4->x4->x4->x4->x5->Prop)(h1:∀s t u v w,G s t u v w->aA s t u v w)(e:∀a:x4->x4->x4->x4->x5->Prop,(∀s t u v w,G s t u v w->a s t u v w)->B a):cG aA B:=e aA h1
abbrev cp(l:Λ):x4:=.string (strOfNums l)
def Bytes(l:Λ):Prop:=∀b∈l,0<=b/\b<256
theorem oD(l:Λ):(strOfNums l).size=l.length:=strOfNums_size l
theorem MD(h:Bytes l){i:Nat}{b:Int}(hi:l[i]?=σ b):(strOfNums l)[i]?=σ (UInt8.ofNat b.toNat)/\((UInt8.ofNat b.toNat).toNat:Int)=b:=by
 have f:=h b (x7 hi);have e:=x6.1 hi;refine⟨?_,by rw[UInt8.toNat_ofNat'];omega⟩;have V:i<(strOfNums l).size:=by rw[oD];exact e.1
 rw[getElem?_pos (strOfNums l) i V];congr 1;show(strOfNums l).data[i]=_;have a:(strOfNums l).data.toList[i]?=σ (UInt8.ofNat b.toNat):=by rw[strOfNums_data,u4,hi];rfl
 rw[Array.getElem?_toList]at a;exact(Y2.1 a).2
theorem str_inj{a b:Λ}(e:Bytes a)(f:Bytes b)(h:strOfNums a=strOfNums b):a=b:=by
 have h1:(strOfNums a).data.toList=(strOfNums b).data.toList:=by rw[h]
 rw[strOfNums_data,strOfNums_data]at h1;have key:∀{l:Λ},Bytes l->(l.map λn=>UInt8.ofNat n.toNat).map (λu=>((u.toNat:Nat):Int))=l:=λ{l}j=>by
  rw[T5]
  conv=>rhs;rw[<-List.map_id l]
  refine List.map_congr_left λx J=>?_;have:=j x J;show(((UInt8.ofNat x.toNat).toNat:Nat):Int)=x;rw[UInt8.toNat_ofNat'];omega
 rw[<-key e,<-key f,h1]
theorem ME(a b:Λ):strOfNums a++strOfNums b=strOfNums (a++b):=by
 apply ByteArray.ext;rw[ByteArray.data_append];simp[strOfNums]
theorem MF(l:Λ)(i j:Nat):(strOfNums l).extract i j=strOfNums ((l.take j).drop i):=by
 apply ByteArray.ext;rw[ByteArray.data_extract];apply Array.toList_inj.1;rw[Array.toList_extract];simp[strOfNums,List.extract_eq_take_drop,List.map_drop,List.map_take,List.drop_take]
theorem Cc(l:Λ):(strOfNums l).toList=l.map λn=>UInt8.ofNat n.toNat:=by
 rw[ByteArray.toList_eq];exact strOfNums_data l
theorem Cd{a b:Λ}(e:Bytes a)(f:Bytes b):((strOfNums a).toList == (strOfNums b).toList)=decide (a=b):=by
 rw[V9,beq_iff_eq,ro,Cc,Cc];refine⟨λh=>str_inj e f ?_,λh=>by rw[h]⟩;unfold strOfNums;rw[h]
section
variable{P:W0}{w:x5}
theorem pG{a:o4}(e:P.underlying t=σ .string):ad P (X8 #[t] a #[cp l]) w K=K (Δ l.length):=ad.of λI _=>by
 simp[X8,run_underlying e,goInt,oD]
theorem r4{b:Int}{i:Nat}(a:y=(i:Int))(f:P.underlying t=σ .string)(h:Bytes l)(hi:l[i]?=σ b):ad P (Instr.index t (cp l) (.int k y)) w K=K (.int .u8 b):=ad.of λI _=>by
 subst a;obtain⟨h1,j⟩:=MD h hi;have e:(0:Int)<=(i:Int):=Ω
 simp only[Instr.index,asIntOf,W6,V2,W9,run_underlying f];rw[m3 e,u7,h1];simp only[V2,j]
theorem xp{a b:Λ}(h:a.length+b.length<=9223372036854775807):ad P (aT .add t cx cy (cp a) (cp b)) w K=K (cp (a++b)):=ad.of λI _=>by
 have:=run_string_add_sum (P:=P) (w:=I) (strOfNums a) (strOfNums b) (by rw[oD,oD];exact h);simp only[aT,eqGuard,binOp];simp[this,ME]
theorem Ce{a b:Λ}(e:Bytes a)(f:Bytes b):ad P (aT .eql t cx cy (cp a) (cp b)) w K=K (.bool (decide (a=b))):=ad.of λI _=>by
 simp[aT,eqGuard,binOp,Op.stringOp,Cd e f]
theorem MG{a b:Λ}(e:Bytes a)(f:Bytes b):ad P (aT .neq t cx cy (cp a) (cp b)) w K=K (.bool (decide (a≠b))):=ad.of λI _=>by
 simp[aT,eqGuard,binOp,Op.stringOp,Cd e f]
theorem Cf{i:Nat}(a:y=(i:Int))(f:P.underlying t=σ .string)(hi:i<=l.length):ad P (V5 t (cp l) (σ (.int k y)) ν ν) w K=K (cp (l.drop i)):=ad.of λI _=>by
 have j:=ue (P:=P) I (sl:=sp) (n:=(strOfNums l).size) (c:=(strOfNums l).size) (low:=σ (.int k y)) (high:=ν) (mx:=ν) (l:=i) (h:=(strOfNums l).size) (m:=(strOfNums l).size) (pw i y a) la fD (by rw[oD];exact hi) (o6 _) (o6 _);have e:(strOfNums l).extract i (strOfNums l).size=strOfNums (l.drop i):=by rw[MF,oD,o9]
 simp[V5,Instr.slice,run_underlying f,j,e]
theorem xq{s:o4}(V:P.underlying s=σ (.slice e))(he:P.underlying e=σ (.int .u8))(f:P.underlying t=σ .string)(h:aQ .u8 w v l):ad P (convert s t v) w K=K (cp l):=ad.of λI J=>by
 obtain⟨q,b,o,base,cap,rfl,_,_,x,y⟩:=h.W J;have q:l.length=l.length*1:=by simpa using q
 by_cases z:0<l.length
 .rw[x z];refine run_convert_bytes_arg I s e V he b o l.length cap l rfl (λi hi=>?_) t f;have r:l[i]?=σ l[i]:=v8 hi;rw[r8,r];exact y i _ (mC r)
 .have A:l=[]:=j6 Ω;subst A;cases base with
  |none=>
   rw[run_convert_bytes_nil I s e V he _ _ t f];rfl
  |some a=>
   rw[run_convert_bytes_string I s t e _ _ _ V he f];have:=run_bytesToString (P:=P) I a 0 cap [] (by have:=run_loadCells_list (P:=P) I a [] (λj v B=>by simp at B);simpa using this);simp only[List.length_nil];rw[this];rfl
theorem xr{s:o4}{u:TypeDesc}{K:x4->x5->Prop}(V:P.underlying s=σ u)(y:P.underlying t=σ (.slice e))(he:P.underlying e=σ (.int .u8))(z:Bytes l)(hm:l.length<=1000000000)(A:∀v I,Ext w I->aQ .u8 I v l->(∀r,(∃a n c,v= .slice (σ a) n c/\a.block=r)->w.heap.size<=r)->K v I):aM P (convert s t (cp l)) w K:=by
 have B:=Lib.bytesWorld_at_new w e (strOfNums l);have q:=λj f=>Lib.bytesWorld_at_old w e (strOfNums l) j f;have C:=Lib.bytesWorld_size w e (strOfNums l);refine .of (Lib.run_convert_string_bytes w s t e (strOfNums l) V y he) ⟨rfl,⟨rfl,Nat.le_succ _⟩,rfl,Ω,λr o h _=>?_⟩ (A _ _ ⟨Ω,λr o h _=>?_⟩ ?_ ?_)
 .rw[q r (Y2.1 h).1];exact h
 .rw[q r (Y2.1 h).1];exact h
 .rw[oD];refine⟨Ξ,w.heap.size,0,_,_,rfl,?_,?_,λ_=>rfl,λj v ac=>?_⟩
  .exact grownCap_ge w _ _ _
  .exact grownCap_le_maxLen w _ _ _ (by simp[maxLen];omega)
  .have f:j<l.length:=by have:=(x6.1 ac).1;simpa using this
   have x:l[j]?=σ l[j]:=v8 f;rw[V0,Lib.bytesWorld_cell w e (strOfNums l) j (by rw[oD];exact f)];rw[mC x]at ac;rw[<-Z5 ac,strOfNums_data,r8,u4,x];have:=z l[j] (S2 f);simp only[Y7,Option.getD_some];congr 2;rw[UInt8.toNat_ofNat'];omega
 .rintro r ⟨a,n,c,h1,rfl⟩;cases h1;exact o6 _
end
end Go.Vc
namespace Go.Proofs.YtlcdcbgoaljiiaaGreatDoor
open Go Go.Vc Go.RowKit Go.Proofs Go.Proofs.Tryz
set_option maxRecDepth 100000
theorem Cg{b:Int}(h:c4 b=s2):ck b=sp:=by
 have h:=rs h
 grind [ck]
theorem Ch{b:Int}{p:Λ}(h:c4 b=s2):lex (b::p)=lex p:=by
 grind [mH,List.dropWhile_cons]
theorem MH{b:Int}{p:Λ}(h:c4 b=sp)(a:ck b=sp):lex (b::p)=([],sp):=by
 grind [mH,List.dropWhile_cons]
theorem Ci{b:Int}{p:Λ}(h:ck b=s2):lex (b::p)=match p.dropWhile ck with
  |[]=>([b::p.takeWhile ck],s2)
  |c::r=>if c4 c then((b::p.takeWhile ck)::(lex (c::r)).1,(lex (c::r)).2)else([],sp):=by
 grind [Cg,mH,List.takeWhile_cons,List.dropWhile]
def ko:Λ->List (Λ)->Λ->Bool->List (Λ)×Bool
 |[],out,w,op=>(if op then out++[w]else out,s2)
 |b::p,out,w,op=>
  if c4 b then ko p (if op then out++[w]else out) [] sp
  else if ck b then ko p out (if op then w++[b]else[b]) s2
  else(out,sp)
theorem r5:∀(p:Λ)(out:List (Λ))(w:Λ),ko p out w sp=(out++(lex p).1,(lex p).2)/\
  ko p out w s2=match p.dropWhile ck with
   |[]=>(out++[w++p.takeWhile ck],s2)
   |c::r=>if c4 c then(out++[w++p.takeWhile ck]++(lex (c::r)).1,(lex (c::r)).2)else(out,sp)
 |[],out,w=>by simp[ko,mH []]
 |b::p,out,w=>by
  by_cases V:c4 b=s2
  .have hw:=Cg V;refine⟨?_,?_⟩
   .rw[ko,m3 V,(r5 p _ _).1,Ch V];simp
   .rw[ko,m3 V,m3 rfl,(r5 p _ _).1,List.dropWhile_cons,m5 (by simp[hw])]
    grind [List.takeWhile_cons,Ch]
  .have a:c4 b=sp:=by grind
   by_cases hw:ck b=s2
   .refine⟨?_,?_⟩
    .rw[ko,m5 V,m3 hw,m5 Ξ,(r5 p _ _).2,Ci hw];cases p.dropWhile ck<;>grind
    .rw[ko,m5 V,m3 hw,m3 rfl,(r5 p _ _).2,List.dropWhile_cons,m3 hw,List.takeWhile_cons,m3 hw]
     grind
   grind [ko,MH,List.dropWhile_cons]
theorem MI(p:Λ):ko p [] [] sp=lex p:=by grind [r5]
def qM:Nat->Nat->Λ
 |0,_=>[]
 |k+1,n=>(if n<10 then[]else qM k (n / 10))++[48+((n % 10:Nat):Int)]
def gI(n:Nat):Λ:=qM (n+1) n
theorem Cj:∀{k m n:Nat},n<k->n<m->qM k n=qM m n
 |k+1,m+1,n,h1,a=>by
  unfold qM;by_cases h:n<10
  .grind
  .rw[m5 h,m5 h,Cj (k:=k) (m:=m) (n:=n / 10) Ω Ω]
theorem pH(n:Nat):gI n=(if n<10 then[]else gI (n / 10))++[48+((n % 10:Nat):Int)]:=by
 grind [gI,qM,Cj]
theorem Ck:∀(k n:Nat),n<k->∀b∈gI n,48<=b/\b<=57
 |k+1,n,hk,b,a=>by
  rw[pH]at a;rcases j5.1 a with a|a
  .by_cases h:n<10
   .grind
   .rw[m5 h]at a;exact Ck k (n / 10) Ω b a
  grind
theorem Cl(n:Nat):∀b∈gI n,48<=b/\b<=57:=Ck (n+1) n Ω
def r6(l:Λ):Int:=l.foldl (λn b=>10*n+(b-48)) 0
theorem MJ(l:Λ)(b:Int):r6 (l++[b])=10*r6 l+(b-48):=by simp[r6]
theorem xt:∀(k n:Nat),n<k->r6 (gI n)=n
 |k+1,n,hk=>by
  rw[pH,MJ];by_cases h:n<10
  .grind [r6]
  .rw[m5 h,xt k (n / 10) Ω];omega
theorem MK{a b:Nat}(h:gI a=gI b):a=b:=by
 have h1:=xt (a+1) a Ω;have e:=xt (b+1) b Ω
 grind
theorem xu:∀(k n:Nat),n<10 ^ k->1<=k->(gI n).length<=k
 |k+1,n,h,_=>by
  rw[pH,c9];by_cases a:n<10
  .grind
  .rw[m5 a];have hk:1<=k:=by
    grind
   have ae:(10:Nat) ^ (k+1)=10*10 ^ k:=Ω
   have:=xu k (n / 10) Ω hk
   grind
def eY(t:Λ):Λ:=t.flatMap λv=>gI v.toNat++[32]
theorem ML(t:Λ)(v:Int):eY (t++[v])=eY t++(gI v.toNat++[32]):=by simp[eY]
theorem Cm{r:Λ}(a:∀b∈l,b≠32):(l++32::r).takeWhile (λb=>decide (b≠32))=l/\(l++32::r).dropWhile (λb=>decide (b≠32))=32::r:=by
 induction l<;>grind [List.takeWhile_cons,List.dropWhile_cons]
theorem Cn:∀{a b:Λ},(∀x∈a,0<=x)->(∀x∈b,0<=x)->eY a=eY b->a=b
 |[],[],_,_,_=>rfl
 |[],y::b,_,_,h=>by simp[eY]at h
 |x::a,[],_,_,h=>by simp[eY]at h
 |x::a,y::b,j,q,h=>by
  have e:∀(z:Int)(l:Λ),eY (z::l)=gI z.toNat++32::eY l:=by grind [eY]
  rw[e,e]at h;have d:∀z:Int,∀c∈gI z.toNat,c≠32:=λz c s=>by have:=Cl _ c s;omega
  have s1:=Cm (r:=eY a) (d x);have f:=Cm (r:=eY b) (d y);rw[h]at s1;have w:=s1.1.symm.F f.1;have A:=s1.2.symm.F f.2;have J:=j x (.head _);have C:=q y (.head _);have:=MK w;have B:x=y:=Ω
  subst B;rw[Cn (by grind) (by grind) (List.cons.inj A).2]
theorem Co(t:Λ):Bytes (eY t):=λb a=>by
 obtain⟨v,_,a⟩:=List.mem_flatMap.1 a;rcases j5.1 a with a|a
 .have:=Cl _ b a;omega
 grind
end Go.Proofs.YtlcdcbgoaljiiaaGreatDoor
