/- own texts, made small by a tool (wip/ holds them as they were written): no statement of the seat. -/
import Derived.RangeFuncNested
import Derived.RangeFuncLeaves
import Derived.OrdersIn
import Derived.KernelRfl
import Derived.Deep.Upon
import Derived.RangeFuncBound
import Derived.Deep.MidRow
import Derived.Laws.Cover3
import Derived.Laws.Pointers
import Derived.Laws.StructEq
import Derived.Laws.Tables
import Derived.Below
import Derived.Laws.MakeOwn
import Derived.Lib.Overlaps
import Derived.Lib.AppendZerosOnto
import Derived.Lib.SliceRun
import Derived.OpenShut
import Derived.Lib.ConvBytes
import Derived.Laws.BytesArg
import Derived.Laws.Concat
import Derived.MapKept
import Derived.Carry
import Derived.WideKeyArr
import Derived.WideKeyMaps
import Derived.Laws.IdiomRangeMap
import Derived.Shelf.SlSortCmp.NoneTotal
import Derived.Shelf.SlSortCmp.WholeK
import Derived.Ground.SlsfProg
import Derived.WideKeyEntry
import Derived.WalkKit
import Derived.Test.YtlcdcbgoaljiiaaGreatDoorProg
import Derived.Test.YtlcdcbgoaljiiaaGreatDoorChecked
set_option linter.unusedVariables false
set_option linter.unusedSimpArgs false
set_option linter.unnecessarySimpa false
open Array renaming getElem?_eq_some_iff→Z6
open BitVec renaming ofInt→U8
open Bool renaming false→ne,true→ms,not_true→Y1,not_false→X4,eq_iff_iff→U1,and_eq_true→S0
open Decidable renaming not_not→X0
open Go renaming Value→x1,World→x4,TypeId→r8,IntKind→o5,Builtin→Z0,Program→W5,Oper→T2,Operand→S3,FuncId→S9
open Go.Addr renaming add_mid→U6
open Go.Builtin renaming append_→c9,len_→W7
open Go.Instr renaming loadAt→u4,fieldAt→u6,storeAt→o7,indexAt→n9,extract→Z9,buildSlice→Y3,sliceAt→V5,alloc→R4
open Go.IntKind renaming i64→X3,u64→U5
open Go.Proofs.Tryz renaming prog→x7
open Go.Result renaming andThen→V1
open Go.Sem renaming run_bind→W8,run_pure→V4
open Go.Sort renaming Holds→S5
open Go.Value renaming int→V6
open Go.World renaming putObj_heap_other→R2
open Int renaming toNat_natCast→u5,eq_ofNat_of_zero_le→Y6,le_refl→S8
open List renaming getElem?_eq_some_iff→x5,mem_of_getElem?→x6,getElem?_eq_getElem→x8,getElem?_map→v8,take_add_one→u7,length_map→u9,replicate→r9,getD_eq_getElem?_getD→p8,length_append→o4,take_length→o6,mem_map→o9,take_of_length_le→j4,mem_append→j5,eq_nil_of_length_eq_zero→j6,length_take→j9,map_append→Z2,length_set→Z5,ext_getElem?→Y5,drop_eq_getElem_cons→Y8,getElem?_append_right→X1,range→X2,length_cons→X5,getElem?_set→X8,getElem?_take_of_lt→W3,length_eq_one_iff→W6,append_nil→V2,getElem?_append_left→V3,map_set→U4,set_append_right→U9,map_map→T7,getElem_mem→T9,mem_of_mem_take→S4
open Nat renaming le_refl→p9,le_trans→Y7,mul_le_mul_right→X6,zero_le→X9,zero_add→V7,sub_self→V8,mul_one→T1,add_mul→T4,beq→S7
open Option renaming toList_some→o8,isNone_some→l9,map_some→Y9,map→V9
open Option.some renaming inj→Z4,injEq→W9
open Prod.mk renaming injEq→R5
set_option maxHeartbeats 16000000
open Option renaming some→σ,none→ν
abbrev Λ:=List Int
namespace Go
theorem _root_.Eq.F{α:Sort _}{a b c:α}(h:a=b)(g:b=c):a=c:=h.trans g
theorem _root_.Iff.F{a b c:Prop}(h:a<->b)(g:b<->c):a<->c:=h.trans g
theorem _root_.List.Perm.F{α:Type _}{a b c:List α}(h:a.Perm b)(g:b.Perm c):a.Perm c:=h.trans g
set_option linter.defProp false in
def _root_.Go.Calls.Y:=@Calls.mono
theorem _root_.lw{c:Prop}{h:Decidable c}(hc:c){α:Sort _}{t e:α}:ite c t e=t:=if_pos hc
theorem _root_.m1{c:Prop}{h:Decidable c}(hnc:¬c){α:Sort _}{t e:α}:ite c t e=e:=if_neg hnc
theorem _root_.m2{a b:Prop}(h:a)(g:¬a):b:=absurd h g
theorem _root_.m3{p:Prop}[Decidable p](h:p):decide p=true:=decide_eq_true h
theorem _root_.m5{p:Prop}[Decidable p](h:¬p):decide p=false:=decide_eq_false h
theorem _root_.m6{p:Prop}[Decidable p]:(decide p=true)=p:=decide_eq_true_eq
theorem _root_.m7{p:Prop}[Decidable p](h:decide p=true):p:=of_decide_eq_true h
theorem Ω{p:Prop}(h:p:=by omega):p:=h
theorem Ψ{p:Prop}(h:p:=by kernel_rfl):p:=h
theorem Φ{p:Prop}(h:p:=by decide):p:=h
theorem Ξ{p:Prop}(h:p:=by simp):p:=h
theorem Θ{p:Prop}(h:p:=by simp;omega):p:=h
abbrev Γ(n:Nat):Value:=.pointer (some ⟨n,0,none⟩)
abbrev Δ:Int→Value:=Value.int .i64
end Go
variable{a y:Int}{c h j n off:Nat}{I w:x4}{S:Nat->Prop}{aV s1 sv v z:x1}{args cs vs xs:List x1}{K:x1->Prop}{am l:Λ}{D:List Nat}{k:o5}{e f t:r8}{cx cy:Bool}
namespace Go.Vc
open Go Go.RowKit
def gf:Obj->Bool
 | .loop _=>ne
 | .deferred _=>ne
 | .mapIter ..=>ne
 |_=>ms
def book:Obj->Bool
 | .loop _=>ms
 | .deferred _=>ms
 |_=>ne
theorem z1{o:Obj}(h:book o=ms):gf o=ne:=by cases o<;>first|rfl|cases h
def tA:Obj->Bool
 | .mapIter ..=>ms
 |_=>ne
theorem HQ{o:Obj}(h:tA o=ms):gf o=ne:=by cases o<;>first|rfl|cases h
structure Ext(w I:x4):Prop where
 size:w.heap.size<=I.heap.size
 bb:∀(r:Nat)(o:Obj),w.heap[r]?=σ o->gf o=ms->I.heap[r]?=σ o
theorem Ext.refl(w:x4):Ext w w:=⟨p9 _,λ_ _ h _=>h⟩
theorem Ext.F{a b c:x4}(h:Ext a b)(k:Ext b c):Ext a c:=
 ⟨Y7 h.size k.size,λr o e V=>k.bb r o (h.bb r o e V) V⟩
structure aj(S:Nat->Prop)(w I:x4):Prop where
 size:w.heap.size<=I.heap.size
 bb:∀(r:Nat)(o:Obj),w.heap[r]?=σ o->gf o=ms->¬S r->I.heap[r]?=σ o
theorem Ext.aa(S:Nat->Prop)(h:Ext w I):aj S w I:=⟨h.size,λr o a V _=>h.bb r o a V⟩
theorem aj.W(h:aj S w I)(e:∀r,r<w.heap.size->¬S r):Ext w I:=
 ⟨h.size,λr o a V=>h.bb r o a V (e r (Z6.1 a).1)⟩
theorem aj.refl(S:Nat->Prop)(w:x4):aj S w w:=⟨p9 _,by grind⟩
theorem aj.F{a b c:x4}(h:aj S a b)(k:aj S b c):aj S a c:=
 ⟨Y7 h.size k.size,λr o f V e=>k.bb r o (h.bb r o f V e) V e⟩
theorem aj.Y{T:Nat->Prop}{a b:x4}(h:aj S a b)(f:∀r,r<a.heap.size->S r->T r):aj T a b:=
 ⟨h.size,λr o e V j=>h.bb r o e V λq=>j (f r (Z6.1 e).1 q)⟩
theorem Ext.then{a b c:x4}(h:Ext a b)(k:aj S b c)(f:∀r,r<a.heap.size->¬S r):Ext a c:=
 ⟨Y7 h.size k.size,λr o e V=>k.bb r o (h.bb r o e V) V (f r (Z6.1 e).1)⟩
def k6(w I:x4):Prop:=I.tape=w.tape/\w.drawn<=I.drawn
theorem k6.lP(h:I.tape=w.tape:=by rfl)(k:I.drawn=w.drawn:=by rfl):k6 w I:=⟨h,Nat.le_of_eq k.symm⟩
theorem k6.F{a b c:x4}(k:k6 b c)(h:k6 a b):k6 a c:=⟨k.1.F h.1,Y7 h.2 k.2⟩
structure cR(w I:x4):Prop where
 os:I.os=w.os
 tape:k6 w I
 output:I.output=w.output
 size:w.heap.size<=I.heap.size
 bb:∀(r:Nat)(o:Obj),w.heap[r]?=σ o->gf o=ne->I.heap[r]?=σ o
structure cN(n:Nat)(w I:x4):Prop where
 os:I.os=w.os
 tape:k6 w I
 output:I.output=w.output
 size:w.heap.size<=I.heap.size
 bb:∀(r:Nat)(o:Obj),w.heap[r]?=σ o->book o=ms->I.heap[r]?=σ o
 old:∀(r:Nat)(o:Obj),r<n->w.heap[r]?=σ o->gf o=ne->I.heap[r]?=σ o
theorem cR.b(h:cR w I):cN n w I:=⟨h.os,h.tape,h.output,h.size,λr o a V=>h.bb r o a (z1 V),λr o _ a V=>h.bb r o a V⟩
theorem cN.refl(n:Nat)(w:x4):cN n w w:=⟨rfl,.lP,rfl,p9 _,λ_ _ h _=>h,by grind⟩
theorem cN.F{a b c:x4}(h:cN n a b)(k:cN n b c):cN n a c:=
 ⟨k.os.F h.os,k.tape.F h.tape,k.output.F h.output,Y7 h.size k.size,λr o e V=>k.bb r o (h.bb r o e V) V,λr o f e V=>k.old r o f (h.old r o f e V) V⟩
theorem cN.cO(h:cN n w I)(e:w.heap.size<=n):cR w I:=
 ⟨h.os,h.tape,h.output,h.size,λr o a V=>h.old r o (Nat.lt_of_lt_of_le (Z6.1 a).1 e) a V⟩
structure gg(n:Nat)(w I:x4):Prop where
 os:I.os=w.os
 tape:k6 w I
 output:I.output=w.output
 size:w.heap.size<=I.heap.size
 old:∀(r:Nat)(o:Obj),r<n->w.heap[r]?=σ o->gf o=ne->I.heap[r]?=σ o
theorem cN.o(h:cN n w I):gg n w I:=⟨h.os,h.tape,h.output,h.size,h.old⟩
theorem cR.o(h:cR w I):gg n w I:=⟨h.os,h.tape,h.output,h.size,λr o _ a V=>h.bb r o a V⟩
theorem gg.Y{m:Nat}(h:gg n w I)(hm:m<=n):gg m w I:=⟨h.os,h.tape,h.output,h.size,λr o a=>h.old r o (Nat.lt_of_lt_of_le a hm)⟩
theorem cN.z6{m:Nat}{a b c:x4}(h:cN n a b)(k:gg m b c)(hm:a.heap.size<=m):cN n a c:=
 ⟨k.os.F h.os,k.tape.F h.tape,k.output.F h.output,Y7 h.size k.size,
  λr o e V=>k.old r o (Nat.lt_of_lt_of_le (Z6.1 e).1 hm) (h.bb r o e V) (z1 V),
  λr o f e V=>k.old r o (Nat.lt_of_lt_of_le (Z6.1 e).1 hm) (h.old r o f e V) V⟩
def fl(w I:x4):Prop:=∀(r:Nat)(o:Obj),w.heap[r]?=σ o->tA o=ms->I.heap[r]?=σ o
theorem fl.refl(w:x4):fl w w:=λ_ _ h _=>h
theorem fl.F{a b c:x4}(h:fl a b)(k:fl b c):fl a c:=λr o e V=>k r o (h r o e V) V
theorem cR.kH(h:cR w I):fl w I:=λr o a V=>h.bb r o a (HQ V)
abbrev gh:=Bool×Nat
theorem cR.refl(w:x4):cR w w:=⟨rfl,.lP,rfl,p9 _,λ_ _ h _=>h⟩
theorem cR.F{a b c:x4}(h:cR a b)(k:cR b c):cR a c:=
 ⟨k.os.F h.os,k.tape.F h.tape,k.output.F h.output,Y7 h.size k.size,λr o e V=>k.bb r o (h.bb r o e V) V⟩
theorem tB(w:x4)(n:Nat):Ext w {w with drawn:=n}:=⟨p9 _,λ_ _ h _=>h⟩
theorem rG(w:x4)(n:Nat)(h:w.drawn<=n):cR w {w with drawn:=n}:=⟨rfl,⟨rfl,h⟩,rfl,p9 _,λ_ _ h _=>h⟩
theorem rH(w:x4)(o:Obj):Ext w {w with heap:=w.heap.push o}:=
 ⟨Ξ,λr o' h _=>by
  grind⟩
theorem rI(w:x4)(o:Obj):cR w {w with heap:=w.heap.push o}:=
 ⟨rfl,.lP,rfl,Ξ,λr o' h _=>by
  grind⟩
inductive eU where
 |v (x:x1)
 |b (c:Bool)
 |u
def eU.val:eU->x1
 | .v x=>x
 | .b c=>.bool c
 | .u=>undef
def eU.ofConst:x1->eU
 | .bool c=>.b c
 |x=>.v x
theorem eU.HR(x:x1):(eU.ofConst x).val=x:=by cases x<;>rfl
abbrev Env:=List (Nat×eU)
def look:Env->Nat->Option eU
 |[],_=>ν
 |(s,x)::r,t=>bif S7 s t then σ x else look r t
def e2(e:Env):S3->Option eU
 | .tmp t=>look e t
 | .const x=>σ (eU.ofConst x)
 | .global g=>σ (.v (Γ g))
 | .func f=>σ (.v (.func (.func f) #[] #[]))
def cY(e:Env)(x:S3):x1:=
 match e2 e x with
 |some y=>y.val
 |none=>undef
def known(e:Env):List S3->Bool
 |[]=>ms
 |x::r=>(e2 e x).isSome&&known e r
def S5(N:Nat)(e:Env)(a:Act):Prop:=
 a.tmps.size=N/\∀t x,look e t=σ x->a.tmps.getD t undef=x.val
theorem S5.e2{N:Nat}{e:Env}{a:Act}(h:S5 N e a){x:S3}{y:eU}(J:Vc.e2 e x=σ y):a.eval x=y.val:=by
 cases x with
 |tmp t=>exact h.2 t y J
 |const v=>simp[Vc.e2]at J;subst J;simp[Act.eval,eU.HR]
 |global g=>simp[Vc.e2]at J;subst J;rfl
 |func f=>simp[Vc.e2]at J;subst J;rfl
theorem S5.eval{N:Nat}{e:Env}{a:Act}(h:S5 N e a){x:S3}(J:(Vc.e2 e x).isSome=ms):a.eval x=cY e x:=by
 obtain⟨y,f⟩:=Option.isSome_iff_exists.1 J;rw[h.e2 f];simp[cY,f]
theorem z7{e:Env}:∀{l:List S3},known e l=ms->∀x∈l,(e2 e x).isSome=ms
 :=by
 intro a;induction a<;>grind [known]
def er(e:Env)(d:Option Tmp)(x:eU):Env:=
 match d with
 |some t=>(t,x)::e
 |none=>e
def k7(N:Nat)(d:Option Tmp):Bool:=
 match d with
 |some t=>Nat.blt t N
 |none=>ms
theorem S5.put{N:Nat}{e:Env}{a:Act}(h:S5 N e a){d:Option Tmp}(r:k7 N d=ms){x:eU}(ac:x.val=v):
  S5 N (er e d x) (a.put d v):=by
 cases d with
 |none=>exact h
 |some t=>
  have q:t<N:=by grind [k7,Nat.blt_eq]
  refine⟨by simp[Act.put,h.1],λs y V=>?_⟩;simp only[er,look]at V;cases f:S7 t s with
  |true=>
   have j:=Nat.eq_of_beq_eq_true f;subst j;simp only[f,cond_true,W9]at V;subst V;simp[Act.put,h.1,q,ac]
  |false=>
   have j:=Nat.ne_of_beq_eq_false f;simp only[f,cond_false]at V;have:=h.2 s y V;simp only[Act.put,Array.getD_eq_getD_getElem?]at this ⊢
   grind
def eV(r:Option Nat):Fence:={Fence.wide with round:=r}
theorem wv(r:Option Nat)(n:Nat):(eV r).depth.isSome=ms->1<=n:=by grind [eV,Fence.wide]
theorem z8{r:Option Nat}{P:W5}{f:S9}{args:Array x1}{R:Ending->x4->Prop}(h:Calls P f args w R):CallsIn (eV r) n P f args w R:=by
 have:=(callsIn_wide (n:=n)).2 h;exact this
section
variable(P:W5)
def aM{α:Type}(s:Sem α)(w:x4)(K:α->x4->Prop):Prop:=∃v I,s.run P w= .ok v I/\cR w I/\K v I
def tC{α:Type}(free:gh)(s:Sem α)(w:x4)(K:α->x4->Prop):Prop:=∃v I,s.run P w= .ok v I/\(free.1=ne->cN free.2 w I)/\K v I
def Split(x:x1)(A B:Prop):Prop:=∃c,x= .bool c/\(c=ms->A)/\(c=ne->B)
def bd:Bool->S3
 |true=>.const (.bool ms)
 |false=>.tmp 0
def qy:S3->Bool
 | .const _=>ms
 |_=>ne
theorem HS(op:BinOp)(t:r8)(x y:S3)(a b:x1):eqGuard op t x y a b=eqGuard op t (bd (qy x)) (bd (qy y)) a b:=by
 cases x<;>cases y<;>rfl
def aU(op:BinOp)(t:r8)(cx cy:Bool)(a b:x1):Sem x1:=do eqGuard op t (bd cx) (bd cy) a b;binOp op t a b
def tD(s:Sem Next):Sem x1:=do
 match <-s with
 | .value v=>pure v
 |_=>stuck "no value"
def b0(x:x1):Sem x1:=tD (execOp (λ_=>x) {dst:=ν,op:=.nilCheck (.tmp 0),type:=0,pos:= "",after:=#[],guard:=ν})
def bT(a:S3->x1):List S3->List x1
 |[]=>[]
 |x::r=>a x::bT a r
theorem tE(a:S3->x1):∀l,bT a l=l.map a
 |[]=>rfl
 |x::r=>by simp[bT,tE a r]
theorem wx(a:S3->x1)(l:Array S3):(bT a l.toList).toArray=l.map a:=by
 grind [tE]
def partsOf(a:S3->x1):List (Nat×S3)->List (Nat×x1)
 |[]=>[]
 |x::r=>(x.1,a x.2)::partsOf a r
theorem Aa(a:S3->x1):∀l,partsOf a l=l.map λ(i,x)=>(i,a x)
 |[]=>rfl
 |x::r=>by simp[partsOf,Aa a r]
theorem HT(a:S3->x1)(l:Array (Nat×S3)):(partsOf a l.toList).toArray=l.map λ(i,x)=>(i,a x):=by
 grind [Aa]
def opsOf:Op->List S3
 | .alloc _| .ready _| .waits _=>[]
 | .move x| .assign x| .box _ x| .load _ x| .nilCheck x| .unOp _ _ x| .convert _ _ x| .sliceToArrayPointer _ x| .makeInterface _ x
 | .makeChan _ x| .fieldAddr _ x _| .field _ x _| .range _ x| .next x _| .entry x| .typeAssert x _ _ _| .extract x _| .panic x| .recv _ x _=>[x]
 | .pick c a b=>[c,a,b]
 | .build _ e| .buildSlice _ _ e=>e.toList.map (·.2)
 | .store _ a v| .binOp _ _ a v _| .makeSlice _ a v| .indexAddr _ a v| .index _ a v| .lookup _ a v _| .mapEntry _ a v| .send a v=>[a,v]
 | .makeFunc _ first j=>first.toList++j.toList
 | .makeMap _ r=>match r with
  |some x=>[x]
  |none=>[]
 | .slice _ x l h m=>x::((match l with
  |some y=>[y]
  |none=>[])++((match h with
  |some y=>[y]
  |none=>[])++(match m with
  |some y=>[y]
  |none=>[])))
 | .mapUpdate _ m k v| .entryStore _ m k v| .insert _ m k v=>[m,k,v]
 | .call c=>match c.callee with
  | .value f=>f::c.args.toList
  | .invoke r _=>r::c.args.toList
  | .builtin _=>c.args.toList
 | .go _| .defer _| .select ..=>[]
theorem HU{op:Op}(h1:∀c,op≠ .go c)(a:∀c,op≠ .defer c)(e:∀cs b,op≠ .select cs b):∀x∈op.operands,x∈opsOf op:=by
 intro x J;cases op<;>simp only[Op.operands,opsOf]at J ⊢<;>try (first|(simp at J;done)|(simp at J ⊢;exact J))
 all_goals grind [Call.operands]
def rJ(e:S3->x1):Op->Option (Sem x1)
 | .pick c a b=>σ (do pure (if <-asBool (e c)then e a else e b))
 | .alloc j=>σ (R4 j ms (.tuple #[]))
 | .box j x=>σ (Instr.box j (e x))
 | .build t parts=>σ (Instr.build t (partsOf e parts.toList).toArray)
 | .buildSlice t len parts=>σ (Y3 t len (partsOf e parts.toList).toArray)
 | .load t a=>σ (u4 t (e a))
 | .nilCheck x=>σ (b0 (e x))
 | .binOp op jO x y _=>σ (aU op jO (qy x) (qy y) (e x) (e y))
 | .unOp op _ x=>σ (Op.unary op (e x))
 | .convert src dst x=>σ (convert src dst (e x))
 | .makeInterface jO x=>σ (Instr.makeInterface jO (e x))
 | .makeFunc fn first q=>σ (Instr.makeFunc fn (bT e first.toList).toArray (bT e q.toList).toArray)
 | .makeMap t r=>σ (Instr.makeMap t (r.map e))
 | .makeSlice t l c=>σ (Instr.makeSlice t (e l) (e c))
 | .slice t x lo hi mx=>σ (V5 t (e x) (lo.map e) (hi.map e) (mx.map e))
 | .fieldAddr s x f=>σ (u6 s (e x) f)
 | .field jO x f=>σ (Instr.field jO (e x) f)
 | .indexAddr t x h=>σ (n9 t (e x) (e h))
 | .index jO x h=>σ (Instr.index jO (e x) (e h))
 | .lookup jO x h ok=>σ (Instr.lookup jO (e x) (e h) ok)
 | .mapEntry t m k=>σ (Instr.mapEntry t (e m) (e k))
 | .range jO x=>σ (Instr.range jO (e x))
 | .entry w=>σ (Instr.entry (e w))
 | .typeAssert x jO z ok=>σ (Instr.typeAssert (e x) jO z ok)
 | .extract t h=>σ (Z9 (e t) h)
 |_=>ν
def wy(e:S3->x1):Op->Option (Sem Unit)
 | .store t a x=>σ (o7 t (e a) (e x))
 | .mapUpdate t m k x=>σ (Instr.mapUpdate t (e m) (e k) (e x))
 | .insert t m k x=>σ (Instr.mapUpdate t (e m) (e k) (e x))
 | .entryStore t m s x=>σ (Instr.entryStore t (e m) (e s) (e x))
 |_=>ν
def qz(b:Z0)(ats:Array r8)(a:r8)(args:Array x1):Option (Sem x1):=
 match b with
 | .append=>σ (c9 ats a args)
 | .cap=>σ (Z0.cap_ ats a args)
 | .clear=>σ (Z0.clear_ ats a args)
 | .copy=>σ (Z0.copy_ ats a args)
 | .delete=>σ (Z0.delete_ ats a args)
 | .len=>σ (W7 ats a args)
 | .max=>σ (Z0.max_ ats a args)
 | .min=>σ (Z0.min_ ats a args)
 |_=>ν
theorem HV{s:Sem Next}(h:(tD s).run P w= .ok v I):s.run P w= .ok (.value v) I:=by
 unfold tD at h;rw[W8]at h;cases V:s.run P w with
 |halt x U=>grind [V1]
 |ok x U=>
  rw[V]at h;cases x<;>simp_all [V1,stuck,V4]
theorem HW(x:x1)(b:Bool)(t:r8):Instr.next x b 0=Instr.next x b t:=rfl
theorem wz{e:S3->x1}{o:T2}{s:Sem x1}(h:rJ e o.op=σ s)(a:s.run P w= .ok v I):
  (execOp e o).run P w= .ok (.value v) I:=by
 cases aE:o.op with
 |nilCheck x=>
  rw[aE]at h;cases h;have:=HV P a
  grind [execOp]
 |pick c x y=>
  rw[aE]at h;cases h;unfold execOp;simp only[aE,W8,V4]at a ⊢;cases f:(asBool (e c)).run P w<;>grind [V1]
 |binOp op jO x y j=>
  rw[aE]at h;cases h;unfold execOp;simp only[aE];unfold aU at a;rw[<-HS]at a;simp only[W8,V4]at a ⊢;rw[a];rfl
 |_=>
  rw[aE]at h
  first
   |(cases h;done)
   |(cases h;simp only[wx,HT]at a;grind [execOp,W8,V1,V4])
   |(cases h;unfold execOp;simp only[aE,W8,a,V1,V4])
theorem HX{a:S3->x1}{o:T2}{s:Sem Unit}(h:wy a o.op=σ s){v:Unit}(e:s.run P w= .ok v I):
  (execOp a o).run P w= .ok .skip I:=by
 cases aE:o.op with
 |_=>
  rw[aE]at h
  first
   |(cases h;done)
   |(cases h;grind [execOp,W8,V1,V4])
def Enters(f:S9):Prop:=∀args w,(callFunc f args).run P w= .ok (.enter f args) w
inductive aq(f:S9)(args:List x1)(w:x4)(K:x1->x4->Prop):Prop
 |code (h1:Enters P f) (h2:Calls P f args.toArray w λe I=>∃v,e= .returned v/\cR w I/\K v I)
 |ext (v:x1) (I:x4) (h1:(callFunc f args.toArray).run P w= .ok (.value v) I) (h2:cR w I) (h3:K v I)
inductive io(f:S9)(args:List x1)(w:x4)(K:x1->x4->Prop):Prop
 |code (h1:Enters P f) (h2:Calls P f args.toArray w λe I=>∃v,e= .returned v/\K v I)
 |ext (v:x1) (I:x4) (h1:(callFunc f args.toArray).run P w= .ok (.value v) I) (h3:K v I)
theorem io.calls{f:S9}{K:x1->x4->Prop}(h:io P f args w K)(a:Enters P f):Calls P f args.toArray w λe I=>∃v,e= .returned v/\K v I:=by
 cases h with
 |code _ h=>exact h
 |ext v I h1=>rw[a]at h1;cases h1
def jv(l:Nat)(args:List x1)(w:x4)(K:x1->x4->Prop):Prop:=
 YieldAt Fence.wide 0 P l args.toArray w λe I=>∃v,e= .returned v/\K v I
theorem jv.Y{P:W5}{l:Nat}{K a:x1->x4->Prop}(h:jv P l args w K)(e:∀v I,K v I->a v I):jv P l args w a:=by
 obtain⟨fn,tmps,f,body,j,q⟩:=h;exact⟨fn,tmps,f,body,j,RoundIn.mono q λ_ I ⟨v,h1,r⟩=>⟨v,h1,e v I r⟩⟩
def tF(free:Bool)(f:x1)(args:List x1)(w:x4)(K:x1->x4->Prop):Prop:=
 match f with
 | .func (.func g) first cap=>bif free then io P g (first.toList++args++cap.toList) w K else aq P g (first.toList++args++cap.toList) w K
 | .func (.yield l) first _=>bif free then free=ms/\jv P l (first.toList++args) w K else jv P l (first.toList++args) w λv I=>cR w I/\K v I
 |_=>False
def ad(s:Sem x1)(w:x4)(K:x1->Prop):Prop:=∃v,(∀I,Ext w I->s.run P I= .ok v I)/\K v
def HY:List (Nat×Nat):=[(9,22),(22,22)]
def HZ(s d:Nat):Bool:=HY.any λp=>S7 p.1 s&&S7 p.2 d
def lQ(o:T2):Bool:=
 match o.op with
 | .convert s d _=>!HZ s d
 | .move _| .assign _| .pick .. | .load .. | .nilCheck _| .binOp .. | .unOp .. | .makeInterface .. | .makeFunc .. | .slice .. | .fieldAddr .. | .field ..
 | .indexAddr .. | .index .. | .lookup .. | .extract .. | .build .. | .typeAssert ..=>ms
 | .call c=>
  match c.callee with
  | .builtin .len| .builtin .cap| .builtin .min| .builtin .max=>ms
  |_=>ne
 |_=>ne
def cK(s:Sem x1)(v:x1)(I:x4):Prop:=∀a,Ext I a->s.run P a= .ok v a
def nu(o:T2)(e:Env)(w:x4)(K:Env->(x4->Prop)->Prop):Prop:=
 bif known e (opsOf o.op)then
  match o.op with
  | .move x| .assign x=>
   match e2 e x with
   |some y=>K (er e o.dst y) (λ_=>True)
   |none=>False
  | .pick c a b=>
   match e2 e c with
   |some (.b ms)=>(match e2 e a with|some y=>K (er e o.dst y) (λ_=>True)|none=>False)
   |some (.b ne)=>(match e2 e b with|some y=>K (er e o.dst y) (λ_=>True)|none=>False)
   |some (.v x)=>Split x (K (er e o.dst (.v (cY e a))) (λ_=>True)) (K (er e o.dst (.v (cY e b))) (λ_=>True))
   |some .u=>False
   |none=>False
  | .call c=>
   match c.callee with
   | .builtin b=>
    match qz b c.argTypes o.type (bT (cY e) c.args.toList).toArray with
    |some s=>ad P s w λv=>K (er e o.dst (.v v)) (cK P s v)
    |none=>False
   |_=>False
  |op=>
   match rJ (cY e) op with
   |some s=>ad P s w λv=>K (er e o.dst (.v v)) (cK P s v)
   |none=>False
 else False
def wA(free:gh)(o:T2)(e:Env)(w:x4)(K:Env->x4->Prop):Prop:=
 bif known e (opsOf o.op)then
  match o.op with
  | .call c=>
   match c.callee with
   | .builtin b=>
    match qz b c.argTypes o.type (bT (cY e) c.args.toList).toArray with
    |some s=>aM P s w λv I=>K (er e o.dst (.v v)) I
    |none=>False
   | .value (.func f)=>
    bif free.1 then io P f (bT (cY e) c.args.toList) w λv I=>K (er e o.dst (.v v)) I
    else aq P f (bT (cY e) c.args.toList) w λv I=>K (er e o.dst (.v v)) I
   | .value x=>tF P free.1 (cY e x) (bT (cY e) c.args.toList) w λv I=>K (er e o.dst (.v v)) I
   | .invoke _ _=>False
  | .next x str=>tC P free (Instr.next (cY e x) str 0) w λv I=>K (er e o.dst (.v v)) I
  |op=>
   match rJ (cY e) op with
   |some s=>aM P s w λv I=>K (er e o.dst (.v v)) I
   |none=>
    match wy (cY e) op with
    |some s=>aM P s w λ_ I=>K (er e o.dst (.v undef)) I
    |none=>False
 else False
def qA(free:gh)(o:T2)(e:Env)(w:x4)(K:Env->x4->Prop):Prop:=
 bif lQ o then nu P o e w (λa _=>K a w)else wA P free o e w K
theorem Enters.of{f:S9}{fn:Func}{c:Code}(ah:P.funcs[f]?=σ fn)(a:fn.body=σ c)(e:(fn.name == "runtime.NumGoroutine")=ne):Enters P f:=by
 intro args w
 grind [callFunc,W8,program,Sem.run,V1,V4]
variable{P}
variable{N:Nat}{r:Option Nat}{o:T2}{e:Env}{a:Act}{w:x4}
theorem lR(f:S5 N e a)(hk:known e (opsOf o.op)=ms)(V:∀cs b,o.op≠ .select cs b)(h:∀c,o.op≠ .go c:=by simp_all)(j:∀c,o.op≠ .defer c:=by simp_all):
  execOp a.eval o=execOp (cY e) o:=
 execOp_congr o V λx J=>f.eval (by grind [z7,HU])
theorem rK{next:Act->x4->Prop}{Q:Exit->Act->x4->Prop}(f:S5 N e a)(hk:known e (opsOf o.op)=ms)(V:∀cs b,o.op≠ .select cs b)(j:∀c,o.op≠ .defer c){v:x1}{I:x4}(q:(execOp (cY e) o).run P w= .ok (.value v) I)(h:next (a.put o.dst v) I)(s:∀c,o.op≠ .go c:=by simp_all):o.wpIn (eV r) 0 P a w next Q:=by
 refine⟨λ_ _=>trivial,?_⟩
 grind [T2.semAt_eq,lR,T2.uponIn_value]
theorem H0{next:Act->x4->Prop}{Q:Exit->Act->x4->Prop}(f:S5 N e a)(hk:known e (opsOf o.op)=ms)(V:∀cs b,o.op≠ .select cs b)(j:∀c,o.op≠ .defer c){I:x4}(q:(execOp (cY e) o).run P w= .ok .skip I)(h:next (a.put o.dst undef) I)(s:∀c,o.op≠ .go c:=by simp_all):o.wpIn (eV r) 0 P a w next Q:=by
 refine⟨λ_ _=>trivial,?_⟩
 grind [T2.semAt_eq,lR,T2.uponIn_skip]
def fK(N:Nat)(free:gh)(K:Env->x4->Prop)(o:T2)(a:Act)(w:x4)(a':Act)(I:x4):Prop:=
 ∃e v,K e I/\S5 N e a'/\a'=a.put o.dst v/\(free.1=ne->cN free.2 w I)
theorem fK.of{free:gh}{K:Env->x4->Prop}{x:eU}(f:K (er e o.dst x) I)(h:S5 N e a)(j:k7 N o.dst=ms)(J:x.val=v)(q:free.1=ne->cN free.2 w I):fK N free K o a w (a.put o.dst v) I:=⟨_,v,f,h.put j J,rfl,q⟩
theorem Ab{free:gh}{K:Env->x4->Prop}{Q:Exit->Act->x4->Prop}{f:S9}{args:Array x1}(q:S5 N e a)(s:k7 N o.dst=ms)(h:Calls P f args w λj I=>∃v,j= .returned v/\(free.1=ne->cN free.2 w I)/\K (er e o.dst (.v v)) I):
  o.uponIn (eV r) 0 P a (fK N free K o a w) Q (.ok (.enter f args) w):=by
 rw[T2.uponIn_enter];refine⟨wv _ _,CallsIn.mono (z8 h) ?_⟩;rintro j I ⟨v,rfl,x,y⟩;exact fK.of y q s rfl x
theorem nv{x:S3}{y:eU}(h:e2 e x=σ y):cY e x=y.val:=by simp[cY,h]
theorem Ac{l:List S3}{x:S3}(hk:known e l=ms)(J:x∈l):∃y,e2 e x=σ y:=Option.isSome_iff_exists.1 (z7 hk x J)
theorem Ad{K:Env->(x4->Prop)->Prop}(h:nu P o e w K)(r:S5 N e a)(H:k7 N o.dst=ms):
  ∃v,∃st:x4->Prop,(∀I,Ext w I->(execOp a.eval o).run P I= .ok (.value v) I)/\(∃A,K A st/\S5 N A (a.put o.dst v))/\(∀c,o.op≠ .defer c)/\
   (∀I,st I->∀j,Ext I j->(execOp a.eval o).run P j= .ok (.value v) j):=by
 unfold nu at h;cases hk:known e (opsOf o.op)with
 |false=>grind
 |true=>
  rw[hk]at h;simp only[cond_true]at h;have put:∀{x:eU}{v:x1}{st:x4->Prop},K (er e o.dst x) st->x.val=v->∃A,K A st/\S5 N A (a.put o.dst v):=λh1 B=>⟨_,h1,r.put H B⟩;cases aE:o.op with
  |move x=>
   rw[aE]at h;simp only at h;cases J:e2 e x with
   |none=>grind
   |some y=>
    rw[J]at h;have all:∀I:x4,(execOp a.eval o).run P I= .ok (.value y.val) I:=λI=>by
     rw[lR r hk (by simp[aE])]
     grind [execOp,V4,nv]
    exact⟨y.val,_,by grind,put h rfl,Ξ,by grind⟩
  |assign x=>
   rw[aE]at h;simp only at h;cases J:e2 e x with
   |none=>grind
   |some y=>
    rw[J]at h;have all:∀I:x4,(execOp a.eval o).run P I= .ok (.value y.val) I:=λI=>by
     rw[lR r hk (by simp[aE])]
     grind [execOp,V4,nv]
    exact⟨y.val,_,by grind,put h rfl,Ξ,by grind⟩
  |pick c x y=>
   rw[aE]at h;simp only at h;have E:=hk;rw[aE]at E;obtain⟨Q,J⟩:=Ac E (x:=x) (by simp[opsOf]);obtain⟨R,G⟩:=Ac E (x:=y) (by simp[opsOf]);have C:∀(t:Bool)(I:x4),cY e c= .bool t->(execOp a.eval o).run P I= .ok (.value (if t=ms then cY e x else cY e y)) I:=by
    grind [lR,execOp,asBool,V4]
   cases f:e2 e c with
   |none=>grind
   |some L=>
    rw[f]at h;cases L with
    |b t=>
     cases t with
     |true=>
      simp only[J]at h;exact⟨_,_,λI _=>C ms I (nv f),put h (by simp[nv J]),Ξ,λ_ _ I _=>C ms I (nv f)⟩
     |false=>
      simp only[G]at h;exact⟨_,_,λI _=>C ne I (nv f),put h (by simp[nv G]),Ξ,λ_ _ I _=>C ne I (nv f)⟩
    |v z=>
     obtain⟨t,M,O,ah⟩:=h;have q:=λI=>C t I (by rw[nv f];exact M);cases t with
     |true=>exact⟨_,_,λI _=>q I,put (O rfl) rfl,Ξ,by grind⟩
     |false=>exact⟨_,_,λI _=>q I,put (ah rfl) rfl,Ξ,by grind⟩
    |u=>exact h.elim
  |call c=>
   rw[aE]at h;simp only at h;cases f:c.callee with
   |builtin b=>
    rw[f]at h;simp only at h;rw[wx]at h;cases V:qz b c.argTypes o.type (c.args.map (cY e))with
    |none=>grind
    |some s=>
     rw[V]at h;obtain⟨v,q,F⟩:=h;have all:∀I:x4,s.run P I= .ok v I->(execOp a.eval o).run P I= .ok (.value v) I:=λI q=>by
      rw[lR r hk (by simp[aE])];unfold execOp;cases b<;>simp only[qz]at V<;>first|(cases V;done)|(cases V;simp[aE,f,resolve,invoke,builtin,q,V1])
     exact⟨v,_,by grind,put F rfl,Ξ,λI h1 j B=>all j (h1 j B)⟩
   |value x=>grind
   |invoke x m=>grind
  |_=>
   rw[aE]at h
   first
    |(simp only[rJ]at h;done)
    |(obtain⟨v,q,F⟩:=h
      refine⟨v,_,λI hw=>?_,put F rfl,Ξ,λI h1 j B=>?_⟩
      .rw[lR r hk (by simp[aE])];exact wz P (by rw[aE];rfl) (q I hw)
      .rw[lR r hk (by simp[aE])];exact wz P (by rw[aE];rfl) (h1 j B))
theorem H2{free:gh}{K:Env->x4->Prop}{Q:Exit->Act->x4->Prop}(h:wA P free o e w K)(j:S5 N e a)(C:k7 N o.dst=ms):
  o.wpIn (eV r) 0 P a w (fK N free K o a w) Q:=by
 unfold wA at h;cases hk:known e (opsOf o.op)with
 |false=>grind
 |true=>
  rw[hk]at h;simp only[cond_true]at h;cases aE:o.op with
  |call c=>
   rw[aE]at h;simp only at h;cases F:c.callee with
   |builtin b=>
    rw[F]at h;simp only at h;rw[wx]at h;cases V:qz b c.argTypes o.type (c.args.map (cY e))with
    |none=>grind
    |some s=>
     rw[V]at h;obtain⟨v,I,z,A,q⟩:=h;refine rK j hk (by simp[aE]) (by simp[aE]) (v:=v) ?_ (fK.of q j C rfl λ_=>A.b);unfold execOp;cases b<;>simp only[qz]at V<;>first|(cases V;done)|(cases V;simp[aE,F,resolve,invoke,builtin,z,V1])
   |value x=>
    rw[F]at h;have step:∀(d:Deferred)(y:x1),cY e x=y->Deferred.ofValue y (c.args.map (cY e))=pure d->
      (invoke d.target d.args).run P w=(execOp (cY e) o).run P w:=by
     grind [execOp,resolve]
    have G:∀(g:S9)(first cap:Array x1),cY e x= .func (.func g) first cap->
      (execOp (cY e) o).run P w=(callFunc g (first.toList++bT (cY e) c.args.toList++cap.toList).toArray).run P w:=by
     intro g first cap B
     rw[<-step {target:=.fn (.func g) cap,args:=first++c.args.map (cY e)} _ B rfl];simp only[invoke];have H:first++c.args.map (cY e)++cap=(first.toList++bT (cY e) c.args.toList++cap.toList).toArray:=by grind [tE]
     rw[H]
    have enter:∀(g:S9)(first cap:Array x1),cY e x= .func (.func g) first cap->Enters P g->
      (execOp (cY e) o).run P w= .ok (.enter g (first.toList++bT (cY e) c.args.toList++cap.toList).toArray) w:=by
     intro g first cap B E
     rw[G g first cap B,E]
    have go:∀(g:S9)(first cap:Array x1),cY e x= .func (.func g) first cap->
      (bif free.1 then io P g (first.toList++bT (cY e) c.args.toList++cap.toList) w λv I=>K (er e o.dst (.v v)) I
       else aq P g (first.toList++bT (cY e) c.args.toList++cap.toList) w λv I=>K (er e o.dst (.v v)) I)->
      o.wpIn (eV r) 0 P a w (fK N free K o a w) Q:=by
     intro g first cap B h
     obtain⟨fr,M⟩:=free;cases fr with
     |true=>
      rcases h with⟨E,L⟩|⟨v,I,z,q⟩
      .refine⟨λ_ _=>trivial,?_⟩
       grind [T2.semAt_eq,lR,Ab]
      .rw[<-G g first cap B]at z;exact rK j hk (by simp[aE]) (by simp[aE]) z (fK.of q j C rfl (by grind))
     |false=>
      rcases h with⟨E,L⟩|⟨v,I,z,A,q⟩
      .refine⟨λ_ _=>trivial,?_⟩;rw[T2.semAt_eq _ _ _ (by simp[aE]),lR j hk (by simp[aE])];rw[enter g first cap B E];exact Ab j C (L.Y (by grind [cR.b]))
      .rw[<-G g first cap B]at z;exact rK j hk (by simp[aE]) (by simp[aE]) z (fK.of q j C rfl λ_=>A.b)
    have J:tF P free.1 (cY e x) (bT (cY e) c.args.toList) w (λv I=>K (er e o.dst (.v v)) I)->
      o.wpIn (eV r) 0 P a w (fK N free K o a w) Q:=by
     intro h;unfold tF at h;split at h
     .grind
     .rename_i l first cap B
      obtain⟨fn,tmps,O,body,R,S⟩:jv P l (first.toList++bT (cY e) c.args.toList) w λv I=>(free.1=ne->cN free.2 w I)/\K (er e o.dst (.v v)) I:=by
       obtain⟨fr,M⟩:=free;cases fr with
       |true=>exact jv.Y h.2 (by grind)
       |false=>exact jv.Y h λv I hk=>⟨λ_=>hk.1.b,hk.2⟩
      refine⟨λ_ _=>trivial,?_⟩;rw[T2.semAt_eq _ _ _ (by simp[aE]),lR j hk (by simp[aE])];have:(execOp (cY e) o).run P w= .ok (.round l fn tmps O body) w:=by
       rw[<-step {target:=.fn (.yield l) cap,args:=first++c.args.map (cY e)} _ B rfl,<-R];have H:(first.toList++bT (cY e) c.args.toList).toArray=first++c.args.map (cY e):=by grind [tE]
       rw[H];rfl
      rw[this,T2.uponIn_round];refine⟨wv _ _,?_⟩;have T:=S;refine RoundIn.mono T ?_;rintro U I ⟨v,rfl,A,q⟩;exact fK.of q j C rfl A
     grind
    cases x with
    |func f=>exact go f #[] #[] rfl (by simpa using h)
    |tmp t=>exact J h
    |const v=>exact J h
    |global g=>exact J h
   |invoke x m=>grind
  |next x str=>
   rw[aE]at h;obtain⟨v,I,z,A,q⟩:=h;refine rK j hk (by simp[aE]) (by simp[aE]) (v:=v) ?_ (fK.of q j C rfl A)
   grind [HW,execOp,W8,V1,V4]
  |_=>
   rw[aE]at h
   first
    |(simp only[rJ,wy]at h;done)
    |(obtain⟨v,I,z,A,q⟩:=h
      exact rK j hk (by simp[aE]) (by simp[aE]) (wz P (by rw[aE];rfl) z) (fK.of q j C rfl λ_=>A.b))
    |(obtain⟨v,I,z,A,q⟩:=h
      exact H0 j hk (by simp[aE]) (by simp[aE]) (HX P (by rw[aE];rfl) z) (fK.of q j C rfl λ_=>A.b))
theorem tG{free:gh}{K:Env->x4->Prop}{Q:Exit->Act->x4->Prop}(h:qA P free o e w K)(j:S5 N e a)(q:k7 N o.dst=ms):
  o.wpIn (eV r) 0 P a w (fK N free K o a w) Q:=by
 unfold qA at h;cases s:lQ o with
 |false=>grind [H2]
 |true=>
  rw[s]at h;have h:nu P o e w (λf _=>K f w):=h;obtain⟨v,st,x,⟨f,y,z⟩,A,_⟩:=Ad h j q;refine⟨λ_ _=>trivial,?_⟩;rw[T2.semAt_eq _ _ _ A,x w (Ext.refl _),T2.uponIn_value];exact⟨f,v,y,z,rfl,λ_=>cN.refl _ _⟩
end
section
variable{P:W5}
def Still{α:Type}(P:W5)(s:Sem α):Prop:=∀w v U,s.run P w= .ok v U->U=w/\∀I,s.run P I= .ok v I
theorem Still.pure{α:Type}(a:α):Still P (Pure.pure a:Sem α):=λw v U h=>by
 rw[V4]at h;cases h;exact⟨rfl,λI=>by rw[V4]⟩
theorem Still.bind{α β:Type}{s:Sem α}{f:α->Sem β}(V:Still P s)(ah:∀a,Still P (f a)):Still P (s >>= f):=λw v U h=>by
 rw[W8]at h;cases e:s.run P w with
 |halt x ab=>grind [V1]
 |ok a ab=>
  rw[e]at h;obtain⟨rfl,j⟩:=V w a ab e;obtain⟨rfl,q⟩:=ah a _ v U h;exact⟨rfl,λI=>by rw[W8,j I];exact q I⟩
theorem Still.never{α:Type}{s:Sem α}(h:∀w v U,s.run P w≠ .ok v U):Still P s:=λw v U bg=>m2 bg (h w v U)
theorem Still.stuck{α:Type}(m:String):Still P (stuck m:Sem α):=.never λw v U h=>by simp[Go.stuck]at h
theorem Still.unsupported{α:Type}(m):Still P (unsupported m:Sem α):=.never λw v U h=>by simp[Go.unsupported]at h
theorem Still.program:Still P program:=λw v U h=>by cases h;exact⟨rfl,λ_=>rfl⟩
theorem Still.underlying(t:r8):Still P (underlying t):=Still.bind .program (by grind [Still.pure,Still.stuck])
theorem Still.typeInfo(t:r8):Still P (typeInfo t):=Still.bind .program λp=>by
 grind [Still.pure,Still.stuck]
theorem Still.sizeOf(t:r8):Still P (sizeOf t):=Still.bind (.typeInfo t) λ_=>Still.pure _
theorem Still.boundsPanic{α:Type}(k:o5)(x y:Int)(c:BoundsCode):Still P (boundsPanic k x y c:Sem α):=.never λw v U h=>by
 have e:∀(s:Sem Bool)(w:x4)(v:α)(U:x4),(s >>= λb=>(runtimePanic (.bounds (X3.wrap x) y b c):Sem α)).run P w≠ .ok v U:=by
  intro s w v U h;rw[W8]at h;cases f:s.run P w with
  |halt x ab=>rw[f]at h;simp[V1]at h
  |ok a ab=>rw[f]at h;simp[V1,Go.runtimePanic,Go.goPanic]at h
 unfold Go.boundsPanic at h;dsimp only at h;split at h
 .exact e _ _ _ _ h
 .exact e _ _ _ _ h
theorem Still.asIntOf(v:x1):Still P (asIntOf v):=by
 unfold Go.asIntOf;split
 .exact Still.pure _
 .exact Still.unsupported _
 .exact Still.stuck _
theorem Still.sureAddr(v:x1):Still P (Instr.sureAddr v):=by
 unfold Instr.sureAddr
 grind [Still.pure,Still.stuck]
theorem Still.extract(v:x1)(i:Nat):Still P (Z9 v i):=by
 unfold Z9
 grind [Still.pure,Still.stuck]
theorem Still.indexAt(t:r8)(x i:x1):Still P (n9 t x i):=by
 have tail:∀(t:r8)(k:o5)(i:Int)(base:Option Addr)(len:Nat)(e:r8),Still P (do
   let f:=len<=1&&(match <-Go.underlying t with| .array ..=>ms|_=>ne)
   match base with
   |some a=>
    if 0<=i/\i<len then Pure.pure (x1.pointer (σ (a.add (i.toNat*(<-Go.sizeOf e)))))
    else if f then Go.unsupported (.noEntry "op/indexAddr.an index out of range at an array of length 0 or 1 (ledger 616)")
    else Go.boundsPanic k i len .index
   |none=>Go.boundsPanic k i 0 .index):=by
  intro t k i base len e;refine .bind (.underlying t) λd=>?_;cases base with
  |none=>grind [Still.boundsPanic]
  |some a=>
   dsimp only;split
   .exact .bind (.sizeOf e) λ_=>.pure _
   grind [Still.unsupported,Still.boundsPanic]
 unfold n9;refine .bind (.asIntOf i) λh=>?_;refine .bind (.underlying t) λd=>?_;split
 .refine .bind (.sureAddr _) λb=>?_;refine .bind (.pure _) λy=>?_;exact tail _ _ _ _ _ _
 .refine .bind (.pure _) λy=>?_;exact tail _ _ _ _ _ _
 .refine .bind (.stuck _) λy=>?_;exact tail _ _ _ _ _ _
end
section
variable(P:W5)
def tH(free:gh)(ops:Array T2)(o:T2)(e:Env)(w:x4)(K:Env->x4->Prop):Prop:=
 match o.guard with
 |none=>qA P free o e w K
 |some (j,b)=>
  match(ops[j]?).bind (·.dst)with
  |none=>False
  |some s=>
   match look e s with
   |some (.b c)=>bif xor c b then K (er e o.dst .u) w else qA P free o e w K
   |some (.v x)=>
    Split x (bif b then qA P free o ((s,.b ms)::e) w K else K (er ((s,.b ms)::e) o.dst .u) w)
     (bif b then K (er ((s,.b ne)::e) o.dst .u) w else qA P free o ((s,.b ne)::e) w K)
   |some .u=>K (er e o.dst .u) w
   |none=>False
def qB(free:gh)(ops:Array T2):List T2->Env->x4->(Env->x4->Prop)->Prop
 |[],e,w,K=>K e w
 |o::l,e,w,K=>tH P free ops o e w λa I=>qB free ops l a I K
def wB(ops:Array T2)(o:T2)(e:Env)(w:x4)(K:Env->(x4->Prop)->Prop):Prop:=
 match o.guard with
 |none=>nu P o e w K
 |some (j,b)=>
  match(ops[j]?).bind (·.dst)with
  |none=>False
  |some s=>
   match look e s with
   |some (.b c)=>bif xor c b then K (er e o.dst .u) (λ_=>True)else nu P o e w K
   |some (.v x)=>
    Split x (bif b then nu P o ((s,.b ms)::e) w K else K (er ((s,.b ms)::e) o.dst .u) (λ_=>True))
     (bif b then K (er ((s,.b ne)::e) o.dst .u) (λ_=>True)else nu P o ((s,.b ne)::e) w K)
   |some .u=>K (er e o.dst .u) (λ_=>True)
   |none=>False
def nw(o:T2):Bool:=
 match o.op with
 | .move _| .assign _| .extract .. | .indexAddr ..=>ms
 |_=>ne
def og(ops:Array T2):List Nat->Option Nat
 |[]=>ν
 |i::r=>match ops[i]? with
  |some o=>bif lQ o then σ i else og ops r
  |none=>og ops r
def wC(p:Nat->Prop):List Nat->Prop
 |[]=>True
 |[i]=>p i
 |i::r=>p i/\wC p r
def mw(a:Array Nat)(j k:Nat):Bool:=!(S7 k j)&&(!((a.getD j 0).testBit k)&& !((a.getD k 0).testBit j))
def tI(same:Bool)(q:Nat)(w:x4)(st:x4->Prop)(a:List (x4×List (Nat×(x4->Prop)))):List (x4×List (Nat×(x4->Prop))):=
 match same,a with
 |true,g::r=>(g.1,(q,st)::g.2)::r
 |_,a=>(w,[(q,st)])::a
def rL(a:Array Nat)(j:Nat):List (Nat×(x4->Prop))->Bool
 |[]=>ne
 |x::r=>mw a j x.1||rL a j r
def rM(a:Array Nat)(j:Nat)(I:x4):List (Nat×(x4->Prop))->Prop
 |[]=>True
 |x::r=>bif mw a j x.1 then x.2 I/\rM a j I r else rM a j I r
def ph(a:Array Nat)(j:Nat)(I:x4)(C:Prop):List (x4×List (Nat×(x4->Prop)))->Prop
 |[]=>C
 |g::r=>bif rL a j g.2 then(Ext g.1 I\/rM a j I g.2)/\ph a j I C r else ph a j I C r
def oh(free:gh)(ops:Array T2)(f:Array Nat):Nat->Array Bool->Bool->List (x4×List (Nat×(x4->Prop)))->Env->x4->(Env->x4->Prop)->Prop
 |0,a,_,_,e,w,K=>match Region.ready .any ops a with|[]=>K e w|_=>False
 |fuel+1,a,same,h,e,w,K=>
  match Region.ready .any ops a with
  |[]=>K e w
  |i::r=>
   match og ops (i::r)with
   |some q=>
    bif Region.free .any ops a q then
     match ops[q]? with
     |some o=>wB P ops o e w λs st=>
       bif nw o then oh free ops f fuel (a.setIfInBounds q ms) same h s w K
       else oh free ops f fuel (a.setIfInBounds q ms) ms (tI same q w st h) s w K
     |none=>False
    else False
   |none=>
    wC (λj=>match ops[j]? with
     |some o=>tH P free ops o e w λs I=>ph f j I (oh free ops f fuel (a.setIfInBounds j ms) ne h s I K) h
     |none=>False) (i::r)
def wD(free:gh)(ops:Array T2)(e:Env)(w:x4)(K:Env->x4->Prop):Prop:=
 bif Region.noSelect ops then oh P free ops (Region.before ops) ops.size (Array.replicate ops.size ne) ne [] e w K else False
end
section
variable{P:W5}{N:Nat}{r:Option Nat}{free:gh}{ops:Array T2}
theorem H3{e:Env}{a:Act}(f:S5 N e a){s:Nat}{c:Bool}(q:(ops[j]?).bind (·.dst)=σ s){x:eU}(V:look e s=σ x)(J:x.val= .bool c):
  yielded ops a.tmps j=σ c:=by
 have h:=f.2 s x V;rw[J]at h;have r:a.tmps[s]?=σ (.bool c):=by
  rw[Array.getD_eq_getD_getElem?]at h
  grind [undef]
 grind [yielded]
theorem tJ{e:Env}{a:Act}(f:S5 N e a){o:T2}{s:Nat}{b c:Bool}(h:o.guard=σ (j,b))(q:(ops[j]?).bind (·.dst)=σ s){x:eU}(V:look e s=σ x)(J:x.val= .bool c):Region.wanted o (yielded ops a.tmps)= !(xor c b):=by
 simp only[Region.wanted,h,H3 f q V J]
 grind
theorem Ae{e:Env}{a:Act}(f:S5 N e a){o:T2}{s:Nat}{b:Bool}(q:o.guard=σ (j,b))(r:(ops[j]?).bind (·.dst)=σ s)(V:look e s=σ .u):Region.wanted o (yielded ops a.tmps)=ne:=by
 have h:=f.2 s .u V;have w:yielded ops a.tmps j=ν:=by
  rw[Array.getD_eq_getD_getElem?]at h
  grind [yielded,eU.val,undef]
 grind [Region.wanted]
theorem S5.lit{e:Env}{a:Act}(h:S5 N e a){s:Nat}{x:eU}{c:Bool}(V:look e s=σ x)(J:x.val= .bool c):S5 N ((s,.b c)::e) a:=by
 refine⟨h.1,λt y f=>?_⟩;simp only[look]at f;cases j:S7 s t with
 |true=>
  have:s=t:=Nat.eq_of_beq_eq_true j;subst this;simp only[j,cond_true,W9]at f;subst f;rw[h.2 s x V,J];rfl
 |false=>simp only[j,cond_false]at f;exact h.2 t y f
theorem Af{o:T2}{e:Env}{a:Act}{K:Env->x4->Prop}{Q:Exit->Act->x4->Prop}(h:tH P free ops o e w K)(f:S5 N e a)(q:k7 N o.dst=ms):
  (Region.wanted o (yielded ops a.tmps)=ms/\o.wpIn (eV r) 0 P a w (fK N free K o a w) Q)\/
  (Region.wanted o (yielded ops a.tmps)=ne/\fK N free K o a w (a.put o.dst undef) w):=by
 unfold tH at h;cases z:o.guard with
 |none=>grind [Region.wanted,tG]
 |some E=>
  obtain⟨j,b⟩:=E;rw[z]at h;simp only at h;cases A:(ops[j]?).bind (·.dst)with
  |none=>grind
  |some s=>
   rw[A]at h;simp only at h;cases V:look e s with
   |none=>grind
   |some x=>
    rw[V]at h;cases x with
    |b c=>
     simp only at h;have hw:=tJ f z A V rfl;cases J:xor c b with
     |true=>
      rw[J]at h hw;exact .inr ⟨hw,fK.of h f q rfl λ_=>cN.refl _ _⟩
     |false=>
      grind [tG]
    |v y=>
     simp only at h;obtain⟨c,rfl,B,ah⟩:=h;have hw:=tJ f z A V rfl;have C:=f.lit V rfl;cases c with
     |true=>
      have B:=B rfl;cases b with
      |true=>grind [tG]
      |false=>exact .inr ⟨hw,fK.of B C q rfl λ_=>cN.refl _ _⟩
     |false=>
      have ah:=ah rfl;cases b with
      |true=>exact .inr ⟨hw,fK.of ah C q rfl λ_=>cN.refl _ _⟩
      |false=>grind [tG]
    |u=>exact .inr ⟨Ae f z A V,fK.of h f q rfl λ_=>cN.refl _ _⟩
def ip(D:List Nat)(a a':Act):Prop:=a'.defers=a.defers/\∀t,t∉D->a'.tmps.getD t undef=a.tmps.getD t undef
theorem ip.refl(D:List Nat)(a:Act):ip D a a:=⟨rfl,λ_ _=>rfl⟩
theorem ip.F{a b c:Act}(h:ip D a b)(k:ip D b c):ip D a c:=⟨k.1.F h.1,λt e=>(k.2 t e).F (h.2 t e)⟩
theorem ip.put(a:Act){d:Option Tmp}(v:x1)(e:∀t,d=σ t->t∈D):ip D a (a.put d v):=by
 cases d with
 |none=>exact ip.refl _ _
 |some s=>
  refine⟨rfl,λt f=>?_⟩;have h:s≠t:=by grind
  simp only[Act.put,Array.getD_eq_getD_getElem?]
  grind
def oi(N:Nat)(free:gh)(K:Env->x4->Prop)(D:List Nat)(a:Act)(w:x4)(a':Act)(I:x4):Prop:=
 ∃e,K e I/\S5 N e a'/\ip D a a'/\(free.1=ne->cN free.2 w I)
theorem oi.step{K:Env->x4->Prop}{a e a':Act}{U:x4}(h:oi N free K D e U a' I)(hk:ip D a e)(f:free.1=ne->cN free.2 w U):
  oi N free K D a w a' I:=by
 obtain⟨j,h1,q,r,s⟩:=h;exact⟨j,h1,q,hk.F r,λah=>(f ah).F (s ah)⟩
def pi(N:Nat)(l:List T2):Bool:=l.all λo=>k7 N o.dst
theorem H4{K:Env->x4->Prop}{Q:Exit->Act->x4->Prop}(L:∀o∈ops.toList,∀t,o.dst=σ t->t∈D)(M:pi N ops.toList=ms):
  ∀(l:List T2)(k:Nat)(e:Env)(a:Act)(w:x4),(∀j,l[j]?=ops[k+j]?)->qB P free ops l e w K->S5 N e a->
   (∀a' I,oi N free K D a w a' I->Q .normal a' I)->wpOpsIn (eV r) 0 P ops Q (List.range' k l.length) a w:=by
 intro l;induction l with
 |nil=>
  intro k e a w _ h f q;exact q a w ⟨e,h,f,ip.refl _ _,λ_=>cN.refl _ _⟩
 |cons o l z=>
  intro k e a w x h f q;have y:=x 0;simp only[List.getElem?_cons_zero,Nat.add_zero]at y;have O:o∈ops.toList:=by
   grind
  have A:k7 N o.dst=ms:=by
   grind [pi]
  have B:∀j,l[j]?=ops[k+1+j]?:=λj=>by
   have:=x (j+1)
   grind
  have next:∀s U,fK N free (λC I=>qB P free ops l C I K) o a w s U->wpOpsIn (eV r) 0 P ops Q (List.range' (k+1) l.length) s U:=by
   rintro s U ⟨E,v,F,G,rfl,H⟩;refine z (k+1) E _ U B F G λa' I ae=>q a' I (ae.step (by grind [ip.put]) H)
  simp only[qB]at h;show wpOpsIn (eV r) 0 P ops Q (k::List.range' (k+1) l.length) a w;unfold wpOpsIn;rw[<-y];simp only;rcases Af h f A with⟨hw,J⟩|⟨hw,J⟩
  .rw[lw hw];exact T2.wpIn_mono next J
  .rw[hw];exact⟨λ_ _=>trivial,next _ _ J⟩
theorem H5{K:Env->x4->Prop}{Q:Exit->Act->x4->Prop}{id:Nat}{e:Env}{a:Act}(f:∀o∈ops.toList,∀t,o.dst=σ t->t∈D)(j:pi N ops.toList=ms)(h:qB P free ops ops.toList e w K)(q:S5 N e a)(s:∀a' I,oi N free K D a w a' I->Q .normal a' I):
  (Code.region id ops ne).wpIn (eV r) 0 P Q a w:=by
 refine wpIn_region ?_;have:=H4 (r:=r) f j ops.toList 0 e a w (by grind) h q s
 grind [List.range_eq_range']
end
section
variable{P:W5}{N:Nat}{r:Option Nat}{free:gh}{ops:Array T2}{Q:Exit->Act->x4->Prop}
theorem H6(e:Option Nat)(o:T2)(V:∀cs b,o.op≠ .select cs b)(a:Act)(d:Option Tmp)(v:x1)(h:∀t,d=σ t->t∉o.looksAt ops):
  o.semAt e (a.put d v).eval=o.semAt e a.eval:=by
 have he:=execOp_put o V a d v h;unfold T2.semAt;split
 .rename_i l c q;have:resolve (a.put d v).eval c o.type=resolve a.eval c o.type:=resolve_congr c o.type λx J=>Act.eval_put λt f j=>h t f (by
   subst j;refine List.mem_append_left _ (List.mem_filterMap.2 ⟨.tmp t,?_,rfl⟩)
   grind [Op.operands])
  rw[this]
 .exact he
def oj(o:T2)(w0:x4)(st:x4->Prop)(I:x4):Prop:=nw o=ms\/Ext w0 I\/∃U,st U/\Ext U I
theorem oj.W{o:T2}{w0:x4}{st:x4->Prop}(h:oj o w0 st w)(k:Ext w I):oj o w0 st I:=by
 rcases h with h|h|⟨U,h1,a⟩
 .exact .inl h
 .exact .inr (.inl (h.F k))
 .exact .inr (.inr ⟨U,h1,a.F k⟩)
theorem H7{o:T2}(hm:nw o=ms){a:S3->x1}(h:(execOp a o).run P w= .ok (.value v) w):(execOp a o).run P I= .ok (.value v) I:=by
 unfold nw at hm;split at hm
 .grind [execOp,V4]
 .grind [execOp,V4]
 .rename_i x i J;unfold execOp at h ⊢;simp only[J]at h ⊢;exact((Still.bind (Still.extract _ _) λ_=>Still.pure _) _ _ _ h).2 _
 .rename_i t x i J;unfold execOp at h ⊢;simp only[J]at h ⊢;exact((Still.bind (Still.indexAt _ _ _) λ_=>Still.pure _) _ _ _ h).2 _
 .cases hm
def jP(P:W5)(ops:Array T2)(o:T2)(v:x1)(a:Act)(w0:x4->Prop):Prop:=
 (Region.wanted o (yielded ops a.tmps)=ms/\(∀c,o.op≠ .defer c)/\∀I,w0 I->(execOp a.eval o).run P I= .ok (.value v) I)\/
 (Region.wanted o (yielded ops a.tmps)=ne/\v=undef)
theorem jP.put{o e:T2}{a:Act}{w0:x4->Prop}(f:jP P ops o v a w0)(V:∀cs b,o.op≠ .select cs b)(h:∀t,e.dst=σ t->t∉o.looksAt ops)(u:x1):
  jP P ops o v (a.put e.dst u) w0:=by
 unfold jP at*;rw[execOp_put o V a e.dst u h,wanted_put o a e.dst u h];exact f
theorem jP.go{i:Nat}{e:T2}{a:Act}{w0:x4->Prop}(hi:ops[i]?=σ e)(f:jP P ops e v a w0)(hw:w0 w){K:Act->x4->Prop}(h:K (a.put e.dst v) w):
  wpOpIn (eV r) 0 P ops Q i K a w:=by
 unfold wpOpIn;simp only[hi];rcases f with⟨h1,j,q⟩|⟨h1,rfl⟩
 .rw[lw h1];refine⟨λ_ _=>trivial,?_⟩
  grind [T2.semAt_eq,T2.uponIn_value]
 .rw[h1];exact⟨λ_ _=>trivial,h⟩
theorem H8{e f:T2}(s:ops[j]?=σ f)(y:e.apart ops f=ms)(z:∀cs b,e.op≠ .select cs b)(A:∀cs b,f.op≠ .select cs b)(E:∀c a w,¬Q (.panic c) a w){K:Act->x4->Prop}{a:Act}{w:x4}{w0:x4->Prop}(q:jP P ops e v a w0)(h:wpOpIn (eV r) 0 P ops Q j K (a.put e.dst v) w):
  wpOpIn (eV r) 0 P ops Q j (λa' I=>jP P ops e v a' w0/\K (a'.put e.dst v) I) a w:=by
 obtain⟨h1,F,B⟩:=T2.apart_spec y;have bb:∀(a:Act),jP P ops e v a w0->∀u,jP P ops e v (a.put f.dst u) w0:=λa q u=>q.put z B u;have G:∀d,jP P ops e v {a with defers:=d::a.defers} w0:=λd=>q;unfold wpOpIn at*;simp only[s]at*;rw[wanted_put f a e.dst v h1]at h;split
 .rename_i hw;simp only[hw,if_true]at h;obtain⟨_,h⟩:=h;refine⟨λ_ _=>trivial,?_⟩;rw[H6 _ f A a e.dst v h1]at h;generalize (f.semAt (eV r).round a.eval).run P w=C at*;cases C with
  |ok n I=>
   cases n<;>simp only[T2.uponIn]at h ⊢
   all_goals grind [Act.put_comm,Act.put_defers]
  |halt x I=>
   cases x<;>simp only[T2.uponIn]at h ⊢
   grind
 .rename_i hw;simp only[hw]at h;exact⟨λ_ _=>trivial,bb a q _,by grind [Act.put_comm]⟩
def nx(ops:Array T2)(a:Array Nat):Bool:=
 (X2 ops.size).all λj=>(X2 ops.size).all λk=>!((a.getD j 0).testBit k)||
  (match ops[j]? with
   |some o=>o.after.any λe=>Region.binds .any e&&Nat.blt e.on j&&(S7 e.on k||(a.getD e.on 0).testBit k)
   |none=>ne)
def Down(ops:Array T2)(a:Array Bool):Prop:=
 ∀(x:Nat)(o:T2),ops[x]?=σ o->a.getD x ne=ms->∀e∈o.after,Region.binds .any e=ms->a.getD e.on ne=ms
theorem Ag{a:Array Nat}(f:nx ops a=ms){k:Nat}(q:j<ops.size)(hk:k<ops.size)(h:(a.getD j 0).testBit k=ms):
  ∃o,ops[j]?=σ o/\∃e∈o.after,Region.binds .any e=ms/\e.on<j/\(e.on=k\/(a.getD e.on 0).testBit k=ms):=by
 simp only[nx,List.all_eq_true,List.mem_range]at f
 grind [Nat.blt_eq,Nat.eq_of_beq_eq_true]
theorem H9{f:Array Nat}{a:Array Bool}(q:nx ops f=ms)(r:Down ops a):∀(j k:Nat),j<ops.size->k<ops.size->a.getD j ne=ms->
  (f.getD j 0).testBit k=ms->a.getD k ne=ms:=by
 intro j;induction j using Nat.strongRecOn with
 |_ j y=>
  intro k s hk w h;obtain⟨o,aE,e,he,x,z,h⟩:=Ag q s hk h;have A:=r j o aE w e he x
  grind
theorem Ia{e:Array Nat}{a:Array Bool}(q:nx ops e=ms)(r:Down ops a){k:Nat}(hk:k<ops.size)(f:j∈Region.ready .any ops a)(h:(e.getD j 0).testBit k=ms):a.getD k ne=ms:=by
 obtain⟨_,o,aE,s⟩:=mem_ready.1 f
 grind [Ag,H9]
theorem Down.set{a:Array Bool}(h:Down ops a){i:Nat}(r:i∈Region.ready .any ops a):Down ops (a.setIfInBounds i ms):=by
 intro x o J f e he j;by_cases q:x=i
 .grind [mem_ready,getD_set_true]
 .rw[getD_set_ne ne (Ne.symm q)]at f;exact getD_set_true (h x o J f e he j)
def pj(ops:Array T2)(i:Nat):Bool:=match ops[i]? with
 |some o=>lQ o
 |none=>ne
def ol(a:Array Nat)(e:List (x4×List (Nat×(x4->Prop))))(j:Nat)(I:x4):Prop:=∀g∈e,∀x∈g.2,mw a j x.1=ms->Ext g.1 I\/x.2 I
theorem wE{a:Array Nat}{j:Nat}{I:x4}:∀{l:List (Nat×(x4->Prop))},rM a j I l->∀x∈l,mw a j x.1=ms->x.2 I
 |[],_,_,h,_=>by cases h
 |y::l,h,x,J,hu=>by
  unfold rM at h;cases e:mw a j y.1 with
  |true=>
   rw[e]at h;cases J with
   |head=>exact h.1
   |tail _ J=>exact wE h.2 x J hu
  |false=>
   rw[e]at h;cases J with
   |head=>grind
   |tail _ J=>exact wE (by grind) x J hu
theorem Ib{e:Array Nat}:∀{l:List (Nat×(x4->Prop))},rL e j l=ne->∀x∈l,mw e j x.1=ne
 :=by
 intro a;induction a<;>grind [rL]
theorem wF{e:Array Nat}{j:Nat}{I:x4}{C:Prop}:∀{w:List (x4×List (Nat×(x4->Prop)))},ph e j I C w->C/\ol e w j I
 |[],h=>⟨h,λg y=>by cases y⟩
 |g::r,h=>by
  unfold ph at h;cases hu:rL e j g.2 with
  |true=>
   rw[hu]at h;obtain⟨h1,f⟩:=wF h.2;refine⟨h1,λq a x J s=>?_⟩;cases a with
   |head=>grind [wE]
   |tail _ a=>exact f q a x J s
  |false=>
   rw[hu]at h;obtain⟨h1,f⟩:=wF (show ph e j I C r from h);refine⟨h1,λq a x J s=>?_⟩;cases a with
   |head=>grind [Ib]
   |tail _ a=>exact f q a x J s
def wG(ops:Array T2)(a:Array Nat)(e:List (x4×List (Nat×(x4->Prop))))(j:Nat)(w I:x4):Prop:=(pj ops j=ms->Ext w I)/\(pj ops j=ne->ol a e j I)
def kg(r:Option Nat)(P:W5)(ops:Array T2)(f:Array Nat)(Q:Exit->Act->x4->Prop):Nat->Array Bool->List (x4×List (Nat×(x4->Prop)))->Act->x4->Prop
 |0,e,_,a,w=>Region.ready .any ops e=[]/\Q .normal a w
 |fuel+1,e,h,a,w=>(Region.ready .any ops e=[]->Q .normal a w)/\
  ∀i∈Region.ready .any ops e,wpOpIn (eV r) 0 P ops Q i (λa' I=>wG ops f h i w I/\kg r P ops f Q fuel (e.setIfInBounds i ms) h a' I) a w
theorem kg.any{f:Array Nat}:∀(fuel:Nat)(e:Array Bool)(h:List (x4×List (Nat×(x4->Prop))))(a:Act)(w:x4),kg r P ops f Q fuel e h a w->wpAnyIn (eV r) 0 P .any ops Q fuel e a w
 :=by
 intro a;induction a<;>grind [wpOpIn_mono,kg,wpAnyIn]
theorem Ic{e:Array Nat}{a:Array Bool}(h:nx ops e=ms)(q:Down ops a){i:Nat}{f:T2}(hi:ops[i]?=σ f)(r:i∈Region.ready .any ops a)(s:j∈Region.ready .any ops a)(w:j≠i):mw e j i=ms:=by
 grind [mem_ready,mw,Nat.eq_of_beq_eq_true,Ia]
theorem kg.take{q:Array Nat}(O:nx ops q=ms)(R:Region.noSelect ops=ms)(S:∀c a w,¬Q (.panic c) a w){i:Nat}{s:T2}(hi:ops[i]?=σ s)(ac:lQ s=ms){w0:x4}{B C:List (x4×List (Nat×(x4->Prop)))}(G:∀j I,ol q C j I->ol q B j I){st:x4->Prop}(T:nw s=ne->∀j I,mw q j i=ms->ol q C j I->Ext w0 I\/st I):
  ∀(fuel:Nat)(f:Array Bool)(a:Act)(w:x4),Down ops f->
   (∀j z,ops[j]?=σ z->j≠i->f.getD j ms=ne->(∀e∈z.after,Region.binds .any e=ms->e.on≠i)->s.apart ops z=ms)->
   i∈Region.ready .any ops f->jP P ops s v a (oj s w0 st)->oj s w0 st w->
   kg r P ops q Q fuel (f.setIfInBounds i ms) C (a.put s.dst v) w->kg r P ops q Q (fuel+1) f B a w:=by
 have ad:=Region.noSelect_spec R;have U:pj ops i=ms:=by grind [pj]
 have kh:∀(fuel:Nat)(f:Array Bool)(a:Act)(w:x4),kg r P ops q Q fuel f C a w->kg r P ops q Q fuel f B a w:=by
  intro fuel;induction fuel with
  |zero=>intro f a w h;exact h
  |succ fuel J=>intro f a w h;exact⟨h.1,λj x=>wpOpIn_mono (λa' I bg=>⟨⟨bg.1.1,λF=>G _ _ (bg.1.2 F)⟩,by grind⟩) (h.2 j x)⟩
 have ae:∀w,wG ops q B i w w:=λw=>⟨λ_=>Ext.refl _,λh=>by rw[U]at h;cases h⟩;intro fuel;induction fuel with
 |zero=>
  intro f a w _ _ K E hw H;refine⟨by grind,λj x=>?_⟩;by_cases y:j=i
  .subst y;exact E.go hi hw (by grind)
  .have:=ready_mono x y;rw[H.1]at this;cases this
 |succ fuel J=>
  intro f a w L V K E hw H;refine⟨by grind,λj x=>?_⟩;by_cases y:j=i
  .subst y;exact E.go hi hw (by grind)
  .have h1:=H.2 j (ready_mono x y);have hu:=Ic O L hi K x y;obtain⟨af,z,W,ag⟩:=mem_ready.1 x;have ah:∀e∈z.after,Region.binds .any e=ms->e.on≠i:=by grind [mem_ready]
   have X:=H8 W (by grind) (by grind) (by grind) S E h1;have Y:∀k ok,ops[k]?=σ ok->k≠i->(f.setIfInBounds j ms).getD k ms=ne->
     (∀e∈ok.after,Region.binds .any e=ms->e.on≠i)->s.apart ops ok=ms:=λk ok hk Z M aa=>by
    refine V k ok hk Z ?_ aa;by_cases ab:j=k
    .grind
    .rw[getD_set_ne ms ab]at M;exact M
   refine wpOpIn_mono (λa' I A=>⟨⟨A.2.1.1,λF=>G _ _ (A.2.1.2 F)⟩,J (f.setIfInBounds j ms) a' I (L.set x) Y (by grind [ready_mono]) A.1 ?_ ?_⟩) X
   .cases hm:nw s with
    |true=>exact .inl hm
    |false=>
     cases N:pj ops j with
     |true=>exact hw.W (A.2.1.1 N)
     |false=>exact .inr ((T hm j I hu (A.2.1.2 N)).imp id (by grind [Ext.refl]))
   grind [Array.setIfInBounds_comm]
theorem Ah{p:Nat->Prop}:∀{l:List Nat},wC p l->∀i∈l,p i
 |[],_,_,h=>by cases h
 |[i],h,j,a=>by cases a with
  |head=>exact h
  |tail _ h=>cases h
 |i::k::l,h,j,a=>by
  obtain⟨h1,e⟩:=h;cases a with
  |head=>exact h1
  |tail _ a=>exact Ah e j a
theorem Ie:∀{l:List Nat}{q:Nat},og ops l=σ q->q∈l/\∃o,ops[q]?=σ o/\lQ o=ms
 :=by
 intro a;induction a<;>grind [og]
theorem If{o:T2}{e:Env}{a:Act}{K:Env->(x4->Prop)->Prop}(h:wB P ops o e w K)(q:S5 N e a)(A:k7 N o.dst=ms):
  ∃v st,jP P ops o v a (oj o w st)/\∃f,K f st/\S5 N f (a.put o.dst v):=by
 unfold wB at h;have F:∀{e:Env},S5 N e a->nu P o e w K->Region.wanted o (yielded ops a.tmps)=ms->∃v st,jP P ops o v a (oj o w st)/\∃f,K f st/\S5 N f (a.put o.dst v):=λq h hw=>by
  obtain⟨v,st,h1,B,C,G⟩:=Ad h q A;exact⟨v,st,.inl ⟨hw,C,λI J=>J.elim (λhm=>H7 hm (h1 w (Ext.refl w))) (by grind)⟩,B⟩
 have skip:∀{e:Env},S5 N e a->K (er e o.dst .u) (λ_=>True)->Region.wanted o (yielded ops a.tmps)=ne->∃v st,jP P ops o v a (oj o w st)/\∃f,K f st/\S5 N f (a.put o.dst v):=λq h hw=>
  ⟨undef,_,.inr ⟨hw,rfl⟩,_,h,q.put A rfl⟩
 cases r:o.guard with
 |none=>grind [Region.wanted]
 |some E=>
  obtain⟨j,b⟩:=E;rw[r]at h;simp only at h;cases z:(ops[j]?).bind (·.dst)with
  |none=>grind
  |some s=>
   rw[z]at h;simp only at h;cases V:look e s with
   |none=>grind
   |some x=>
    rw[V]at h;cases x with
    |b c=>
     simp only at h;have hw:=tJ q r z V rfl
     grind
    |v y=>
     simp only at h;obtain⟨c,rfl,H,ah⟩:=h;have hw:=tJ q r z V rfl;have L:=q.lit V rfl
     grind
    |u=>grind [Ae]
theorem Ig:∀{l:List Nat},og ops l=ν->∀j∈l,pj ops j=ne
 :=by
 intro a;induction a<;>grind [og,pj]
theorem Ih{s:Array Nat}{same:Bool}{q:Nat}{st:x4->Prop}{e:List (x4×List (Nat×(x4->Prop)))}(V:same=ms->∃a r,e=(w,a)::r):
  (∀j I,ol s (tI same q w st e) j I->ol s e j I)/\(∀j I,mw s j q=ms->ol s (tI same q w st e) j I->Ext w I\/st I)/\∃a r,tI same q w st e=(w,a)::r:=by
 cases same with
 |true=>
  obtain⟨a,r,rfl⟩:=V rfl;refine⟨λj I h g f x J hu=>?_,λj I hu h=>h (w,(q,st)::a) (.head _) (q,st) (.head _) hu,_,_,rfl⟩;cases f with
  |head=>exact h (w,(q,st)::a) (.head _) x (.tail _ J) hu
  |tail _ f=>exact h g (.tail _ f) x J hu
 |false=>
  refine⟨λj I h g f x J hu=>h g (.tail _ f) x J hu,λj I hu h=>h (w,[(q,st)]) (.head _) (q,st) (.head _) hu,_,_,rfl⟩
theorem Ii{K:Env->x4->Prop}{y:Array Nat}(S:nx ops y=ms)(T:Region.noSelect ops=ms)(V:∀c a w,¬Q (.panic c) a w)(aj:∀o∈ops.toList,∀t,o.dst=σ t->t∈D)(ak:pi N ops.toList=ms):
  ∀(fuel:Nat)(f:Array Bool)(same:Bool)(s:List (x4×List (Nat×(x4->Prop))))(e:Env)(a:Act)(w:x4),Down ops f->(same=ms->∃aa r,s=(w,aa)::r)->
   oh P free ops y fuel f same s e w K->S5 N e a->
   (∀a' I,oi N free K D a w a' I->Q .normal a' I)->kg r P ops y Q fuel f s a w:=by
 have al:∀{j:Nat}{o:T2},ops[j]?=σ o->o∈ops.toList:=λh=>by
  grind
 have ok:∀{j:Nat}{o:T2},ops[j]?=σ o->k7 N o.dst=ms:=by grind [pi]
 intro fuel;induction fuel with
 |zero=>
  intro f same s e a w A H h C B;unfold oh at h;cases z:Region.ready .any ops f with
  |nil=>rw[z]at h;exact⟨z,B a w ⟨e,h,C,ip.refl _ _,λ_=>cN.refl _ _⟩⟩
  |cons i l=>grind
 |succ fuel L=>
  intro f same s e a w A H h C B;unfold oh at h;cases z:Region.ready .any ops f with
  |nil=>
   rw[z]at h;refine⟨λ_=>B a w ⟨e,h,C,ip.refl _ _,λ_=>cN.refl _ _⟩,λi hi=>?_⟩;rw[z]at hi;cases hi
  |cons i l=>
   rw[z]at h;simp only at h;cases E:og ops (i::l)with
   |some q=>
    rw[E]at h;simp only at h;obtain⟨am,o,aE,W⟩:=Ie E;cases M:Region.free .any ops f q with
    |false=>grind
    |true=>
     rw[M,aE]at h;simp only[cond_true]at h;obtain⟨v,st,X,F,x,Y⟩:=If h C (ok aE);have G:q∈Region.ready .any ops f:=by grind
     cases hm:nw o with
     |true=>
      rw[hm]at x;refine kg.take S T V aE W (λ_ _ h=>h) (by grind) fuel f a w A (Region.free_spec aE M) G X (.inr (.inl (Ext.refl _))) ?_;exact L _ same s F _ w (A.set G) H x Y λa' I ae=>B a' I (ae.step (by grind [ip.put]) λ_=>cN.refl _ _)
     |false=>
      rw[hm]at x;obtain⟨h1,ab,ac⟩:=Ih H;refine kg.take S T V aE W h1 (λ_=>ab) fuel f a w A (Region.free_spec aE M) G X (.inr (.inl (Ext.refl _))) ?_;exact L _ ms _ F _ w (A.set G) (λ_=>ac) x Y λa' I ae=>B a' I (ae.step (by grind [ip.put]) λ_=>cN.refl _ _)
   |none=>
    rw[E]at h;simp only at h;refine⟨by grind,λj Z=>?_⟩;have O:=Z;rw[z]at O;have ad:=Ig E j O;have ae:=Ah h j O;cases aE:ops[j]? with
    |none=>rw[aE]at ae;exact ae.elim
    |some o=>
     rw[aE]at ae;simp only at ae;unfold wpOpIn;simp only[aE];have next:∀R U,fK N free (λF I=>ph y j I (oh P free ops y fuel (f.setIfInBounds j ms) ne s F I K) s) o a w R U->
       wG ops y s j w U/\kg r P ops y Q fuel (f.setIfInBounds j ms) s R U:=by
      rintro R U ⟨af,v,x,ag,rfl,ah⟩;obtain⟨x,ai⟩:=wF x;exact⟨⟨λh=>(by rw[ad]at h;cases h),λ_=>ai⟩,
       L _ ne s af _ U (A.set Z) (by grind) x ag λa' I ae=>B a' I (ae.step (by grind [ip.put]) ah)⟩
     rcases Af ae C (ok aE)with⟨hw,J⟩|⟨hw,J⟩
     .rw[lw hw];exact T2.wpIn_mono next J
     .rw[hw];exact⟨λ_ _=>trivial,next _ _ J⟩
theorem Ij(hm:P.follows .mixedOrders=ms){K:Env->x4->Prop}{id:Nat}{e:Env}{a:Act}(j:nx ops (Region.before ops)=ms)(q:∀c a w,¬Q (.panic c) a w)(s:∀o∈ops.toList,∀t,o.dst=σ t->t∈D)(y:pi N ops.toList=ms)(h:∀I,Ext w I->Ext I w->cR w I->wD P free ops e I K)(z:S5 N e a)(A:∀a' I,oi N free K D a w a' I->Q .normal a' I):
  (Code.region id ops ms).wpIn (eV r) 0 P Q a w:=by
 refine wpIn_region_any hm ?_;have h:=h {w with drawn:=w.drawn+1} (tB w _) ⟨p9 _,λ_ _ h _=>h⟩ (by grind [rG]);unfold wD at h;cases f:Region.noSelect ops with
 |false=>grind
 |true=>
  rw[f]at h;refine kg.any _ _ _ _ _ (Ii j f q s y ops.size _ ne [] e a _ ?_ (by grind) h z λa' I ae=>A a' I (ae.step (ip.refl _ _) λ_=>(rG w _ (Nat.le_succ _)).b));intro x o _ B;rcases Nat.lt_or_ge x ops.size with bg|bg
  .simp[bg]at B
  grind
end
def lS(t:Nat):List Nat->Bool
 |[]=>ne
 |s::r=>bif S7 s t then ms else lS t r
theorem Ik{t:Nat}:∀{l:List Nat},lS t l=ms↔t∈l
 :=by
 intro a;induction a<;>grind [lS,Nat.eq_of_beq_eq_true,Nat.ne_of_beq_eq_false]
def pk:List T2->List Nat
 |[]=>[]
 |o::l=>match o.dst with
  |some d=>d::pk l
  |none=>pk l
def tmpsOf:List S3->List Nat
 |[]=>[]
 | .tmp t::l=>t::tmpsOf l
 |_::l=>tmpsOf l
def Il(ops:Array T2)(o:T2):List Nat:=
 match o.guard with
 |some (j,_)=>match(ops[j]?).bind (·.dst)with
  |some s=>[s]
  |none=>[]
 |none=>[]
def tK(D:List Nat):List Nat->List Nat
 |[]=>[]
 |t::r=>bif lS t D then tK D r else t::tK D r
def wH(D:List Nat):List Nat->List Nat
 |[]=>[]
 |t::r=>bif lS t D then t::wH D r else wH D r
def Ai(ops:Array T2):List T2->List Nat->List Nat
 |[],_=>[]
 |o::l,D=>tK D (tmpsOf (opsOf o.op)++Il ops o)++Ai ops l (match o.dst with
  |some d=>d::D
  |none=>D)
def dR:Code->List Nat
 | .region _ ops _=>pk ops.toList
 | .seq a b=>dR a++dR b
 | .cond _ a b=>dR a++dR b
 | .block _ c=>dR c
 | .loop c=>dR c
 | .scope c=>dR c
 |_=>[]
def k8(id:Nat):Code->Nat
 | .seq a b=>k8 id a+k8 id b
 | .cond _ a b=>k8 id a+k8 id b
 | .block _ c=>k8 id c
 | .loop c=>k8 id c
 | .scope c=>k8 id c
 | .exit i=>bif S7 i id then 1 else 0
 | .rangeFunc _ _ _ b=>k8 id b
 |_=>0
def Im(ops:Array T2):Bool:=
 let a:=Region.before ops;let e:=λ(i:Nat)=>match ops[i]? with|some o=>!(lQ o)|none=>ne
 (X2 ops.size).any λj=>e j&&((X2 j).any λi=>e i&&(!((a.getD j 0).testBit i)&& !((a.getD i 0).testBit j)))
def my:Code->Nat
 | .region _ ops e=>bif (e&&Im ops)||ops.any (·.guard.isSome)then 2 else 1
 | .seq a b=>bif S7 (my a) 0 then 0 else my b
 | .cond _ a b=>my a+my b
 | .block id c=>my c+k8 id c
 | .loop _=>0
 | .scope c=>my c
 | .exit _=>0
 | .goto _=>0
 | .ret=>0
 | .refuse _=>0
 |_=>1
def ny:Code->List Nat
 | .region _ ops _=>pk ops.toList
 | .seq a b=>ny a++ny b
 | .cond _ a b=>bif S7 (my a) 0 then ny b else bif S7 (my b) 0 then ny a else wH (ny a) (ny b)
 | .block id c=>bif S7 (k8 id c) 0 then ny c else[]
 | .scope c=>ny c
 |_=>[]
def reads:Code->List Nat
 | .region _ ops _=>Ai ops ops.toList []
 | .seq a b=>reads a++tK (ny a) (reads b)
 | .cond c a b=>tmpsOf [c]++(reads a++reads b)
 | .block _ c=>reads c
 | .loop c=>reads c
 | .scope c=>reads c
 | .rangeFunc f _ a b=>tmpsOf [f]++(reads a++reads b)
 |_=>[]
def lT:Code->Bool
 | .seq a b=>lT a||lT b
 | .cond _ a b=>lT a||lT b
 | .block _ c=>lT c
 | .loop c=>lT c
 | .scope c=>lT c
 | .rangeFunc ..=>ms
 |_=>ne
def wf(N:Nat):Code->Bool
 | .region _ ops e=>pi N ops.toList&&(!e||nx ops (Region.before ops))
 | .seq a b=>wf N a&&wf N b
 | .cond _ a b=>wf N a&&wf N b
 | .block _ c=>wf N c
 | .loop c=>wf N c
 | .scope c=>wf N c
 | .rangeFunc _ f a b=>(f.toList.all λt=>Nat.blt t N)&&(wf N a&&wf N b)
 |_=>ms
def pm:Nat->Type->Type
 |0,β=>β
 |n+1,β=>x1->pm n β
def app{β:Type}:(n:Nat)->pm n β->List x1->β
 |0,f,_=>f
 |n+1,f,[]=>app n (f undef) []
 |n+1,f,v::r=>app n (f v) r
def lam{β:Type}:(n:Nat)->(List x1->β)->pm n β
 |0,f=>f []
 |n+1,f=>λv=>lam n λr=>f (v::r)
def tL:(n:Nat)->pm n Prop->Prop
 |0,p=>p
 |n+1,p=>∀v,tL n (p v)
theorem wI{β:Type}:∀(n:Nat)(f:List x1->β)(vs:List x1),vs.length=n->app n (lam n f) vs=f vs
 :=by
 intro a b c;induction c generalizing a b<;>grind [app,lam]
theorem tM:∀(n:Nat)(p:pm n Prop)(vs:List x1),tL n p->app n p vs
 |0,_,_,h=>h
 |n+1,_,[],h=>tM n _ [] (h undef)
 |n+1,_,v::r,h=>tM n _ r (h v)
def In(n:Nat)(vs:List x1)(w:x4)(B:List x1->x4->(List x1->x4->Prop)->Prop):Prop:=
 ∃(a:pm n (x4->Prop))(e:pm n (x4->Nat)),app n a vs w/\
  tL n (lam n λus=>∀I,app n a us I->B us I λf h=>app n a f h/\app n e f h<app n e us I)
def Io(w:x4)(B:x4->(x4->Prop)->Prop):Prop:=
 ∃(a:x4->Prop)(e:x4->Nat),a w/\∀I,a I->B I λf=>a f/\e f<e I
def b6(a:x1)(w:x4)(B:x1->x4->(x1->x4->Prop)->Prop):Prop:=
 ∃(e:x1->x4->Prop)(f:x1->x4->Nat),e a w/\∀a I,e a I->B a I λa' h=>e a' h/\f a' h<f a I
def cb(a b:x1)(w:x4)(B:x1->x1->x4->(x1->x1->x4->Prop)->Prop):Prop:=
 ∃(e:x1->x1->x4->Prop)(f:x1->x1->x4->Nat),e a b w/\∀a b I,e a b I->B a b I λa' h j=>e a' h j/\f a' h j<f a b I
def k9(a b c:x1)(w:x4)(B:x1->x1->x1->x4->(x1->x1->x1->x4->Prop)->Prop):Prop:=
 ∃(e:x1->x1->x1->x4->Prop)(f:x1->x1->x1->x4->Nat),e a b c w/\
  ∀a b c I,e a b c I->B a b c I λa' h j q=>e a' h j q/\f a' h j q<f a b c I
def rN(a b c d:x1)(w:x4)(B:x1->x1->x1->x1->x4->(x1->x1->x1->x1->x4->Prop)->Prop):Prop:=
 ∃(e:x1->x1->x1->x1->x4->Prop)(f:x1->x1->x1->x1->x4->Nat),e a b c d w/\
  ∀a b c d I,e a b c d I->B a b c d I λa' h j q r=>e a' h j q r/\f a' h j q r<f a b c d I
def rO(a b c d e:x1)(w:x4)(B:x1->x1->x1->x1->x1->x4->(x1->x1->x1->x1->x1->x4->Prop)->Prop):Prop:=
 ∃(f:x1->x1->x1->x1->x1->x4->Prop)(h:x1->x1->x1->x1->x1->x4->Nat),f a b c d e w/\∀a b c d e I,f a b c d e I->B a b c d e I λa' j q r s x=>f a' j q r s x/\h a' j q r s x<h a b c d e I
def Ip(a b c d e f:x1)(w:x4)(B:x1->x1->x1->x1->x1->x1->x4->(x1->x1->x1->x1->x1->x1->x4->Prop)->Prop):Prop:=
 ∃(h:x1->x1->x1->x1->x1->x1->x4->Prop)(j:x1->x1->x1->x1->x1->x1->x4->Nat),h a b c d e f w/\∀a b c d e f I,h a b c d e f I->B a b c d e f I λa' q r s x y z=>h a' q r s x y z/\j a' q r s x y z<j a b c d e f I
def cC{α:Type}(aA:α)(B:α->Prop):Prop:=B aA
def wJ(n:Nat)(w:x4)(K:x4->Prop):Prop:=∀I,Ext w I->Ext I w/\gg n w I->K I
def Over(n:Nat)(w:x4)(K:x4->Prop):Prop:=∀I,Ext w I->Ext I w/\gg n w I->fl w I->K I
def eP(w:x4)(K:x4->Prop):Prop:=∀I,Ext w I->Ext I w->cR w I->K I
def lU(e:Env):List Nat->Option (List x1)
 |[]=>σ []
 |t::r=>match look e t with
  |some x=>match lU e r with
   |some vs=>σ (x.val::vs)
   |none=>ν
  |none=>ν
def kI:List Nat->List x1->Env->Env
 |t::r,v::vs,e=>(t,.v v)::kI r vs e
 |_,_,e=>e
def om(D:List Nat):Env->Env
 |[]=>[]
 |(t,x)::r=>bif lS t D then om D r else(t,x)::om D r
def rP(N:Nat)(D R:List Nat):List Nat:=(X2 N).filter λt=>lS t D&&lS t R
def rQ(N:Nat)(D R:List Nat)(e:Env):List Nat:=(X2 N).filter λt=>lS t D&&((look e t).isSome&&lS t R)
def kJ:Code->Bool
 | .seq a b=>kJ a||kJ b
 | .cond _ a b=>kJ a||kJ b
 | .block _ c=>kJ c
 | .loop c=>kJ c
 | .scope c=>kJ c
 | .rangeFunc _ _ a b=>kJ a||kJ b
 | .ret=>ms
 |_=>ne
def Iq(i:Nat)(l:List Nat):List Nat:=bif lS i l then l else i::l
def tN:List Nat->List Nat->List Nat
 |[],l=>l
 |i::r,l=>Iq i (tN r l)
def wK(i:Nat):List Nat->List Nat
 |[]=>[]
 |j::r=>bif S7 i j then wK i r else j::wK i r
def la:Code->List Nat
 | .seq a b=>tN (la a) (la b)
 | .cond _ a b=>tN (la a) (la b)
 | .block id c=>wK id (la c)
 | .loop c=>la c
 | .scope c=>la c
 | .rangeFunc _ _ a b=>tN (la a) (la b)
 | .exit i=>[i]
 |_=>[]
def oo:List (Nat×(x4->Prop))->Nat->x4->Prop
 |[],_,_=>False
 |(j,k)::r,i,w=>(i=j/\k w)\/oo r i w
def tO(K:Nat->x4->Prop):List Nat->List (Nat×(x4->Prop))
 |[]=>[]
 |i::r=>(i,λw=>K i w)::tO K r
theorem Ir{K:Nat->x4->Prop}:∀{l:List Nat}{i:Nat}{w:x4},oo (tO K l) i w->K i w
 :=by
 intro a;induction a<;>grind [oo,tO]
section
variable(P:W5)
def qC{a:Type}(G:Bool)(g:S9)(cap:List x1)(q:a)(r:a->Prop)(s:a->List x1->a->x4->Prop)(h:x4->Prop):Prop:=
 Enters P g/\∀(l:Nat)(aA e:a->x4->Prop)(w:x4),
  (∀k U ab,Ext U ab->cN w.heap.size U ab->aA k U->aA k ab)->(∀k U ab,Ext U ab->cN w.heap.size U ab->e k U->e k ab)->
  (∀k j vs I,h I->s k vs j I->aA k I->jv P l vs I λv f=>(v= .bool ms/\h f/\aA j f/\(G=ms->cR I f))\/(v= .bool ne/\e k f))->
  h w->aA q w->io P g (.func (.yield l) #[] #[]::cap) w λ_ I=>(∃k,r k/\aA k I)\/∃k,e k I
def wL(G:Bool)(g:S9)(cap:List x1)(n:Nat)(h:Nat->List x1->x4->Prop)(f:x4->Prop):Prop:=
 Enters P g/\∀(l:Nat)(aA a:Nat->x4->Prop)(w:x4),
  (∀k U ab,Ext U ab->cN w.heap.size U ab->aA k U->aA k ab)->(∀k U ab,Ext U ab->cN w.heap.size U ab->a k U->a k ab)->
  (∀k vs I,k<n->f I->h k vs I->aA k I->jv P l vs I λv e=>(v= .bool ms/\f e/\aA (k+1) e/\(G=ms->cR I e))\/(v= .bool ne/\a k e))->
  f w->aA 0 w->io P g (.func (.yield l) #[] #[]::cap) w λ_ I=>aA n I\/∃k,k<n/\a k I
def rR{e:Type}(o G:Bool)(g:S9)(cap:List x1)(q:e)(s:e->Prop)(x:e->List x1->e->x4->Prop)(h:(Nat->Prop)->x4->Prop):Prop:=
 Enters P g/\∀(l:Nat)(aA f:(Nat->Prop)->e->x4->Prop)(w:x4),
  (∀D k U ab,aj (λr=>o=ms/\w.heap.size<=r/\¬D r) U ab->gg w.heap.size U ab->aA D k U->aA D k ab)->
  (∀D k U ab,aj (λr=>o=ms/\w.heap.size<=r/\¬D r) U ab->gg w.heap.size U ab->f D k U->f D k ab)->
  (∀D k j vs I,(∀r,D r->w.heap.size<=r/\r<I.heap.size)->w.heap.size<=I.heap.size->h D I->x k vs j I->aA D k I->jv P l vs I λv a=>
   (v= .bool ms/\(∃D',(∀r,D' r->D r\/I.heap.size<=r/\r<a.heap.size)/\(∀r,D r->D' r)/\h D' a/\aA D' j a)/\(G=ms\/o=ms->cR I a)/\I.heap.size<=a.heap.size/\(o=ms->aj (λr=>r<w.heap.size\/D r) I a))\/(o=ne/\v= .bool ne/\f D k a))->
  (h (λ_=>False) w)->aA (λ_=>False) q w->io P g (.func (.yield l) #[] #[]::cap) w λ_ I=>(∃D k,s k/\aA D k I)\/∃D k,f D k I
abbrev pn(g:S9)(cap:List x1)(n:Nat)(a:Nat->List x1->x4->Prop)(e:x4->Prop):Prop:=wL P ne g cap n a e
def Is(A:x1)(s:Nat)(w:x4)(B:List x1->x4->(Exit->x4->Prop)->Prop)(C E:x4->Prop)(F:List (Nat×(x4->Prop))):Prop:=
 ∃(h:Type)(o G:Bool)(g:S9)(cap:Array x1)(y:h)(z:h->Prop)(x:h->List x1->h->x4->Prop)(e:(Nat->Prop)->x4->Prop)(f:(Nat->Prop)->h->x4->Prop)(j:(Nat->Prop)->h->Exit->x4->Prop),
  A= .func (.func g) #[] cap/\rR P o G g cap.toList y z x e/\(∀k vs q w,x k vs q w->vs.length=s)/\
  (∀m w I,Ext w I->e m w->e m I)/\(∀m k U ab,aj (λr=>o=ms/\w.heap.size<=r/\¬m r) U ab->gg w.heap.size U ab->f m k U->f m k ab)/\(∀m k ex U ab,aj (λr=>o=ms/\w.heap.size<=r/\¬m r) U ab->gg w.heap.size U ab->j m k ex U->j m k ex ab)/\
  e (λ_=>False) w/\f (λ_=>False) y w/\
  tL s (lam s λvs=>∀m k q I,(∀r,m r->w.heap.size<=r/\r<I.heap.size)->w.heap.size<=I.heap.size->e m I->x k vs q I->f m k I->B vs I λex a=>match ex with
   | .normal=>bif o then(∃bX,(∀r,bX r->m r\/I.heap.size<=r/\r<a.heap.size)/\(∀r,m r->bX r)/\e bX a/\f bX q a)/\fl I a/\aj (λr=>r<w.heap.size\/m r) I a else e m a/\f m q a/\(G=ms->fl I a)
   |ex=>bif o then False else j m k ex a)/\
  (∀m k I,z k->f m k I->C I)/\(∀m k I,j m k .ret I->E I)/\(∀m k i I,j m k (.exit i) I->oo F i I)
def ki(A:x1)(w:x4)(B:x1->x4->(Exit->x4->Prop)->Prop)(C E:x4->Prop)(F:List (Nat×(x4->Prop))):Prop:=
 ∃(j:Type)(o G:Bool)(g:S9)(cap:Array x1)(y:j)(z:j->Prop)(x:j->List x1->j->x4->Prop)(f:(Nat->Prop)->x4->Prop)(h:(Nat->Prop)->j->x4->Prop)(q:(Nat->Prop)->j->Exit->x4->Prop),
  A= .func (.func g) #[] cap/\rR P o G g cap.toList y z x f/\(∀k vs s w,x k vs s w->vs.length=1)/\
  (∀m w I,Ext w I->f m w->f m I)/\(∀m k U ab,aj (λr=>o=ms/\w.heap.size<=r/\¬m r) U ab->gg w.heap.size U ab->h m k U->h m k ab)/\(∀m k ex U ab,aj (λr=>o=ms/\w.heap.size<=r/\¬m r) U ab->gg w.heap.size U ab->q m k ex U->q m k ex ab)/\
  f (λ_=>False) w/\h (λ_=>False) y w/\
  (∀a,∀m k s I,(∀r,m r->w.heap.size<=r/\r<I.heap.size)->w.heap.size<=I.heap.size->f m I->x k [a] s I->h m k I->B a I λex e=>match ex with
   | .normal=>bif o then(∃bX,(∀r,bX r->m r\/I.heap.size<=r/\r<e.heap.size)/\(∀r,m r->bX r)/\f bX e/\h bX s e)/\fl I e/\aj (λr=>r<w.heap.size\/m r) I e else f m e/\h m s e/\(G=ms->fl I e)
   |ex=>bif o then False else q m k ex e)/\
  (∀m k I,z k->h m k I->C I)/\(∀m k I,q m k .ret I->E I)/\(∀m k i I,q m k (.exit i) I->oo F i I)
def oq(A:x1)(w:x4)(B:x1->x1->x4->(Exit->x4->Prop)->Prop)(C E:x4->Prop)(F:List (Nat×(x4->Prop))):Prop:=
 ∃(j:Type)(o G:Bool)(g:S9)(cap:Array x1)(y:j)(z:j->Prop)(x:j->List x1->j->x4->Prop)(f:(Nat->Prop)->x4->Prop)(h:(Nat->Prop)->j->x4->Prop)(q:(Nat->Prop)->j->Exit->x4->Prop),
  A= .func (.func g) #[] cap/\rR P o G g cap.toList y z x f/\(∀k vs s w,x k vs s w->vs.length=2)/\
  (∀m w I,Ext w I->f m w->f m I)/\(∀m k U ab,aj (λr=>o=ms/\w.heap.size<=r/\¬m r) U ab->gg w.heap.size U ab->h m k U->h m k ab)/\(∀m k ex U ab,aj (λr=>o=ms/\w.heap.size<=r/\¬m r) U ab->gg w.heap.size U ab->q m k ex U->q m k ex ab)/\
  f (λ_=>False) w/\h (λ_=>False) y w/\
  (∀a b,∀m k s I,(∀r,m r->w.heap.size<=r/\r<I.heap.size)->w.heap.size<=I.heap.size->f m I->x k [a,b] s I->h m k I->B a b I λex e=>match ex with
   | .normal=>bif o then(∃bX,(∀r,bX r->m r\/I.heap.size<=r/\r<e.heap.size)/\(∀r,m r->bX r)/\f bX e/\h bX s e)/\fl I e/\aj (λr=>r<w.heap.size\/m r) I e else f m e/\h m s e/\(G=ms->fl I e)
   |ex=>bif o then False else q m k ex e)/\
  (∀m k I,z k->h m k I->C I)/\(∀m k I,q m k .ret I->E I)/\(∀m k i I,q m k (.exit i) I->oo F i I)
theorem wL.s{P:W5}{G:Bool}{g:S9}{cap:List x1}{e:Nat->List x1->x4->Prop}{a:x4->Prop}(h:wL P G g cap n e a):
  qC P G g cap 0 (λk=>k=n) (λk vs f w=>k<n/\f=k+1/\e k vs w) a:=by
 refine⟨h.1,λl aA j w q r x ha y=>?_⟩;have:=h.2 l aA (λk w=>j k w) w q r (λk vs I hk hz C A=>x k (k+1) vs I hz (by grind) A) ha y;cases this with
 |code h1 B=>exact .code h1 (B.Y (by grind))
 |ext v I h1 E=>exact .ext v I h1 (by grind)
theorem qC.x{P:W5}{e:Type}{G:Bool}{g:S9}{cap:List x1}{s:e}{y:e->Prop}{z:e->List x1->e->x4->Prop}{f:x4->Prop}(h:qC P G g cap s y z f):rR P ne G g cap s y z λ_=>f:=by
 refine⟨h.1,λl aA B w C E F hf N=>?_⟩;have:=h.2 l (λk I=>w.heap.size<=I.heap.size/\∃D,(∀r,D r->w.heap.size<=r/\r<I.heap.size)/\aA D k I) (λk I=>∃D,B D k I) w
  (λk U ab J q ⟨V,D,j,a⟩=>⟨Y7 V J.size,D,λr A=>⟨(j r A).1,Nat.lt_of_lt_of_le (j r A).2 J.size⟩,C D k U ab (J.aa _) q.o a⟩) (λk U ab J q ⟨D,a⟩=>⟨D,E D k U ab (J.aa _) q.o a⟩)
  (λk H vs I hK L ⟨V,D,j,a⟩=>jv.Y (F D k H vs I j V hK L a) (by grind)) hf (by grind)
 cases this with
 |code h1 M=>exact .code h1 (M.Y (by grind))
 |ext v I h1 O=>exact .ext v I h1 (by grind)
theorem ki.old{P:W5}{E:x1}{B:x1->x4->(Exit->x4->Prop)->Prop}{F H:x4->Prop}{J:List (Nat×(x4->Prop))}(h:∃(e:Type)(G:Bool)(g:S9)(cap:Array x1)(s:e)(y:e->Prop)(r:e->List x1->e->x4->Prop)(f:x4->Prop)(j:e->x4->Prop)(q:e->Exit->x4->Prop),
  E= .func (.func g) #[] cap/\qC P G g cap.toList s y r f/\(∀k vs z w,r k vs z w->vs.length=1)/\
  (∀w I,Ext w I->f w->f I)/\(∀k w I,Ext w I->j k w->j k I)/\(∀k ex w I,Ext w I->q k ex w->q k ex I)/\
  f w/\j s w/\
  (∀a,∀k z I,f I->r k [a] z I->j k I->B a I λex A=>match ex with
   | .normal=>f A/\j z A/\(G=ms->fl I A)
   |ex=>q k ex A)/\
  (∀k I,y k->j k I->F I)/\(∀k I,q k .ret I->H I)/\(∀k i I,q k (.exit i) I->oo J i I)):ki P E w B F H J:=by
 obtain⟨e,G,g,cap,s,y,r,f,j,q,h1,K,L,M,N,O,Q,R,W,S,T,V⟩:=h;exact⟨e,ne,G,g,cap,s,y,r,λ_=>f,λ_=>j,λ_=>q,h1,K.x,L,λ_=>M,λ_ k U ab C _=>N k U ab (C.W (by grind)),λ_ k ex U ab C _=>O k ex U ab (C.W (by grind)),Q,R,
  by grind,λ_=>S,λ_=>T,λ_=>V⟩
theorem oq.old{P:W5}{E:x1}{B:x1->x1->x4->(Exit->x4->Prop)->Prop}{F H:x4->Prop}{J:List (Nat×(x4->Prop))}(h:∃(e:Type)(G:Bool)(g:S9)(cap:Array x1)(s:e)(y:e->Prop)(r:e->List x1->e->x4->Prop)(f:x4->Prop)(j:e->x4->Prop)(q:e->Exit->x4->Prop),
  E= .func (.func g) #[] cap/\qC P G g cap.toList s y r f/\(∀k vs z w,r k vs z w->vs.length=2)/\
  (∀w I,Ext w I->f w->f I)/\(∀k w I,Ext w I->j k w->j k I)/\(∀k ex w I,Ext w I->q k ex w->q k ex I)/\
  f w/\j s w/\
  (∀a b,∀k z I,f I->r k [a,b] z I->j k I->B a b I λex A=>match ex with
   | .normal=>f A/\j z A/\(G=ms->fl I A)
   |ex=>q k ex A)/\
  (∀k I,y k->j k I->F I)/\(∀k I,q k .ret I->H I)/\(∀k i I,q k (.exit i) I->oo J i I)):oq P E w B F H J:=by
 obtain⟨e,G,g,cap,s,y,r,f,j,q,h1,K,L,M,N,O,Q,R,W,S,T,V⟩:=h;exact⟨e,ne,G,g,cap,s,y,r,λ_=>f,λ_=>j,λ_=>q,h1,K.x,L,λ_=>M,λ_ k U ab C _=>N k U ab (C.W (by grind)),λ_ k ex U ab C _=>O k ex U ab (C.W (by grind)),Q,R,
  by grind,λ_=>S,λ_=>T,λ_=>V⟩
def eW(N:Nat)(free:gh):Code->List Nat->Env->x4->(Exit->Env->x4->Prop)->Prop
 | .skip,_,e,w,K=>K .normal e w
 | .label _,_,e,w,K=>K .normal e w
 | .ret,_,e,w,K=>K .ret e w
 | .exit i,_,e,w,K=>K (.exit i) e w
 | .region _ ops q,_,e,w,K=>
  bif q then eP w λI=>wD P free ops e I (K .normal)
  else qB P free ops ops.toList e w (K .normal)
 | .seq x y,rd,e,w,K=>
  bif Nat.ble 2 (my x)then
   cC (lam (rP N (dR x) (reads y++rd)).length λvs=>λI=>eW N free y rd (kI (rP N (dR x) (reads y++rd)) vs (om (dR x) e)) I K)
    λaA=>eW N free x (reads y++rd) e w λex a I=>match ex with
     | .normal=>match lU a (rP N (dR x) (reads y++rd))with
      |some vs=>app (rP N (dR x) (reads y++rd)).length aA vs I
      |none=>False
     |ex=>K ex a I
  else eW N free x (reads y++rd) e w λex a I=>match ex with
   | .normal=>eW N free y rd a I K
   |ex=>K ex a I
 | .cond c x y,rd,e,w,K=>
  match e2 e c with
  |some (.b ms)=>eW N free x rd e w K
  |some (.b ne)=>eW N free y rd e w K
  |some (.v v)=>Split v (eW N free x rd e w K) (eW N free y rd e w K)
  |some .u=>False
  |none=>False
 | .block id c,rd,e,w,K=>eW N free c rd e w λex a I=>match ex with
  | .exit i=>bif S7 i id then K .normal a I else K (.exit i) a I
  |ex=>K ex a I
 | .loop c,rd,e,w,K=>
  match lU e (rQ N (dR c) (reads c++rd) e)with
  |some vs=>
   In (rQ N (dR c) (reads c++rd) e).length vs w λus I k=>
    eW N free c (reads c++rd) (kI (rQ N (dR c) (reads c++rd) e) us (om (dR c) e)) I λex a h=>match ex with
     | .normal=>match lU a (rQ N (dR c) (reads c++rd) e)with
      |some r=>k r h
      |none=>False
     |ex=>K ex a h
  |none=>False
 | .scope c,rd,e,w,K=>eW N free c rd e w K
 | .rangeFunc f j s body,_,e,w,K=>
  bif free.1 then False else
  match e2 e f with
  |some z=>
   Is P z.val j.size w
    (λvs I k=>eW N free s (reads body) (kI j.toList.reverse vs.reverse e) I λex a h=>match ex with
     | .normal=>Over w.heap.size h λA=>eW N free body [] a A λex _ B=>k ex B
     |_=>False)
    (λI=>K .normal e I) (bif kJ body then λI=>K .ret e I else λ_=>False) (tO (λi I=>K (.exit i) e I) (la body))
  |none=>False
 | .goto _,_,_,_,_=>False
 | .refuse _,_,_,_,_=>False
end
theorem tP{w0:x4}(h:cN n w0 w){l:Nat}(j:w0.heap.size<=l)(o:Obj):cN n w0 (w.putObj l o):=
 ⟨h.os,h.tape,h.output,by simpa using h.size,λr x a V=>by
  have e:=(Z6.1 a).1;rw[R2 Ω];exact h.bb r x a V,λr x f a V=>by
  have e:=(Z6.1 a).1;rw[R2 Ω];exact h.old r x f a V⟩
theorem It{w0:x4}(h:fl w0 w){l:Nat}{a:Obj}(f:w.heap[l]?=σ a)(j:tA a=ne)(o:Obj):fl w0 (w.putObj l o):=λr x e V=>by
 have h1:=h r x e V
 grind [R2]
theorem rS{l:Nat}{a:Obj}(e:w.heap[l]?=σ a)(f:gf a=ne)(o:Obj):Ext w (w.putObj l o):=
 ⟨Ξ,by grind [R2]⟩
theorem Aj{l:Nat}{o:Obj}(aE:gf o=ne):Ext (w.putObj l o) w:=
 ⟨Ξ,λr x a V=>by
  by_cases e:r=l
  .subst e;rcases Nat.lt_or_ge r w.heap.size with h|h
   .grind [x4.putObj_heap_same]
   .rw[Array.getElem?_eq_none (by simpa using h)]at a;cases a
  grind [R2]⟩
theorem qD(w:x4)(o:Obj):Ext w (w.alloc o):=rH w o
theorem qE(w:x4)(o:Obj):cR w (w.alloc o):=rI w o
def nz(D:Nat):Deferred:={target:=.collected D,args:=#[]}
def nA(w:x4)(e:List Deferred):Prop:=∃a:List Nat,e=a.map nz/\a.Nodup/\∀D∈a,w.heap[D]?=σ (.deferred (σ []))
theorem nA.cO{a:List Deferred}(h:nA w a)(e:cN n w I):nA I a:=by
 obtain⟨f,h1,j,q⟩:=h;exact⟨f,h1,j,λD r=>e.bb D _ (q D r) rfl⟩
section
variable{P:W5}{N:Nat}
def Iu(w:x4)(e f:List Deferred):Prop:=∃a:List Nat,f=a.map nz++e/\∀D∈a,w.heap.size<=D
def iq(n:Nat)(w:x4)(e:List Deferred)(I:x4)(a:List Deferred):Prop:=cN n w I/\nA I a/\Iu w e a
theorem iq.refl{a:List Deferred}(h:nA w a):iq n w a w a:=⟨cN.refl _ _,h,[],rfl,by grind⟩
theorem iq.F{U:x4}{a e f:List Deferred}(h:iq n w a U e)(k:iq n U e I f):iq n w a I f:=by
 obtain⟨j,A,q,a3,a4⟩:=h;obtain⟨r,s,x,B,y⟩:=k;refine⟨j.F r,s,x++q,by grind,λD z=>?_⟩;rcases j5.1 z with h|h
 .exact Y7 j.size (y D h)
 grind
theorem iq.same{a:List Deferred}(h:nA w a)(e:cN n w I):iq n w a I a:=⟨e,h.cO e,[],rfl,by grind⟩
def mz:Exit->Bool
 | .panic _=>ne
 | .outgrown=>ne
 | .goto _=>ne
 |_=>ms
def ot(N:Nat)(free:gh)(f:Bool)(K:Exit->Env->x4->Prop)(D:List Nat)(a:Act)(w:x4)(ex:Exit)(a':Act)(I:x4):Prop:=
 mz ex=ms/\∃e,K ex e I/\S5 N e a'/\(∀t,t∉D->a'.tmps.getD t undef=a.tmps.getD t undef)/\(f=ms->a'.defers=a.defers)/\
  (free.1=ne->iq free.2 w a.defers I a'.defers)
theorem ot.step{free:gh}{f j:Bool}{K:Exit->Env->x4->Prop}{D':List Nat}{a e a':Act}{U:x4}{ex:Exit}(h:ot N free j K D' e U ex a' I)(z:∀t,t∈D'->t∈D)(hk:∀t,t∉D->e.tmps.getD t undef=a.tmps.getD t undef)(A:f=ms->j=ms)(ah:f=ms->e.defers=a.defers)(q:free.1=ne->iq free.2 w a.defers U e.defers):ot N free f K D a w ex a' I:=by
 obtain⟨r,s,h1,x,B,C,y⟩:=h;exact⟨r,s,h1,x,by grind,by grind,λh=>(q h).F (y h)⟩
theorem Ak{t:Nat}{x:eU}:∀{e:Env},look (om D e) t=σ x->look e t=σ x/\t∉D
 :=by
 intro a;induction a<;>grind [om,look,Ik,Nat.eq_of_beq_eq_true]
theorem wM{a:Act}{e:Env}:∀{S:List Nat}{vs:List x1},S5 N e a->(∀p∈S.zip vs,a.tmps.getD p.1 undef=p.2)->S5 N (kI S vs e) a
 |[],_,h,_=>by grind [kI]
 |t::r,[],h,_=>by grind [kI]
 |t::r,v::vs,h,j=>by
  have q:=wM (S:=r) (vs:=vs) h λp ae=>j p (by simp[ae]);refine⟨q.1,λs x V=>?_⟩;simp only[kI,look]at V;cases f:S7 t s with
  |true=>
   rw[f]at V;simp only[cond_true,W9]at V;subst V;rw[<-Nat.eq_of_beq_eq_true f];exact j (t,v) Ξ
  |false=>rw[f]at V;exact q.2 s x V
theorem tQ{e:Env}{a:Act}(f:S5 N e a):∀{S:List Nat}{vs:List x1},lU e S=σ vs->vs.length=S.length/\∀p∈S.zip vs,a.tmps.getD p.1 undef=p.2
 |[],vs,h=>by simp[lU]at h;subst h;simp
 |t::r,vs,h=>by
  simp only[lU]at h;cases j:look e t with
  |none=>grind
  |some x=>
   rw[j]at h;simp only at h;cases ac:lU e r with
   |none=>grind
   |some us=>
    rw[ac]at h;simp only[W9]at h;subst h;obtain⟨h1,q⟩:=tQ f ac;refine⟨by simp[h1],λp ae=>?_⟩;simp only[List.zip_cons_cons,List.mem_cons]at ae;rcases ae with rfl|ae
    .exact f.2 t x j
    grind
theorem Iv{a a':Act}{e f:Env}(j:S5 N e a)(q:S5 N f a')(hk:∀t,t∉D->a'.tmps.getD t undef=a.tmps.getD t undef):S5 N (om D e) a':=
 ⟨q.1,λt x h=>by
  obtain⟨h1,r⟩:=Ak h;rw[hk t r];exact j.2 t x h1⟩
theorem Iw{o:T2}{t:Nat}(a:o.dst=σ t)(l:List T2)(hm:o∈l):t∈pk l:=by
 induction l<;>grind [pk]
theorem Al{free:gh}{f:Bool}{K:Exit->Env->x4->Prop}{a a':Act}(r:free.1=ne->nA w a.defers)(h:oi N free (K .normal) D a w a' I):
  ot N free f K D a w .normal a' I:=by
 obtain⟨j,h1,q,e,s⟩:=h;exact⟨rfl,j,h1,q,e.2,λ_=>e.1,λah=>by rw[e.1];grind [iq.same]⟩
theorem Am:∀(a:List Nat)(vs:List x1)(p:Nat)(v:x1)(e:Env),a.length=vs.length->kI (a++[p]) (vs++[v]) e=kI a vs ((p,.v v)::e)
 |[],[],_,_,_,_=>rfl
 |[],_::_,_,_,_,h=>by simp at h
 |_::_,[],_,_,_,h=>by simp at h
 |q::a,u::vs,p,v,e,h=>by
  simp only[List.cons_append,kI];rw[Am a vs p v e (by grind)]
theorem An:∀(a:List Nat)(vs:List x1)(tm:Array x1)(e:Env),a.length=vs.length->(a.all λt=>Nat.blt t N)=ms->S5 N e {tmps:=tm,defers:=[]}->
  S5 N (kI a.reverse vs.reverse e) {tmps:=(a.zip vs).foldl (λtm (p:Nat×x1)=>tm.setIfInBounds p.1 p.2) tm,defers:=[]}
 |[],[],_,_,_,_,h=>h
 |[],_::_,_,_,h,_,_=>by simp at h
 |_::_,[],_,_,h,_,_=>by simp at h
 |p::a,v::vs,tm,e,q,f,h=>by
  have j:a.length=vs.length:=by grind
  simp only[List.all_cons,S0]at f;simp only[List.zip_cons_cons,List.foldl_cons,List.reverse_cons];rw[Am _ _ _ _ _ (by simpa using j)];exact An a vs _ _ j f.2 (h.put (d:=σ p) (x:=.v v) (v:=v) f.1 rfl)
def kK(free:gh)(c:Code):Bool:=free.1|| !lT c
theorem Ao:∀f a b:Bool,(f|| !(a||b))=ms->(f|| !a)=ms:=Φ
theorem Ap:∀f a b:Bool,(f|| !(a||b))=ms->(f|| !b)=ms:=Φ
def exitCode:Exit->Option Code
 | .ret=>σ .ret
 | .exit id=>σ (.exit id)
 |_=>ν
end
section
variable{P:W5}{N:Nat}
def Sound(P:W5)(N:Nat)(c:Code):Prop:=
 ∀(free:gh)(r:Option Nat)(rd:List Nat)(e:Env)(a:Act)(w:x4)(K:Exit->Env->x4->Prop)(Q:Exit->Act->x4->Prop),
  wf N c=ms->(∀l,r=σ l->free.1=ne/\∃f,w.heap[l]?=σ (.loop f))->(free.1=ne->nA w a.defers)->
  eW P N free c rd e w K->S5 N e a->(∀ex a' I,ot N free (kK free c) K (dR c) a w ex a' I->Q ex a' I)->(∀h a w,¬Q (.panic h) a w)->
  c.wpIn (eV r) 0 P Q a w
theorem Ix{x y:Code}(J:Sound P N x)(S:Sound P N y):Sound P N (.seq x y):=by
 intro free r rd e a w K Q B G T h H L M;simp only[wf,S0]at B;have V:∀t,t∈dR x->t∈dR (.seq x y):=by grind [dR]
 have W:∀t,t∈dR y->t∈dR (.seq x y):=by grind [dR]
 have X:kK free (.seq x y)=ms->kK free x=ms:=λh=>Ao _ _ _ h;have Y:kK free (.seq x y)=ms->kK free y=ms:=λh=>Ap _ _ _ h;refine wpIn_seq ?_;have Z:∀(j:Env)(f:Act)(U:x4),eW P N free y rd j U K->S5 N j f->(∀t,t∉dR x->f.tmps.getD t undef=a.tmps.getD t undef)->
   (kK free (.seq x y)=ms->f.defers=a.defers)->(free.1=ne->iq free.2 w a.defers U f.defers)->y.wpIn (eV r) 0 P Q f U:=by
  intro j f U h1 z hk ah q;refine S free r rd j f U K Q B.2 ?_ (λh=>(q h).2.1) h1 z ?_ M
  .intro l aa;obtain⟨O,ab,A⟩:=G l aa;exact⟨O,ab,(q O).1.bb _ _ A rfl⟩
  .intro ex a' I ae;exact L ex a' I (ae.step W (by grind) Y ah q)
 have ad:∀(s:Exit->Env->x4->Prop),eW P N free x (reads y++rd) e w s->
   (∀j f U,ot N free (kK free x) s (dR x) a w .normal f U->S5 N j f->s .normal j U->(∀t,t∉dR x->f.tmps.getD t undef=a.tmps.getD t undef)->
    (kK free (.seq x y)=ms->f.defers=a.defers)->(free.1=ne->iq free.2 w a.defers U f.defers)->y.wpIn (eV r) 0 P Q f U)->
   (∀ex j U,ex≠ .normal->s ex j U->K ex j U)->x.wpIn (eV r) 0 P (Exit.then (y.wpIn (eV r) 0 P Q) Q) a w:=by
  intro s ac q af;refine J free r _ e a w s _ B.1 G T ac H ?_ ?_
  .intro ex f U ae;cases ex with
   |normal=>
    have ag:=ae;obtain⟨A,j,h1,C,E,R,F⟩:=ae;exact q j f U ag C h1 E (by grind) F
   |_=>
    obtain⟨A,j,h1,C,E,R,F⟩:=ae;refine L _ f U ⟨A,j,af _ j U Ξ h1,C,λt ai=>E t λh=>ai (V t h),λh=>R (X h),F⟩
  .intro aj a w ak;exact M aj a w ak
 simp only[eW]at h;cases al:Nat.ble 2 (my x)with
 |false=>
  grind
 |true=>
  rw[al]at h;refine ad _ h (λj f U _ z h1 hk ah q=>?_) ?_
  .simp only at h1;cases ac:lU j (rP N (dR x) (reads y++rd))with
   |none=>grind
   |some vs=>
    rw[ac]at h1;obtain⟨am,an⟩:=tQ z ac;simp only at h1;rw[wI _ _ _ am]at h1;exact Z _ f U h1 (wM (Iv H z hk) an) hk ah q
  grind
theorem Iy{c:Code}(X:Sound P N c):Sound P N (.loop c):=by
 intro free r rd e a w K Q G Y av h A Z aa;simp only[wf]at G;simp only[eW]at h;generalize aw:rQ N (dR c) (reads c++rd) e=S at h;cases ac:lU e S with
 |none=>grind
 |some vs=>
  rw[ac]at h;simp only at h;obtain⟨ad,af,q,ag⟩:=h;obtain⟨ai,aj⟩:=tQ A ac;let Inv:Act->x4->Prop:=λf U=>∃us,us.length=S.length/\app S.length ad us U/\(∀p∈S.zip us,f.tmps.getD p.1 undef=p.2)/\f.tmps.size=N/\
   (∀t,t∉dR c->f.tmps.getD t undef=a.tmps.getD t undef)/\(kK free c=ms->f.defers=a.defers)/\(free.1=ne->iq free.2 w a.defers U f.defers)
  let H:Act->List x1:=λf=>S.map λt=>f.tmps.getD t undef;have I:∀(f:Act)(us:List x1),us.length=S.length->(∀p∈S.zip us,f.tmps.getD p.1 undef=p.2)->H f=us:=by
   intro f us s B;apply List.ext_getElem
   .grind
   .intro i h1 j;have hi:i<S.length:=Ω
    have ax:(S[i],us[i])∈S.zip us:=by
     have:=T9 (l:=S.zip us) (n:=i) (by simp[List.length_zip,s,hi])
     grind
    grind
  refine wpIn_loop Inv (λf U=>app S.length af (H f) U) ⟨vs,ai,q,aj,A.1,λ_ _=>rfl,λ_=>rfl,by grind [iq.refl]⟩ ?_;rintro f U ⟨us,s,ak,B,al,hk,ah,y⟩;have z:=tM S.length _ us ag;rw[wI _ _ _ s]at z;have z:=z U ak;have am:S5 N (kI S us (om (dR c) e)) f:=by
   refine wM ⟨al,λt x an=>?_⟩ B;obtain⟨h1,j⟩:=Ak an;rw[hk t j];exact A.2 t x h1
  refine X free r _ _ f U _ _ G ?_ (λh=>(y h).2.1) z am ?_ ?_
  .intro l ao;obtain⟨J,ap,q⟩:=Y l ao;exact⟨J,ap,(y J).1.bb _ _ q rfl⟩
  .intro ex C ab ae;have L:∀t,t∉dR c->C.tmps.getD t undef=a.tmps.getD t undef:=by
    obtain⟨_,_,_,_,M,_,_⟩:=ae
    grind
   cases ex with
   |normal=>
    obtain⟨q,E,h1,j,M,O,F⟩:=ae;simp only at h1;cases R:lU E S with
    |none=>grind
    |some T=>
     rw[R]at h1;obtain⟨V,W⟩:=tQ j R;refine⟨⟨T,V,h1.1,W,j.1,L,by grind,λh=>(y h).F (F h)⟩,?_⟩;rw[I f us s B,I C T V W];exact h1.2
   |_=>
    obtain⟨q,E,h1,j,M,O,F⟩:=ae;exact Z _ C ab ⟨q,E,h1,j,L,λh=>(O h).F (ah h),λh=>(y h).F (F h)⟩
  .intro aq a w au;exact aa aq a w au
theorem Iz{o:Obj}(h:gf o=ne):book o=ms\/tA o=ms:=by cases o<;>first|exact .inl rfl|exact .inr rfl|cases h
theorem IA{l:Nat}{f q h:x4}{s z:Obj}(B:f.heap[l]?=σ s)(a:cN n f q)(e:cN n (q.putObj l z) h)(C:l<h.heap.size)(hi:fl f h):cR f (h.putObj l s):=
 ⟨e.os.F a.os,k6.F e.tape a.tape,e.output.F a.output,by have h1:=a.size;have A:=e.size;simp at A ⊢;omega,λr x w V=>by
  by_cases y:r=l
  .grind [x4.putObj_heap_same]
  .rw[R2 y];rcases Iz V with j|j
   .exact e.bb r x (by rw[R2 y];exact a.bb r x w j) j
   .exact hi r x w j⟩
theorem IB{f:S3}{U:Array Tmp}{Y body:Code}(a2:Sound P N Y)(ag:Sound P N body):Sound P N (.rangeFunc f U Y body):=by
 intro free r rd e a w K Q aH V a6 h Z a7 bQ;simp only[wf,S0]at aH;obtain⟨a8,ba,bc⟩:=aH;simp only[eW]at h;obtain⟨fr,b⟩:=free;cases fr with
 |true=>exact h.elim
 |false=>
  simp only[cond_false]at h;cases ah:e2 e f with
  |none=>grind
  |some bR=>
   rw[ah]at h;obtain⟨aI,o,G,g,cap,bS,bT,bU,ai,aJ,aq,bd,⟨aK,be⟩,bf,hbV,ak,au,hbW,bg,bh,bi,bj,bY⟩:=h;have bk:∀m k ex I,mz ex=ms->ex≠ .normal->aq m k ex I->K ex e I:=by
    intro m k ex I ab bZ J;cases ex with
    |normal=>grind
    |ret=>
     have:=bj m k I J;cases V:kJ body with
     |true=>grind
     |false=>rw[V]at this;grind
    |exit i=>grind [Ir]
    |_=>cases ab
   have bl:a.eval f= .func (.func g) #[] cap:=by rw[Z.e2 ah];exact bd
   refine wpIn_rangeFunc ?_;intro fn _;obtain⟨D,mark,l,s,y,bm,O,aL,bn,S,aM,al⟩:∃(D:Nat)(mark:List Deferred)(l:Nat)(s:x4)(y:LoopState->Option Code->Loop),
     (Instr.enterLoop fn a.tmps U Y body (eV r).round).run P w= .ok (l,mark) s/\
     y=(λst bo=>{state:=st,pending:=bo,fn,tmps:=a.tmps,params:=U,assign:=Y,body,defers:=D})/\
     s.heap[l]?=σ (.loop (y .ready ν))/\(mark=[]\/(mark=[nz D]/\s.heap[D]?=σ (.deferred (σ []))/\w.heap.size<=D/\D≠l))/\Ext w s/\cR w s/\w.heap.size<=l:=by
    cases r with
    |none=>
     refine⟨w.heap.size,[nz w.heap.size],w.heap.size+1,_,_,run_enterLoop_outer _ _ _ _ _,rfl,?_,.inr ⟨rfl,?_,p9 _,Ω⟩,?_,?_,Ω⟩
     .grind [x4.alloc_heap_new,x4.size_alloc]
     .grind [Below.heap_alloc,x4.alloc_heap_new]
     .exact (qD w _).F (qD _ _)
     .exact (qE w _).F (qE _ _)
    |some bp=>
     obtain⟨_,bq,H⟩:=V bp rfl;exact⟨bq.defers,[],w.heap.size,_,_,run_enterLoop_inner H _ _ _ _ _,rfl,x4.alloc_heap_new w _,.inl rfl,qD _ _,qE _ _,p9 _⟩
   let M:x4->Prop:=λj=>mark=[]\/(mark=[nz D]/\j.heap[D]?=σ (.deferred (σ []))/\w.heap.size<=D/\D≠l);have av:∀{m:Nat}{A B:x4},cN m A B->M A->M B:=λC h=>h.imp id λ⟨h1,q,z⟩=>⟨h1,C.bb _ _ q rfl,z⟩;have am:∀{A:x4}(o:Obj),M A->M (A.putObj l o):=by grind [R2]
   have br:cN b w s:=aM.b;have aN:=(Z6.1 aL).1;have aO:∀{A B:x4},gg s.heap.size A B->M A->M B:=λC h=>h.imp id λ⟨h1,q,z⟩=>⟨h1,C.old _ _ (by
    grind) q rfl,z⟩
   have ac:∀{A:x4}(o:Obj),gg w.heap.size A (A.putObj l o):=λ{A}o=>⟨rfl,.lP,rfl,Ξ,by grind [R2]⟩;let aA:(Nat->Prop)->aI->x4->Prop:=λm k j=>aJ m k j/\j.heap[l]?=σ (.loop (y .ready ν))/\cN b w j/\M j;let aP:(Nat->Prop)->aI->x4->Prop:=λm k j=>∃ex c,mz ex=ms/\exitCode ex=σ c/\aq m k ex j/\j.heap[l]?=σ (.loop (y .done (σ c)))/\cN b w j/\M j;have own:∀{m:Nat->Prop}{A B:x4},aj (λr=>o=ms/\s.heap.size<=r/\¬m r) A B->aj (λr=>o=ms/\w.heap.size<=r/\¬m r) A B:=λh=>h.Y (by grind);have aw:=be l aA aP s (λm k A B he C ⟨h1,q,z,R⟩=>⟨ak m k A B (own he) (C.Y S.size) h1,C.old _ _ aN q rfl,z.z6 C S.size,aO C R⟩)
    (λm k A B he C ⟨ex,c,H,h1,q,z,R,ad⟩=>⟨ex,c,H,h1,au m k ex A B (own he) (C.Y S.size) q,C.old _ _ aN z rfl,R.z6 C S.size,aO C ad⟩) ?round (by grind) ⟨ak _ _ _ _ (S.aa _) aM.o bg,aL,br,bn⟩
   case round=>
    intro m k an vs j aQ bs hai aR ⟨hi,ax,bt,bu⟩;have ay:=bf k vs an j aR;have aS:=run_yield (P:=P) (args:=vs.toArray) ax (by rw[O];simp[ay]);rw[O]at aS;refine⟨fn,_,Y,body,aS,roundIn_of_wpIn trivial ?_⟩;have bw:(U.zip vs.toArray).foldl (λtmps x=>match x with|(t,a)=>tmps.setIfInBounds t a) a.tmps=(U.toList.zip vs).foldl (λtm (p:Nat×x1)=>tm.setIfInBounds p.1 p.2) a.tmps:=by
     grind [Array.toList_zip]
    have aT:=An U.toList vs a.tmps e (by simp[ay]) a8 (show S5 N e {tmps:=a.tmps,defers:=[]}from⟨Z.1,Z.2⟩);rw[<-bw]at aT;have b0:=ax;refine a2 (ne,b) (σ l) _ _ _ j _ _ ba (by grind) (λ_=>⟨[],rfl,List.nodup_nil,by grind⟩) (by have ag:=tM _ _ vs bh;rw[wI _ _ _ ay]at ag;exact ag m k an j (λr V=>⟨Y7 S.size (aQ r V).1,(aQ r V).2⟩) (Y7 S.size bs) hai aR hi) aT ?_ (λ_ _ _ h=>h);intro ex aU E ae;obtain⟨H,b1,h1,q,z,R,ad⟩:=ae;obtain⟨W,bx,_⟩:=ad rfl;cases ex with
    |normal=>
     have af:=W.bb _ _ ax rfl;have bz:=(Z6.1 af).1;refine⟨_,run_beginRound af (by rw[O]),?_⟩;have bA:Ext E (E.putObj l (.loop {y .ready ν with state:=.busy})):=rS af rfl _;have bB:(E.putObj l (.loop {y .ready ν with state:=.busy})).heap[l]?=σ (.loop {y .ready ν with state:=.busy}):=x4.putObj_heap_same bz;have bC:nA (E.putObj l (.loop {y .ready ν with state:=.busy})) aU.defers:=by
      obtain⟨ao,az,X,aB⟩:=bx;refine⟨ao,az,X,λD' ap=>?_⟩
      grind [R2]
     have aV:cN b w (E.putObj l (.loop {y .ready ν with state:=.busy})):=tP (bt.F W) al _;have aW:=am (.loop {y .ready ν with state:=.busy}) (av W bu);have bD:=h1 _ bA ⟨Aj rfl,ac _⟩ (It (fl.refl _) af rfl _);refine ag (ne,b) (σ l) _ _ aU _ _ _ bc (by grind) (λ_=>bC) bD q ?_ (λ_ _ _ h=>h);intro bE b2 F ae;obtain⟨aC,b3,g1,b4,b5,b6,bF⟩:=ae;obtain⟨L,_,_⟩:=bF rfl;have aD:F.heap[l]?=σ (.loop {y .ready ν with state:=.busy}):=L.bb _ _ bB rfl;have b7:=(Z6.1 aD).1;have aX:=λbG=>run_endRound (P:=P) bG aD;have aF:∀(o:Obj),Ext F (F.putObj l o):=λo=>rS aD rfl o;have aY:∀(ex:Exit)(c:Code),mz ex=ms->exitCode ex=σ c->(bif o then False else aq m k ex F)->
       ∃v I,(Instr.endRound l (σ c)).run P F= .ok v I/\∃aG,Ending.returned v= .returned aG/\((aG= .bool ms/\(∃bX,(∀r,bX r->m r\/j.heap.size<=r/\r<I.heap.size)/\(∀r,m r->bX r)/\ai bX I/\aA bX an I)/\(G=ms\/o=ms->cR j I)/\j.heap.size<=I.heap.size/\(o=ms->aj (λr=>r<s.heap.size\/m r) j I))\/(o=ne/\aG= .bool ne/\aP m k I)):=by
      intro ex c ab bH bI;cases o with
      |true=>grind
      |false=>
       refine⟨_,_,aX (σ c),_,rfl,.inr ⟨rfl,rfl,ex,c,ab,bH,au m k ex _ _ ((aF _).aa _) (ac _) bI,?_,tP (aV.F L) al _,am _ (av L aW)⟩⟩
       grind [x4.putObj_heap_same]
     cases bE with
     |normal=>
      have bJ:j.heap.size<=F.heap.size:=by
       have h1:=W.size;have q:=L.size;simp at q;omega
      obtain⟨⟨bX,d1,d2,az,X⟩,b8,bK⟩:(∃bX,(∀r,bX r->m r\/j.heap.size<=r/\r<F.heap.size)/\(∀r,m r->bX r)/\ai bX F/\aJ bX an F)/\(G=ms\/o=ms->fl j F)/\(o=ms->aj (λr=>r<s.heap.size\/m r) j F):=by
       cases o with
       |true=>exact⟨g1.1,λ_=>g1.2.1,λ_=>g1.2.2.Y (by grind)⟩
       |false=>grind
      refine⟨_,_,aX ν,_,rfl,.inl ⟨rfl,⟨bX,by simpa using d1,d2,by grind,ak _ _ _ _ ((aF _).aa _) (ac _) X,?_,tP (aV.F L) al _,am _ (av L aW)⟩,λb9=>?_,?_,λaE=>(bK aE).F ((aF _).aa _)⟩⟩
      .grind [x4.putObj_heap_same]
      .grind [IA]
      .simpa using bJ
     |ret=>exact aY .ret _ rfl rfl g1
     |exit id=>exact aY (.exit id) _ rfl rfl g1
     |goto t=>cases aC
     |panic bL=>cases aC
     |outgrown=>cases aC
    |_=>grind
   have aw:=io.calls P aw aK;refine⟨l,mark,s,{target:=.fn (.func g) cap,args:=#[.func (.yield l) #[] #[]]},s,g,#[.func (.yield l) #[] #[]]++cap,s,bm,?_,λ_ _=>trivial,?_,wv _ _,?_⟩
   .simp only[resolve,bl];simp[go_sem]
   .simp only[invoke];exact aK _ _
   .have bM:(#[.func (.yield l) #[] #[]]++cap:Array x1)=(x1.func (.yield l) #[] #[]::cap.toList).toArray:=by grind
    rw[bM];refine CallsIn.mono (z8 aw) ?_;rintro ca E ⟨v,rfl,bN⟩;have left:∀(T:Loop)(ex:Exit),mz ex=ms->E.heap[l]?=σ (.loop T)->T.state≠ .busy->cN b w E->M E->K ex e (E.putObj l (.loop {T with state:=.exhausted}))->
      Q ex {a with defers:=mark++a.defers} (E.putObj l (.loop {T with state:=.exhausted})):=by
     intro T ex ab af cb W aZ bO;have L:cN b w (E.putObj l (.loop {T with state:=.exhausted})):=tP W al _;refine a7 ex _ _ ⟨ab,e,bO,⟨Z.1,Z.2⟩,λ_ _=>rfl,by grind [kK,lT],λ_=>⟨L,?_,?_⟩⟩
     case refine_2=>
      rcases aZ with hm|⟨hm,_,bP,_⟩
      .exact⟨[],by simp[hm],by grind⟩
      .exact⟨[D],by simp[hm],by grind⟩
     obtain⟨ao,az,X,aB⟩:=a6 rfl;have a1:=am (.loop {T with state:=.exhausted}) aZ;rcases a1 with hm|⟨hm,a1,bP,_⟩
     .exact⟨ao,by grind,X,λD' ap=>L.bb _ _ (aB D' ap) rfl⟩
     .refine⟨D::ao,by grind,List.nodup_cons.2 ⟨λcc=>?_,X⟩,λD' ap=>?_⟩
      .grind
      .rcases List.mem_cons.1 ap with h|h
       .grind
       .exact L.bb _ _ (aB D' h) rfl
    rcases bN with⟨m,k,hk,h1,q,z,R⟩|⟨m,k,ex,c,H,h1,q,z,R,ad⟩
    .refine⟨ν,_,by have:=run_endLoop (P:=P) q (by rw[O];simp);rw[O]at this;exact this,?_⟩;have:=left (y .ready ν) .normal rfl q (by grind) z R (bi m _ _ hk (ak m _ _ _ ((rS q rfl _).aa _) (ac _) h1))
     grind
    .refine⟨σ c,_,by have:=run_endLoop (P:=P) z (by rw[O];simp);rw[O]at this;exact this,?_⟩;have:=left (y .done (σ c)) ex H z (by grind) R ad (bk m k ex _ H (by intro he;rw[he]at h1;cases h1) (au m _ _ _ _ ((rS z rfl _).aa _) (ac _) q));rw[O]at this;cases ex with
     |normal=>cases h1
     |ret=>cases h1;grind [wpIn_ret]
     |exit id=>cases h1;grind [wpIn_exit]
     |goto t=>cases H
     |panic bL=>cases H
     |outgrown=>cases H
theorem tR{b:Frame}{a:Act}{k:List Item}{cs:List Frame}{c:Code}:
  step P (lone (b.atR a (.code (.scope c)::k)) cs w)= .next (lone (b.atR a (.code c:: .inScope c::k)) cs w):=
 step_lone_go (by simp[stepG,stepG.exec,Frame.atR])
theorem IC{b:Frame}{a:Act}{k:List Item}{cs:List Frame}{c:Code}:
  step P (lone (b.atR a (.inScope c::k)) cs w)= .next (lone (b.atR a k) cs w):=
 step_lone_go (by simp[stepG,stepG.exec,Frame.atR])
theorem ID{F:Fence}{c:Code}{Q:Exit->Act->x4->Prop}{a:Act}(h:c.wpIn F n P (λex a' I=>mz ex=ms/\Q ex a' I) a w):
  (Code.scope c).wpIn F n P Q a w:=by
 intro b k cs A q r;have f:(lone (b.atR a (.code (.scope c)::k)) cs w).fenced P F:=fenced_calm q r rfl;obtain⟨e,s,x,⟨y,z⟩,j⟩:=h b (.inScope c::k) cs A q r;have J:∀id,exitTo id (.inScope c::k)=exitTo id k:=by grind [exitTo]
 cases e with
 |normal=>exact⟨.normal,s,x,z,.head f tR (StepsIn.trans j (.one (fenced_calm q r rfl) IC))⟩
 |exit id=>
  exact⟨.exit id,s,x,z,λB hk=>.head f tR (j.1 B (by grind)),
   λC hk=>let⟨E,h1,G⟩:=j.2 C (by grind);⟨E,h1,.head f tR G⟩⟩
 |ret=>exact⟨_,s,x,z,.of_steps (.one f tR) j⟩
 |goto l=>cases y
 |panic H=>cases y
 |outgrown=>cases y
theorem sound(hm:P.follows .mixedOrders=ms)(c:Code):Sound P N c:=by
 induction c with
 |skip=>exact λfree r rd e a w K Q _ _ A h j q _=>wpIn_skip (q _ _ _ ⟨rfl,e,h,j,λ_ _=>rfl,λ_=>rfl,by grind [iq.refl]⟩)
 |label l=>exact λfree r rd e a w K Q _ _ A h j q _=>wpIn_label (q _ _ _ ⟨rfl,e,h,j,λ_ _=>rfl,λ_=>rfl,by grind [iq.refl]⟩)
 |ret=>exact λfree r rd e a w K Q _ _ A h j q _=>wpIn_ret (q _ _ _ ⟨rfl,e,h,j,λ_ _=>rfl,λ_=>rfl,by grind [iq.refl]⟩)
 |exit i=>exact λfree r rd e a w K Q _ _ A h j q _=>wpIn_exit (q _ _ _ ⟨rfl,e,h,j,λ_ _=>rfl,λ_=>rfl,by grind [iq.refl]⟩)
 |goto l=>exact λfree r rd e a w K Q _ _ A h j q _=>h.elim
 |refuse s=>exact λfree r rd e a w K Q _ _ A h j q _=>h.elim
 |region id ops W=>
  intro free r rd e a w K Q B E A h j q F;simp only[wf,S0]at B;have T:∀o∈ops.toList,∀t,o.dst=σ t->t∈pk ops.toList:=by grind [Iw]
  simp only[eW]at h;cases W with
  |false=>exact H5 T B.1 h j λa' I ae=>q _ _ _ (Al A ae)
  |true=>
   simp only[Y1,Bool.false_or]at B;exact Ij hm B.2 F T B.1 (λI h1 G H=>h I h1 G H) j λa' I ae=>q _ _ _ (Al A ae)
 |seq x y J R=>grind [Ix]
 |cond c x y J R=>
  intro free r rd e a w K Q B E A h j q F;simp only[wf,S0]at B;have U:∀ex a' I,ot N free (kK free x) K (dR x) a w ex a' I->Q ex a' I:=λex a' I ae=>q ex a' I (by
   obtain⟨O,L,h1,G,H,M,S⟩:=ae;exact⟨O,L,h1,G,by grind [dR],(λh=>M (Ao _ _ _ h)),S⟩)
  have V:∀ex a' I,ot N free (kK free y) K (dR y) a w ex a' I->Q ex a' I:=λex a' I ae=>q ex a' I (by
   obtain⟨O,L,h1,G,H,M,S⟩:=ae;exact⟨O,L,h1,G,by grind [dR],(λh=>M (Ap _ _ _ h)),S⟩)
  simp only[eW]at h;cases C:e2 e c with
  |none=>grind
  |some v=>
   rw[C]at h;cases v with
   |b t=>
    cases t with
    |true=>exact wpIn_cond (j.e2 C) (J free r rd e a w K Q B.1 E A h j U F)
    |false=>exact wpIn_cond (j.e2 C) (R free r rd e a w K Q B.2 E A h j V F)
   |v z=>
    obtain⟨t,X,Y,ah⟩:=h;refine wpIn_cond ((j.e2 C).F X) ?_;cases t with
    |true=>exact J free r rd e a w K Q B.1 E A (Y rfl) j U F
    |false=>exact R free r rd e a w K Q B.2 E A (ah rfl) j V F
   |u=>exact h.elim
 |block id c C=>
  intro free r rd e a w K Q B E A h j q F;simp only[wf]at B;simp only[eW]at h;refine wpIn_block (C free r rd e a w _ _ B E A h j ?_ λZ a w aa=>F Z a w aa);intro ex a' I ae;obtain⟨O,L,h1,G,H,M⟩:=ae;cases ex with
  |exit i=>
   simp only[Exit.inBlock];simp only at h1;by_cases hi:i=id
   .rw[lw hi];rw[hi,Nat.beq_refl]at h1;exact q _ _ _ ⟨rfl,L,h1,G,H,M⟩
   .rw[m1 hi];have:S7 i id=ne:=by
     grind [Nat.eq_of_beq_eq_true]
    rw[this]at h1;exact q _ _ _ ⟨rfl,L,h1,G,H,M⟩
  |_=>exact q _ _ _ ⟨O,L,h1,G,H,M⟩
 |loop c C=>exact Iy C
 |scope c C=>
  intro free r rd e a w K Q B E A h j q F;exact ID (C free r rd e a w K (λex a' I=>mz ex=ms/\Q ex a' I) B E A h j (λex a' I ae=>⟨ae.1,q ex a' I ae⟩) (by grind))
 |rangeFunc f ab ac body ad af=>grind [IB]
def mA:Nat->List x1->Env
 |_,[]=>[]
 |i,v::r=>(i,.v v)::mA (i+1) r
def po(P:W5)(e:Env)(w:x4):List ResultVar->(List x1->Prop)->Prop
 |[],K=>K []
 | .tmp t::r,K=>match look e t with
  |some x=>po P e w r λvs=>K (x.val::vs)
  |none=>False
 | .cell a t::r,K=>match look e a with
  |some x=>ad P (do loadVar t (<-asAddr x.val)) w λv=>po P e w r λvs=>K (v::vs)
  |none=>False
def tS:List x1->x1
 |[v]=>v
 |vs=>.tuple vs.toArray
def nB(P:W5)(a:List ResultVar)(marks:Bool)(n:Nat)(Q:x1->x4->Prop):Exit->Env->x4->Prop
 | .normal,e,w| .ret,e,w=>po P e w a λvs=>bif marks then wJ n w λI=>Q (tS vs) I else Q (tS vs) w
 |_,_,_=>False
def ou:List ResultVar->List Nat
 |[]=>[]
 | .tmp t::r=>t::ou r
 | .cell a _::r=>a::ou r
theorem Aq:∀(vs:List x1)(i t:Nat)(x:eU),look (mA i vs) t=σ x->∃j v,t=i+j/\vs[j]?=σ v/\x= .v v
 |[],_,_,_,h=>by cases h
 |v::r,i,t,x,h=>by
  simp only[mA,look]at h;cases a:S7 i t with
  |true=>
   rw[a]at h;simp only[cond_true,W9]at h;exact⟨0,v,by grind [Nat.eq_of_beq_eq_true],rfl,h.symm⟩
  |false=>
   rw[a]at h;obtain⟨j,u,h1,f,e⟩:=Aq r (i+1) t x h;exact⟨j+1,u,Ω,by grind,e⟩
theorem wN(vs:List x1)(h:vs.length<=n):S5 n (mA 0 vs) {tmps:=vs.toArray++Array.replicate (n-vs.toArray.size) undef,defers:=[]}:=by
 refine⟨Θ,λt x J=>?_⟩;obtain⟨j,v,h1,a,rfl⟩:=Aq vs 0 t x J;have h1:t=j:=Ω
 subst h1;have e:=(x5.1 a).1;rw[Array.getD_eq_getD_getElem?,Array.getElem?_append_left Ω];simp[a,eU.val]
def tT(tm:Array x1):ResultVar->Sem x1
 | .tmp t=>pure (tm.getD t undef)
 | .cell b t=>do loadVar t (<-asAddr (tm.getD b undef))
theorem IE(fn:Func)(tm:Array x1):results fn tm=(do let vs <-fn.results.mapM (tT tm);pure (if h:vs.size=1 then vs[0]else .tuple vs)):=by
 unfold results;congr 2
theorem wO{e:Env}{a:Act}{w:x4}(j:S5 N e a):∀(q:List ResultVar)(K:List x1->Prop),po P e w q K->
  ∃vs,K vs/\vs.length=q.length/\∀I,Ext w I->(q.mapM (tT a.tmps)).run P I= .ok vs I
 |[],K,h=>⟨[],h,rfl,by grind [V4]⟩
 | .tmp t::r,K,h=>by
  simp only[po]at h;cases f:look e t with
  |none=>grind
  |some x=>
   rw[f]at h;obtain⟨vs,h1,s,y⟩:=wO j r _ h;refine⟨x.val::vs,h1,by simp[s],λI hw=>?_⟩;rw[List.mapM_cons];simp only[tT,W8,V4,V1,y I hw,j.2 t x f]
 | .cell b t::r,K,h=>by
  simp only[po]at h;cases f:look e b with
  |none=>grind
  |some x=>
   rw[f]at h;obtain⟨v,ac,h⟩:=h;obtain⟨vs,h1,s,y⟩:=wO j r _ h;refine⟨v::vs,h1,by simp[s],λI hw=>?_⟩;rw[List.mapM_cons];have:=ac I hw;rw[<-j.2 b x f]at this
   grind [tT,W8,V1,V4]
theorem wP{fn:Func}{e:Env}{a:Act}(j:S5 N e a){K:List x1->Prop}(h:po P e w fn.results.toList K):
  ∃vs,K vs/\∀I,Ext w I->(results fn a.tmps).run P I= .ok (tS vs) I:=by
 obtain⟨vs,h1,q,f⟩:=wO j _ _ h;refine⟨vs,h1,λI hw=>?_⟩;have f:=f I hw;rw[IE,W8,Array.mapM_eq_mapM_toList,map_eq_pure_bind,W8,f];simp only[V1,V4];cases vs with
 |nil=>rfl
 |cons v r=>
  cases r<;>grind [tS]
theorem Ar{fn:Func}{tmps:Array x1}{R:Ending->x4->Prop}:∀(a:List Nat)(w:x4),a.Nodup->(∀D∈a,w.heap[D]?=σ (.deferred (σ [])))->
  (∀I,Ext w I->Ext I w->I.os=w.os->k6 w I->I.output=w.output->w.heap.size=I.heap.size->
   (∀r,r∉a->I.heap[r]?=w.heap[r]?)->∃v,(results fn tmps).run P I= .ok v I/\R (.returned v) I)->
  LeavesInM Fence.wide 0 P fn tmps R (a.map nz) .returning w
 |[],w,_,_,h=>by
  obtain⟨v,h1,e⟩:=h w (Ext.refl _) (Ext.refl _) rfl .lP rfl rfl λ_ _=>rfl;exact⟨v,h1,e⟩
 |D::a,w,f,q,h=>by
  rw[List.nodup_cons]at f;have j:=q D (.head _);refine⟨Ξ,.inl ⟨D,_,rfl,run_takeDeferred j,?_⟩⟩;refine Ar a _ f.2 (λD' A=>?_) λI h1 e s x y z B=>?_
  .grind [R2]
  .refine h I ((rS j rfl _).F h1) (e.F (Aj rfl)) s x y (by simpa using z) λr C=>?_
   grind [R2]
theorem aq.enter(hm:P.follows .mixedOrders=ms){f:S9}{fn:Func}{c:Code}(ah:P.funcs[f]?=σ fn)(q:fn.body=σ c)(F:(fn.name == "runtime.NumGoroutine")=ne)(G:wf fn.ntmps c=ms){args:List x1}(H:Nat.ble args.length fn.ntmps=ms){w:x4}{Q:x1->x4->Prop}(h:eW P fn.ntmps (ne,w.heap.size) c (ou fn.results.toList) (mA 0 args) w (nB P fn.results.toList ms w.heap.size Q)):aq P f args w Q:=by
 refine .code (Enters.of P ah q F) (callsIn_wide (n:=0).1 (callsIn_of_wp_marks ah q trivial ?_));have J:=wN (n:=fn.ntmps) args (Nat.le_of_ble_eq_true H);refine wpIn_mono (Q:=λex a' I=>mz ex=ms/\bodyPostM Fence.wide 0 P fn (λe I=>∃v,e= .returned v/\cR w I/\Q v I) ex a' I) ?_ (by grind);refine sound hm c (ne,w.heap.size) ν _ _ _ w _ _ G (by grind) (λ_=>⟨[],rfl,List.nodup_nil,by grind⟩) h J ?_ (λ_ _ _ h=>by cases h.1)
 .intro ex a' I ae;obtain⟨K,L,j,M,_,_,V⟩:=ae;obtain⟨a,⟨s,N,O,R⟩,S,Z,aa⟩:=V rfl;have T:∀D∈s,w.heap.size<=D:=by
   intro D ac;have h1:nz D∈S.map nz:=by
    grind
   grind [nz]
  have x:nB P fn.results.toList ms w.heap.size Q .ret L I->LeavesInM Fence.wide 0 P fn a'.tmps (λe y=>∃v,e= .returned v/\cR w y/\Q v y) a'.defers .returning I:=by
   intro j;rw[N];obtain⟨vs,h1,U⟩:=wP M j;refine Ar s I O R λab g1 W z A B C X=>⟨_,U ab g1,_,rfl,?_,h1 ab g1 ⟨W,z,A,B,Nat.le_of_eq C,by grind⟩⟩;have a:=a.cO (p9 _);refine⟨z.F a.os,A.F a.tape,B.F a.output,by rw[<-C];exact a.size,λr o E Y=>?_⟩;have ad:=(Z6.1 E).1;rw[X r λhm=>by have:=T r hm;omega];exact a.bb r o E Y
  cases ex with
  |normal=>exact⟨rfl,x j⟩
  |ret=>exact⟨rfl,x j⟩
  |exit id=>exact j.elim
  |_=>cases K
theorem aq.IF(hm:P.follows .mixedOrders=ms){f:S9}{fn:Func}{c:Code}(ah:P.funcs[f]?=σ fn)(j:fn.body=σ c)(s:(fn.name == "runtime.NumGoroutine")=ne)(x:wf fn.ntmps c=ms){args:List x1}(y:Nat.ble args.length fn.ntmps=ms)(aw:lT c=ne){w:x4}{Q:x1->x4->Prop}(h:eW P fn.ntmps (ne,w.heap.size) c (ou fn.results.toList) (mA 0 args) w (nB P fn.results.toList ne 0 Q)):aq P f args w Q:=by
 refine .code (Enters.of P ah j s) (callsIn_wide (n:=0).1 (callsIn_of_wp ah j trivial ?_));have z:=wN (n:=fn.ntmps) args (Nat.le_of_ble_eq_true y);refine wpIn_mono (Q:=λex a' I=>mz ex=ms/\bodyPost P fn (λe I=>∃v,e= .returned v/\cR w I/\Q v I) ex a' I) ?_ (by grind);refine sound hm c (ne,w.heap.size) ν _ _ _ w _ _ x (by grind) (λ_=>⟨[],rfl,List.nodup_nil,by grind⟩) h z ?_ (λ_ _ _ h=>by cases h.1);intro ex a' I ae;obtain⟨A,B,a,C,_,E,V⟩:=ae;have F:=E (by simp[kK,aw]);have q:nB P fn.results.toList ne 0 Q .ret B I->a'.defers=[]/\∃v,(results fn a'.tmps).run P I= .ok v I/\∃r,Ending.returned v= .returned r/\cR w I/\Q r I:=by
  intro a;obtain⟨vs,h1,G⟩:=wP C a;exact⟨F,_,G I (Ext.refl _),_,rfl,(V rfl).1.cO (p9 _),h1⟩
 cases ex with
 |normal=>exact⟨rfl,q a⟩
 |ret=>exact⟨rfl,q a⟩
 |exit id=>exact a.elim
 |_=>cases A
theorem io.enter(hm:P.follows .mixedOrders=ms){f:S9}{fn:Func}{c:Code}(ah:P.funcs[f]?=σ fn)(j:fn.body=σ c)(s:(fn.name == "runtime.NumGoroutine")=ne)(x:wf fn.ntmps c=ms){args:List x1}(y:Nat.ble args.length fn.ntmps=ms){w:x4}{Q:x1->x4->Prop}(h:eW P fn.ntmps (ms,0) c (ou fn.results.toList) (mA 0 args) w (nB P fn.results.toList ne 0 Q)):io P f args w Q:=by
 refine .code (Enters.of P ah j s) (callsIn_wide (n:=0).1 (callsIn_of_wp ah j trivial ?_));have z:=wN (n:=fn.ntmps) args (Nat.le_of_ble_eq_true y);refine wpIn_mono (Q:=λex a' I=>mz ex=ms/\bodyPost P fn (λe I=>∃v,e= .returned v/\Q v I) ex a' I) ?_ (by grind);refine sound hm c (ms,0) ν _ _ _ w _ _ x (by grind) (by grind) h z ?_ (λ_ _ _ h=>by cases h.1);intro ex a' I ae;obtain⟨A,B,a,C,_,E,V⟩:=ae;have F:=E rfl;have q:nB P fn.results.toList ne 0 Q .ret B I->a'.defers=[]/\∃v,(results fn a'.tmps).run P I= .ok v I/\∃r,Ending.returned v= .returned r/\Q r I:=by
  intro a;obtain⟨vs,h1,G⟩:=wP C a
  grind [Ext.refl]
 cases ex with
 |normal=>exact⟨rfl,q a⟩
 |ret=>exact⟨rfl,q a⟩
 |exit id=>exact a.elim
 |_=>cases A
end
def rT(l:List S3)(d:Nat):Nat:=
 match l with
 |[]=>d
 | .tmp t::r=>rT r (Nat.lor d (Nat.shiftLeft 1 t))
 |_::r=>rT r d
def qF:List T2->Nat->Option T2
 |[],_=>ν
 |o::_,0=>σ o
 |_::l,n+1=>qF l n
def As(a b:Nat):Nat:=Nat.xor a (Nat.land a b)
def rU(m t:Nat):Bool:=S7 (Nat.land (Nat.shiftRight m t) 1) 1
def lV(m t:Nat):Nat:=Nat.lor m (Nat.shiftLeft 1 t)
def IG(ops:List T2)(o:T2):Nat:=
 match o.guard with
 |none=>0
 |some (j,_)=>match qF ops j with
  |some ⟨σ d,_,_,_,_,_⟩=>Nat.shiftLeft 1 d
  |_=>0
def tU:List T2->Nat->Nat
 |[],d=>d
 |⟨σ t,_,_,_,_,_⟩::l,d=>tU l (lV d t)
 |_::l,d=>tU l d
def Au(ops:List T2):List T2->Nat->Nat->Nat
 |[],_,r=>r
 |o::l,d,r=>Au ops l (match o.dst with|some t=>lV d t|none=>d) (Nat.lor r (As (rT (opsOf o.op) (IG ops o)) d))
def tV:List Nat->Nat->Nat
 |[],_=>0
 |x::_,0=>x
 |_::l,n+1=>tV l n
def Av(e:Edge):Bool:=
 match e.ground with
 | .textOnly _=>ne
 | .gcOnly _=>ne
 |_=>ms
def Aw(a:List Nat):List Edge->Nat->Nat
 |[],s=>s
 |e::r,s=>Aw a r (bif Av e then Nat.lor (lV s e.on) (tV a e.on)else s)
def wQ:List T2->List Nat->List Nat
 |[],a=>a
 |o::l,a=>wQ l (a++[Aw a o.after.toList 0])
def Ax:List T2->Bool
 |[]=>ne
 |⟨_,_,_,_,_,σ _⟩::_=>ms
 |_::l=>Ax l
def wR(a:List Nat)(j k:Nat):Bool:=!(S7 k j)&&(!(rU (tV a j) k)&& !(rU (tV a k) j))
def Ay(a:List Nat)(j:Nat):Nat->List T2->Bool
 |_,[]=>ne
 |i,o::l=>bif Nat.ble j i then ne else(!(lQ o)&&wR a j i)||Ay a j (Nat.succ i) l
def Az(ops:List T2)(a:List Nat):Nat->List T2->Bool
 |_,[]=>ne
 |j,o::l=>(!(lQ o)&&Ay a j 0 ops)||Az ops a (Nat.succ j) l
def nC:Code->Nat
 | .region _ ops e=>bif (e&&Az ops.toList (wQ ops.toList []) 0 ops.toList)||Ax ops.toList then 2 else 1
 | .seq a b=>bif S7 (nC a) 0 then 0 else nC b
 | .cond _ a b=>Nat.add (nC a) (nC b)
 | .block id c=>Nat.add (nC c) (k8 id c)
 | .loop _=>0
 | .scope c=>nC c
 | .exit _=>0
 | .goto _=>0
 | .ret=>0
 | .refuse _=>0
 |_=>1
def jQ:Code->Nat
 | .region _ ops _=>tU ops.toList 0
 | .seq a b=>Nat.lor (jQ a) (jQ b)
 | .cond _ a b=>Nat.lor (jQ a) (jQ b)
 | .block _ c=>jQ c
 | .loop c=>jQ c
 | .scope c=>jQ c
 |_=>0
def nD:Code->Nat
 | .region _ ops _=>tU ops.toList 0
 | .seq a b=>Nat.lor (nD a) (nD b)
 | .cond _ a b=>bif S7 (nC a) 0 then nD b else bif S7 (nC b) 0 then nD a else Nat.land (nD a) (nD b)
 | .block id c=>bif S7 (k8 id c) 0 then nD c else 0
 | .scope c=>nD c
 |_=>0
def gR:Code->Nat
 | .region _ ops _=>Au ops.toList ops.toList 0 0
 | .seq a b=>Nat.lor (gR a) (As (gR b) (nD a))
 | .cond c a b=>rT [c] (Nat.lor (gR a) (gR b))
 | .block _ c=>gR c
 | .loop c=>gR c
 | .scope c=>gR c
 | .rangeFunc f _ a b=>rT [f] (Nat.lor (gR a) (gR b))
 |_=>0
def ov:Nat->Nat->Nat->List Nat
 |0,_,_=>[]
 |n+1,k,m=>bif S7 m 0 then[]else bif S7 (Nat.land m 1) 1 then k::ov n (Nat.succ k) (Nat.shiftRight m 1)else ov n (Nat.succ k) (Nat.shiftRight m 1)
def rV(e:Env):List Nat->List Nat
 |[]=>[]
 |t::r=>match look e t with
  |some _=>t::rV e r
  |none=>rV e r
structure ow(B S bc:Type) where
 mB:{x:x1}->x1
 tup:List x1->x1
 no:B
 mC:B
 and:B->B->B
 or:B->B->B
 W:x4->x4->B
 stays:S->x1->x4->B
 split:x1->B->B->B
 wS:S->x4->(x1->B)->B
 AA:S->x4->(x1->x4->B)->B
 AB:bc->x4->(x4->B)->B
 runN:{fr:Bool}->{n:Nat}->S->x4->(x1->x4->B)->B
 AC:{f:S9}->List x1->x4->(x1->x4->B)->B
 AD:{f:S9}->List x1->x4->(x1->x4->B)->B
 AE:{fr:Bool}->x1->List x1->x4->(x1->x4->B)->B
 drew:x4->(x4->B)->B
 again:{n:Nat}->x4->(x4->B)->B
 over:{n:Nat}->x4->(x4->B)->B
 cZ:(x4->B)->((x4->B)->B)->B
 a1:(x1->x4->B)->((x1->x4->B)->B)->B
 jw:(x1->x1->x4->B)->((x1->x1->x4->B)->B)->B
 AF:(x1->x1->x1->x4->B)->((x1->x1->x1->x4->B)->B)->B
 AG:(x1->x1->x1->x1->x4->B)->((x1->x1->x1->x1->x4->B)->B)->B
 AH:(x1->x1->x1->x1->x1->x4->B)->((x1->x1->x1->x1->x1->x4->B)->B)->B
 AI:x4->(x4->(x4->B)->B)->B
 AJ:x1->x4->(x1->x4->(x1->x4->B)->B)->B
 AK:x1->x1->x4->(x1->x1->x4->(x1->x1->x4->B)->B)->B
 AL:x1->x1->x1->x4->(x1->x1->x1->x4->(x1->x1->x1->x4->B)->B)->B
 AM:x1->x1->x1->x1->x4->(x1->x1->x1->x1->x4->(x1->x1->x1->x1->x4->B)->B)->B
 AN:x1->x1->x1->x1->x1->x4->(x1->x1->x1->x1->x1->x4->(x1->x1->x1->x1->x1->x4->B)->B)->B
 AO:x1->x1->x1->x1->x1->x1->x4->(x1->x1->x1->x1->x1->x1->x4->(x1->x1->x1->x1->x1->x1->x4->B)->B)->B
 AP:x1->x4->(x1->x4->(Exit->x4->B)->B)->(x4->B)->(x4->B)->List (Nat×(x4->B))->B
 AQ:x1->x4->(x1->x1->x4->(Exit->x4->B)->B)->(x4->B)->(x4->B)->List (Nat×(x4->B))->B
 loadVar:{t:r8}->x1->S
 alloc:{t:r8}->S
 box:{t:r8}->x1->S
 build:{t:r8}->List (Nat×x1)->S
 buildSlice:{t:r8}->{n:Nat}->List (Nat×x1)->S
 load:{t:r8}->x1->S
 nil:x1->S
 bin:{op:BinOp}->{t:r8}->Bool->Bool->x1->x1->S
 un:{op:UnOp}->x1->S
 conv:{s d:r8}->x1->S
 AR:{t:r8}->x1->S
 AS:{f:Fn}->List x1->List x1->S
 AT:{t:r8}->Option x1->S
 AU:{t:r8}->x1->x1->S
 slice:{t:r8}->x1->Option x1->Option x1->Option x1->S
 AV:{t:r8}->x1->{f:Nat}->S
 field:{t:r8}->x1->{f:Nat}->S
 AW:{t:r8}->x1->x1->S
 index:{t:r8}->x1->x1->S
 lookup:{t:r8}->x1->x1->{ok:Bool}->S
 AX:{t:r8}->x1->x1->S
 range:{t:r8}->x1->S
 entry:x1->S
 assert:{t a:r8}->x1->{ok:Bool}->S
 extract:x1->{i:Nat}->S
 next:x1->{b:Bool}->S
 append:{ats:Array r8}->{t:r8}->List x1->S
 cap:{ats:Array r8}->{t:r8}->List x1->S
 clear:{ats:Array r8}->{t:r8}->List x1->S
 copy:{ats:Array r8}->{t:r8}->List x1->S
 delete:{ats:Array r8}->{t:r8}->List x1->S
 len:{ats:Array r8}->{t:r8}->List x1->S
 max:{ats:Array r8}->{t:r8}->List x1->S
 min:{ats:Array r8}->{t:r8}->List x1->S
 store:{t:r8}->x1->x1->bc
 wT:{t:r8}->x1->x1->x1->bc
 AY:{t:r8}->x1->x1->x1->bc
section
variable{B S bc:Type}(A:ow B S bc)
def eU.g:eU->x1
 | .v x=>x
 | .b c=>.bool c
 | .u=>A.mB (x:=undef)
def pp(e:Env):S3->eU
 | .tmp t=>match look e t with
  |some x=>x
  |none=>.u
 | .const (.bool c)=>.b c
 | .const x=>.v (A.mB (x:=x))
 | .global g=>.v (A.mB (x:=Γ g))
 | .func f=>.v (A.mB (x:=.func (.func f) #[] #[]))
def dd(e:Env)(x:S3):x1:=(pp A e x).g A
def pq(e:Env):List S3->List x1
 |[]=>[]
 |x::r=>dd A e x::pq e r
def tW(e:Env):Option S3->Option x1
 |none=>ν
 |some x=>σ (dd A e x)
def wU(e:Env):List (Nat×S3)->List (Nat×x1)
 |[]=>[]
 |(i,x)::r=>(i,dd A e x)::wU e r
def IH(b:Z0)(ats:Array r8)(t:r8)(l:List x1)(K:S->B):B:=
 match b with
 | .append=>K (A.append (ats:=ats) (t:=t) l)
 | .cap=>K (A.cap (ats:=ats) (t:=t) l)
 | .clear=>K (A.clear (ats:=ats) (t:=t) l)
 | .copy=>K (A.copy (ats:=ats) (t:=t) l)
 | .delete=>K (A.delete (ats:=ats) (t:=t) l)
 | .len=>K (A.len (ats:=ats) (t:=t) l)
 | .max=>K (A.max (ats:=ats) (t:=t) l)
 | .min=>K (A.min (ats:=ats) (t:=t) l)
 |_=>A.no
def AZ(e:Env)(t:r8)(K:S->B)(j:bc->B):Op->B
 | .alloc t=>K (A.alloc (t:=t))
 | .box t x=>K (A.box (t:=t) (dd A e x))
 | .build t q=>K (A.build (t:=t) (wU A e q.toList))
 | .buildSlice t n q=>K (A.buildSlice (t:=t) (n:=n) (wU A e q.toList))
 | .load t x=>K (A.load (t:=t) (dd A e x))
 | .nilCheck x=>K (A.nil (dd A e x))
 | .binOp op t x y _=>K (A.bin (op:=op) (t:=t) (qy x) (qy y) (dd A e x) (dd A e y))
 | .unOp op _ x=>K (A.un (op:=op) (dd A e x))
 | .convert s d x=>K (A.conv (s:=s) (d:=d) (dd A e x))
 | .makeInterface t x=>K (A.AR (t:=t) (dd A e x))
 | .makeFunc f a b=>K (A.AS (f:=f) (pq A e a.toList) (pq A e b.toList))
 | .makeMap t r=>K (A.AT (t:=t) (tW A e r))
 | .makeSlice t l c=>K (A.AU (t:=t) (dd A e l) (dd A e c))
 | .slice t x l h m=>K (A.slice (t:=t) (dd A e x) (tW A e l) (tW A e h) (tW A e m))
 | .fieldAddr t x f=>K (A.AV (t:=t) (dd A e x) (f:=f))
 | .field t x f=>K (A.field (t:=t) (dd A e x) (f:=f))
 | .indexAddr t x i=>K (A.AW (t:=t) (dd A e x) (dd A e i))
 | .index t x i=>K (A.index (t:=t) (dd A e x) (dd A e i))
 | .lookup t x i ok=>K (A.lookup (t:=t) (dd A e x) (dd A e i) (ok:=ok))
 | .mapEntry t m k=>K (A.AX (t:=t) (dd A e m) (dd A e k))
 | .range t x=>K (A.range (t:=t) (dd A e x))
 | .entry x=>K (A.entry (dd A e x))
 | .typeAssert x t a ok=>K (A.assert (t:=t) (a:=a) (dd A e x) (ok:=ok))
 | .extract x i=>K (A.extract (dd A e x) (i:=i))
 | .call ⟨.builtin b,args,ats⟩=>IH A b ats t (pq A e args.toList) K
 | .store t a x=>j (A.store (t:=t) (dd A e a) (dd A e x))
 | .mapUpdate t m k x=>j (A.wT (t:=t) (dd A e m) (dd A e k) (dd A e x))
 | .insert t m k x=>j (A.wT (t:=t) (dd A e m) (dd A e k) (dd A e x))
 | .entryStore t m k x=>j (A.AY (t:=t) (dd A e m) (dd A e k) (dd A e x))
 |_=>A.no
def ja(e:Env)(d:Option Tmp)(x:eU):Env:=
 match d with
 |some t=>(t,x)::e
 |none=>e
def A0(o:T2)(e:Env)(w:x4)(K:Env->(x4->B)->B):B:=
 match o with
 |⟨d,.move x,_,_,_,_⟩=>K (ja e d (pp A e x)) (λ_=>A.mC)
 |⟨d,.assign x,_,_,_,_⟩=>K (ja e d (pp A e x)) (λ_=>A.mC)
 |⟨d,.pick c a b,_,_,_,_⟩=>
  match pp A e c with
  | .b ms=>K (ja e d (pp A e a)) (λ_=>A.mC)
  | .b ne=>K (ja e d (pp A e b)) (λ_=>A.mC)
  | .v x=>A.split x (K (ja e d (.v (dd A e a))) (λ_=>A.mC)) (K (ja e d (.v (dd A e b))) (λ_=>A.mC))
  | .u=>A.no
 |⟨d,op,t,_,_,_⟩=>AZ A e t (λs=>A.wS s w λv=>K (ja e d (.v v)) (A.stays s v)) (λ_=>A.no) op
def II(fr:Bool)(n:Nat)(o:T2)(e:Env)(w:x4)(K:Env->x4->B):B:=
 match o with
 |⟨d,.call ⟨.value (.func f),args,_⟩,_,_,_,_⟩=>
  bif fr then A.AD (f:=f) (pq A e args.toList) w λv I=>K (ja e d (.v v)) I
  else A.AC (f:=f) (pq A e args.toList) w λv I=>K (ja e d (.v v)) I
 |⟨d,.call ⟨.value x,args,_⟩,_,_,_,_⟩=>A.AE (fr:=fr) (dd A e x) (pq A e args.toList) w λv I=>K (ja e d (.v v)) I
 |⟨d,.next x b,_,_,_,_⟩=>A.runN (fr:=fr) (n:=n) (A.next (dd A e x) (b:=b)) w λv I=>K (ja e d (.v v)) I
 |⟨d,op,t,_,_,_⟩=>AZ A e t (λs=>A.AA s w λv I=>K (ja e d (.v v)) I) (λu=>A.AB u w λI=>K (ja e d (.v (A.mB (x:=undef)))) I) op
def A1(fr:Bool)(n:Nat)(o:T2)(e:Env)(w:x4)(K:Env->x4->B):B:=
 bif lQ o then A0 A o e w (λa _=>K a w)else II A fr n o e w K
def wV(ops:List T2)(o:T2)(e:Env)(D N:Env->B):B:=
 match o.guard with
 |none=>D e
 |some (j,b)=>
  match qF ops j with
  |some ⟨σ s,_,_,_,_,_⟩=>
   match look e s with
   |some (.b c)=>bif xor c b then N e else D e
   |some (.v x)=>A.split x (bif b then D ((s,.b ms)::e)else N ((s,.b ms)::e)) (bif b then N ((s,.b ne)::e)else D ((s,.b ne)::e))
   |some .u=>N e
   |none=>A.no
  |_=>A.no
def wW(fr:Bool)(n:Nat)(ops:List T2):List T2->Env->x4->(Env->x4->B)->B
 |[],e,w,K=>K e w
 |o::l,e,w,K=>wV A ops o e (λe=>A1 A fr n o e w λa I=>wW fr n ops l a I K) (λe=>wW fr n ops l (ja e o.dst .u) w K)
def A2:List Edge->Nat->Bool
 |[],_=>ms
 |e::r,a=>(bif Av e then rU a e.on else ms)&&A2 r a
def tX(a:Nat):Nat->List T2->List Nat
 |_,[]=>[]
 |i,o::l=>bif rU a i then tX a (Nat.succ i) l else bif A2 o.after.toList a then i::tX a (Nat.succ i) l else tX a (Nat.succ i) l
def A3(ops:List T2):List Nat->Option Nat
 |[]=>ν
 |i::r=>match qF ops i with
  |some o=>bif lQ o then σ i else A3 ops r
  |none=>ν
def A4(p:Nat->B):List Nat->B
 |[]=>A.mC
 |[i]=>p i
 |i::r=>A.and (p i) (A4 p r)
def A5(same:Bool)(q:Nat)(w:x4)(st:x4->B)(a:List (x4×List (Nat×(x4->B)))):List (x4×List (Nat×(x4->B))):=
 match same,a with
 |true,g::r=>(g.1,(q,st)::g.2)::r
 |_,a=>(w,[(q,st)])::a
def A6(a:List Nat)(j:Nat):List (Nat×(x4->B))->Bool
 |[]=>ne
 |(i,_)::r=>wR a j i||A6 a j r
def wX(a:List Nat)(j:Nat)(I:x4):List (Nat×(x4->B))->B
 |[]=>A.mC
 |(i,p)::r=>bif wR a j i then A.and (p I) (wX a j I r)else wX a j I r
def tY(a:List Nat)(j:Nat)(I:x4)(C:B):List (x4×List (Nat×(x4->B)))->B
 |[]=>C
 |(w,l)::r=>bif A6 a j l then A.and (A.or (A.W w I) (wX A a j I l)) (tY a j I C r)else tY a j I C r
def pr(fr:Bool)(n:Nat)(ops:List T2)(a:List Nat):Nat->Nat->Bool->List (x4×List (Nat×(x4->B)))->Env->x4->(Env->x4->B)->B
 |0,_,_,_,e,w,K=>K e w
 |fuel+1,h,same,f,e,w,K=>
  match tX h 0 ops with
  |[]=>K e w
  |i::r=>
   match A3 ops (i::r)with
   |some q=>
    match qF ops q with
    |some o=>wV A ops o e
      (λe=>A0 A o e w λs st=>
       bif nw o then pr fr n ops a fuel (lV h q) same f s w K
       else pr fr n ops a fuel (lV h q) ms (A5 same q w st f) s w K)
      (λe=>bif nw o then pr fr n ops a fuel (lV h q) same f (ja e o.dst .u) w K
       else pr fr n ops a fuel (lV h q) ms (A5 same q w (λ_=>A.mC) f) (ja e o.dst .u) w K)
    |none=>A.no
   |none=>
    A4 A (λj=>match qF ops j with
     |some o=>wV A ops o e (λe=>A1 A fr n o e w λs I=>tY A a j I (pr fr n ops a fuel (lV h j) ne f s I K) f)
       (λe=>tY A a j w (pr fr n ops a fuel (lV h j) ne f (ja e o.dst .u) w K) f)
     |none=>A.no) (i::r)
def tZ(e:Env):List Nat->List x1
 |[]=>[]
 |t::r=>(match look e t with|some x=>x.g A|none=>A.mB (x:=undef))::tZ e r
def wY(l:List Nat)(vs:List x1)(e:Env):Env:=
 match l,vs with
 |t::r,v::vs=>(t,.v v)::wY r vs e
 |_,_=>e
def ua(d:Nat):Env->Env
 |[]=>[]
 |(t,x)::r=>bif rU d t then ua d r else(t,x)::ua d r
def IJ(l:List Nat)(aA:List x1->x4->B)(X:(List x1->x4->B)->B):B:=
 match l with
 |[]=>A.cZ (λw=>aA [] w) λk=>X λ_ w=>k w
 |[_]=>A.a1 (λa w=>aA [a] w) λk=>X λvs w=>match vs with
  |[a]=>k a w
  |_=>A.no
 |[_,_]=>A.jw (λa b w=>aA [a,b] w) λk=>X λvs w=>match vs with
  |[a,b]=>k a b w
  |_=>A.no
 |[_,_,_]=>A.AF (λa b c w=>aA [a,b,c] w) λk=>X λvs w=>match vs with
  |[a,b,c]=>k a b c w
  |_=>A.no
 |[_,_,_,_]=>A.AG (λa b c d w=>aA [a,b,c,d] w) λk=>X λvs w=>match vs with
  |[a,b,c,d]=>k a b c d w
  |_=>A.no
 |[_,_,_,_,_]=>A.AH (λa b c d f w=>aA [a,b,c,d,f] w) λk=>X λvs w=>match vs with
  |[a,b,c,d,f]=>k a b c d f w
  |_=>A.no
 |_=>A.no
def IK(us:List x1)(w:x4)(X:List x1->x4->(List x1->x4->B)->B):B:=
 match us with
 |[]=>A.AI w λw k=>X [] w λ_ w=>k w
 |[a]=>A.AJ a w λa w k=>X [a] w λvs w=>match vs with
  |[a]=>k a w
  |_=>A.no
 |[a,b]=>A.AK a b w λa b w k=>X [a,b] w λvs w=>match vs with
  |[a,b]=>k a b w
  |_=>A.no
 |[a,b,c]=>A.AL a b c w λa b c w k=>X [a,b,c] w λvs w=>match vs with
  |[a,b,c]=>k a b c w
  |_=>A.no
 |[a,b,c,d]=>A.AM a b c d w λa b c d w k=>X [a,b,c,d] w λvs w=>match vs with
  |[a,b,c,d]=>k a b c d w
  |_=>A.no
 |[a,b,c,d,f]=>A.AN a b c d f w λa b c d f w k=>X [a,b,c,d,f] w λvs w=>match vs with
  |[a,b,c,d,f]=>k a b c d f w
  |_=>A.no
 |[a,b,c,d,f,g]=>A.AO a b c d f g w λa b c d f g w k=>X [a,b,c,d,f,g] w λvs w=>match vs with
  |[a,b,c,d,f,g]=>k a b c d f g w
  |_=>A.no
 |_=>A.no
def wZ(K:Nat->x4->B):List Nat->List (Nat×(x4->B))
 |[]=>[]
 |i::r=>(i,λw=>K i w)::wZ K r
def jx(fr:Bool)(n:Nat):Code->Nat->Env->x4->(Exit->Env->x4->B)->B
 | .skip,_,e,w,K=>K .normal e w
 | .label _,_,e,w,K=>K .normal e w
 | .ret,_,e,w,K=>K .ret e w
 | .exit i,_,e,w,K=>K (.exit i) e w
 | .region _ ops C,_,e,w,K=>
  bif C then A.drew w λI=>pr A fr n ops.toList (wQ ops.toList []) (ops.toList.length) 0 ne [] e I (K .normal)
  else wW A fr n ops.toList ops.toList e w (K .normal)
 | .seq x y,rd,e,w,K=>
  bif Nat.ble 2 (nC x)then
   IJ A (ov 1000 0 (Nat.land (jQ x) (Nat.lor (gR y) rd))) (λvs I=>jx fr n y rd (wY (ov 1000 0 (Nat.land (jQ x) (Nat.lor (gR y) rd))) vs (ua (jQ x) e)) I K)
    λaA=>jx fr n x (Nat.lor (gR y) rd) e w λex h I=>match ex with
     | .normal=>aA (tZ A h (ov 1000 0 (Nat.land (jQ x) (Nat.lor (gR y) rd)))) I
     |ex=>K ex h I
  else jx fr n x (Nat.lor (gR y) rd) e w λex h I=>match ex with
   | .normal=>jx fr n y rd h I K
   |ex=>K ex h I
 | .cond c x y,rd,e,w,K=>
  match pp A e c with
  | .b ms=>jx fr n x rd e w K
  | .b ne=>jx fr n y rd e w K
  | .v v=>A.split v (jx fr n x rd e w K) (jx fr n y rd e w K)
  | .u=>A.no
 | .block id c,rd,e,w,K=>jx fr n c rd e w λex h I=>match ex with
  | .exit i=>bif S7 i id then K .normal h I else K (.exit i) h I
  |ex=>K ex h I
 | .loop c,rd,e,w,K=>
  IK A (tZ A e (rV e (ov 1000 0 (Nat.land (jQ c) (Nat.lor (gR c) rd))))) w λus I k=>
   jx fr n c (Nat.lor (gR c) rd) (wY (rV e (ov 1000 0 (Nat.land (jQ c) (Nat.lor (gR c) rd)))) us (ua (jQ c) e)) I λex h j=>match ex with
    | .normal=>k (tZ A h (rV e (ov 1000 0 (Nat.land (jQ c) (Nat.lor (gR c) rd))))) j
    |ex=>K ex h j
 | .scope c,rd,e,w,K=>jx fr n c rd e w K
 | .rangeFunc f E z body,_,e,w,K=>
  match E.toList with
  |[p]=>A.AP (dd A e f) w
    (λa I k=>jx fr n z (gR body) ((p,.v a)::e) I λex h j=>match ex with
     | .normal=>A.over (n:=w.heap.size) j λr=>jx fr n body 0 h r λex _ s=>k ex s
     |_=>A.no)
    (λI=>K .normal e I) (bif kJ body then λI=>K .ret e I else λ_=>A.no) (wZ (λi I=>K (.exit i) e I) (la body))
  |[p,q]=>A.AQ (dd A e f) w
    (λa b I k=>jx fr n z (gR body) ((q,.v b)::(p,.v a)::e) I λex h j=>match ex with
     | .normal=>A.over (n:=w.heap.size) j λr=>jx fr n body 0 h r λex _ s=>k ex s
     |_=>A.no)
    (λI=>K .normal e I) (bif kJ body then λI=>K .ret e I else λ_=>A.no) (wZ (λi I=>K (.exit i) e I) (la body))
  |_=>A.no
 | .goto _,_,_,_,_=>A.no
 | .refuse _,_,_,_,_=>A.no
def A7:Nat->List x1->Env
 |_,[]=>[]
 |i,v::r=>(i,.v (A.mB (x:=v)))::A7 (i+1) r
def ub(e:Env)(w:x4):List ResultVar->(List x1->B)->B
 |[],K=>K []
 | .tmp t::r,K=>ub e w r λvs=>K ((match look e t with|some x=>x.g A|none=>A.mB (x:=undef))::vs)
 | .cell a t::r,K=>A.wS (A.loadVar (t:=t) (match look e a with|some x=>x.g A|none=>A.mB (x:=undef))) w λv=>ub e w r λvs=>K (v::vs)
def uc(vs:List x1)(K:x1->B):B:=
 match vs with
 |[v]=>K v
 |vs=>K (A.tup vs)
def w1:List ResultVar->Nat->Nat
 |[],s=>s
 | .tmp t::r,s=>w1 r (lV s t)
 | .cell a _::r,s=>w1 r (lV s a)
def IL(a:List ResultVar)(marks:Bool)(n:Nat)(Q:x1->x4->B):Exit->Env->x4->B
 | .normal,e,w=>ub A e w a λvs=>bif marks then A.again (n:=n) w λI=>uc A vs λv=>Q v I else uc A vs λv=>Q v w
 | .ret,e,w=>ub A e w a λvs=>bif marks then A.again (n:=n) w λI=>uc A vs λv=>Q v I else uc A vs λv=>Q v w
 |_,_,_=>A.no
def w2(fr marks:Bool)(fn:Func)(c:Code)(args:List x1)(w:x4)(Q:x1->x4->B):B:=
 jx A fr n c (w1 fn.results.toList 0) (A7 A 0 args) w (IL A fn.results.toList marks n Q)
end
def qG(P:W5):ow Prop (Sem x1) (Sem Unit) where
 mB {x}:=x
 tup l:=.tuple l.toArray
 no:=False
 mC:=True
 and:=And
 or:=Or
 W:=Ext
 stays:=cK P
 split:=Split
 wS:=ad P
 AA:=aM P
 AB u w K:=aM P u w λ_ I=>K I
 runN {fr n}:=tC P (fr,n)
 AC {f}:=aq P f
 AD {f}:=io P f
 AE {fr}:=tF P fr
 drew:=eP
 again {n}:=wJ n
 over {n}:=Over n
 cZ:=cC
 a1:=cC
 jw:=cC
 AF:=cC
 AG:=cC
 AH:=cC
 AI:=Io
 AJ:=b6
 AK:=cb
 AL:=k9
 AM:=rN
 AN:=rO
 AO:=Ip
 AP:=ki P
 AQ:=oq P
 loadVar {t} x:=do loadVar t (<-asAddr x)
 alloc {t}:=R4 t ms (.tuple #[])
 box {t} x:=Instr.box t x
 build {t} l:=Instr.build t l.toArray
 buildSlice {t n} l:=Y3 t n l.toArray
 load {t} x:=u4 t x
 nil x:=b0 x
 bin {op t} a b x y:=aU op t a b x y
 un {op} x:=Op.unary op x
 conv {s d} x:=convert s d x
 AR {t} x:=Instr.makeInterface t x
 AS {f} a b:=Instr.makeFunc f a.toArray b.toArray
 AT {t} x:=Instr.makeMap t x
 AU {t} l c:=Instr.makeSlice t l c
 slice {t} x l h m:=V5 t x l h m
 AV {t} x {f}:=u6 t x f
 field {t} x {f}:=Instr.field t x f
 AW {t} x i:=n9 t x i
 index {t} x i:=Instr.index t x i
 lookup {t} x i {ok}:=Instr.lookup t x i ok
 AX {t} m k:=Instr.mapEntry t m k
 range {t} x:=Instr.range t x
 entry x:=Instr.entry x
 assert {t a} x {ok}:=Instr.typeAssert x t a ok
 extract x {i}:=Z9 x i
 next x {b}:=Instr.next x b 0
 append {ats t} l:=c9 ats t l.toArray
 cap {ats t} l:=Z0.cap_ ats t l.toArray
 clear {ats t} l:=Z0.clear_ ats t l.toArray
 copy {ats t} l:=Z0.copy_ ats t l.toArray
 delete {ats t} l:=Z0.delete_ ats t l.toArray
 len {ats t} l:=W7 ats t l.toArray
 max {ats t} l:=Z0.max_ ats t l.toArray
 min {ats t} l:=Z0.min_ ats t l.toArray
 store {t} a x:=o7 t a x
 wT {t} m k x:=Instr.mapUpdate t m k x
 AY {t} m k x:=Instr.entryStore t m k x
end Go.Vc
namespace Go.Proofs.YtlcdcbgoaljiiaaGreatDoor
open Go Go.Vc Go.RowKit Go.Proofs Go.Proofs.Tryz
set_option maxRecDepth 100000
theorem mixed:x7.follows .mixedOrders=ms:=Ψ
def A8:Nat:=5
def IM:Nat:=6
def IN:Nat:=7
def w3:Nat:=10
def IP:Nat:=12
def IQ:Nat:=13
def IR:Nat:=15
def IS:Nat:=18
def w4:Nat:=19
def w5:Nat:=20
def Ba:Nat:=21
def Bb:Nat:=22
def w6:Nat:=23
def IT:Nat:=24
def IU:Nat:=25
def Bc:Nat:=26
def w7:Nat:=27
def Bd:Nat:=29
def IV:Nat:=30
def IW:Nat:=31
def IX:Nat:=34
def IY:Nat:=35
def Be:Nat:=36
def Bf:Nat:=37
def Bg:Nat:=38
def IZ:Nat:=42
def I0:Nat:=43
def I1:Nat:=44
def VY:Nat:=45
def I2:Nat:=46
def I3:Nat:=47
def I4:Nat:=48
def I5:Nat:=49
def I6:Nat:=50
def I7:Nat:=51
def I8:Nat:=52
def Bh:Nat:=53
def rW:Nat:=54
def I9:Nat:=55
def Ja:Nat:=56
def Jb:Nat:=57
def Jc:Nat:=58
def Jd:Nat:=59
def Je:Nat:=60
def Bi:Nat:=61
def Jf:Nat:=62
def Jg:Nat:=63
def Jh:Nat:=64
def Ji:Nat:=65
def Jj:Nat:=66
def Jk:Nat:=67
def Jl:Nat:=68
def Jm:Nat:=69
def Jn:Nat:=70
def Jo:Nat:=71
def VZ:Nat:=72
def w8:Nat:=73
def Jp:Nat:=74
def Jq:Nat:=75
def Jr:Nat:=76
def Js:Nat:=77
def Jt:Nat:=78
def Ju:Nat:=79
def Jv:Nat:=80
def jy:Nat:=81
def Jw:Nat:=82
def Jx:Nat:=83
def Jy:Nat:=84
def Jz:Nat:=85
def JA:Nat:=86
def Bj:Nat:=87
def JB:Nat:=89
def JC:Nat:=90
def JD:Nat:=92
def JE:Nat:=93
def mD:Nat:=94
def JF:Nat:=95
def JG:Nat:=96
def JH:Nat:=97
def Bk:Nat:=98
def JI:Nat:=99
def JJ:Nat:=100
def JK:Nat:=101
def JL:Nat:=102
def JM:Nat:=103
def JN:Nat:=104
def Wa:Nat:=105
def Bl:Nat:=106
def Bm:Nat:=107
def rX:Nat:=108
def ps:Nat:=109
def mE:Nat:=110
def Bn:Nat:=111
def w9:Nat:=112
def pt:Nat:=113
def Bo:Nat:=114
def xa:Nat:=115
def JO:Nat:=116
def JP:Nat:=117
def ud:Nat:=118
def nE:Nat:=119
def Bp:Nat:=120
def pu:Nat:=121
def JQ:Nat:=122
def JR:Nat:=123
def JS:Nat:=124
def JT:Nat:=125
def Bq:Nat:=126
def JU:Nat:=127
def JV:Nat:=128
def Br:Nat:=129
def Bs:Nat:=130
def JW:Nat:=131
def JX:Nat:=132
def JY:Nat:=133
def JZ:Nat:=134
def J0:Nat:=135
def xb:Nat:=136
def J1:Nat:=137
def J2:Nat:=138
def J3:Nat:=139
def J4:Nat:=140
def J5:Nat:=141
def J6:Nat:=142
def J7:Nat:=143
def J8:Nat:=144
def J9:Nat:=145
def pv:Nat:=146
def pw:Nat:=147
def Ka:Nat:=148
def Kb:Nat:=149
def Kc:Nat:=150
def Kd:Nat:=151
def Ke:Nat:=152
def Kf:Nat:=153
def Kg:Nat:=154
def Kh:Nat:=155
def Ki:Nat:=156
def Kj:Nat:=157
def Kk:Nat:=158
def Bt:Nat:=159
def Kl:Nat:=160
def Km:Nat:=161
def Kn:Nat:=162
def Ko:Nat:=163
def Kp:Nat:=164
def Kq:Nat:=165
def Kr:Nat:=166
def Ks:Nat:=167
def qH:Nat:=168
def Kt:Nat:=169
def Ku:Nat:=170
def Bu:Nat:=171
def Kv:Nat:=172
def Kw:Nat:=173
def Kx:Nat:=174
def Ky:Nat:=175
def Kz:Nat:=176
def qI:Nat:=177
def KA:Nat:=178
def KB:Nat:=179
def ue:Nat:=180
def KC:Nat:=181
def KD:Nat:=182
def Bv:Nat:=183
def Bw:Nat:=184
def Bx:Nat:=185
def KE:Nat:=186
def rY:Nat:=187
def KF:Nat:=188
def xc:Nat:=189
def KG:Nat:=190
def KH:Nat:=191
def By:Nat:=192
def KI:Nat:=193
def KJ:Nat:=194
def KK:Nat:=195
def KL:Nat:=196
def KM:Nat:=197
def KN:Nat:=198
def KO:Nat:=199
def Bz:Nat:=200
def KP:Nat:=201
def KQ:Nat:=202
def KR:Nat:=203
def KS:Nat:=204
def KT:Nat:=205
def BA:Nat:=206
def KU:Nat:=207
def KV:Nat:=208
def KW:Nat:=209
def KX:Nat:=210
def KY:Nat:=211
def BB:Nat:=212
def KZ:Nat:=213
def BC:Nat:=214
def K0:Nat:=215
def K1:Nat:=216
def K2:Nat:=217
def K3:Nat:=218
def K4:Nat:=219
def K5:Nat:=220
def K6:Nat:=221
def K7:Nat:=222
def K8:Nat:=223
def K9:Nat:=224
def BD:Nat:=225
def La:Nat:=226
def Lb:Nat:=227
def Lc:Nat:=228
def xd:Nat:=229
def uf:Nat:=230
def xe:Nat:=231
def Ld:Nat:=232
def xf:Nat:=233
def Le:Nat:=234
def Lf:Nat:=235
def Lg:Nat:=236
def xg:Nat:=237
def Lh:Nat:=238
def Li:Nat:=239
def BE:Nat:=240
def BF:Nat:=241
def BG:Nat:=242
def Lj:Nat:=243
def Lk:Nat:=244
def Ll:Nat:=245
def Lm:Nat:=246
def Ln:Nat:=247
def Lo:Nat:=248
def Lp:Nat:=249
def Wb:Nat:=250
def Lq:Nat:=252
def cmp_isNaN_int:Nat:=253
def BH:Nat:=254
def xh:Nat:=255
def ug:Nat:=256
def Lr:Nat:=257
def Ls:Nat:=258
def BI:Nat:=259
def Lt:Nat:=260
def Lu:Nat:=261
def Lv:Nat:=262
def Lw:Nat:=263
def Lx:Nat:=264
def Ly:Nat:=265
def Lz:Nat:=266
def nF:Nat:=267
def px:Nat:=268
def BJ:Nat:=269
def BK:Nat:=270
def LA:Nat:=271
def LB:Nat:=272
def Wc:Nat:=273
def LC:Nat:=274
def Wd:Nat:=275
def LD:Nat:=276
def LF:Nat:=277
def qJ:Nat:=278
def LG:Nat:=279
def LH:Nat:=280
def LI:Nat:=281
def LJ:Nat:=291
def LK:Nat:=292
def uh:Nat:=293
def LL:Nat:=294
def LM:Nat:=295
def LN:Nat:=296
def LO:Nat:=297
def nG:Nat:=298
def LP:Nat:=299
def LQ:Nat:=300
def LR:Nat:=301
def We:Nat:=302
def Wf:Nat:=309
def LS:Nat:=310
def LU:Nat:=311
def LV:Nat:=313
def LW:Nat:=314
def LX:Nat:=315
def Wg:Nat:=316
def LY:Nat:=317
def Wh:Nat:=318
def Wi:Nat:=319
def Wj:Nat:=320
def Wk:Nat:=321
def Wl:Nat:=322
def cmp_Less_int:Nat:=323
def Wm:Nat:=324
def Wn:Nat:=325
def Wo:Nat:=335
def Wp:Nat:=336
abbrev LZ:Nat:=0
abbrev ax:Nat:=2
abbrev al:Nat:=3
abbrev eE:Nat:=4
abbrev cS:Nat:=5
abbrev de:Nat:=9
abbrev cU:Nat:=22
abbrev py:Nat:=23
abbrev dx:Nat:=25
abbrev av:Nat:=26
abbrev df:Nat:=27
abbrev lb:Nat:=28
abbrev et:Nat:=29
abbrev fa:Nat:=30
abbrev a8:Nat:=33
abbrev ld:Nat:=38
abbrev ox:Nat:=47
abbrev aC:Nat:=51
abbrev fL:Nat:=58
abbrev b9:Nat:=60
abbrev dg:Nat:=63
abbrev be:Nat:=70
abbrev dI:Nat:=72
abbrev oy:Nat:=82
abbrev mF:Nat:=83
abbrev fm:Nat:=84
abbrev ch:Nat:=86
abbrev Wq:Nat:=87
abbrev gS:Nat:=89
abbrev BL:Nat:=92
abbrev qK:Nat:=94
abbrev bL:Nat:=96
abbrev ec:Nat:=98
abbrev xi:Nat:=106
abbrev xj:Nat:=109
abbrev c0:Nat:=116
abbrev ed:Nat:=118
abbrev eu:Nat:=134
abbrev ir:Nat:=135
abbrev jb:Nat:=136
abbrev kj:Nat:=137
abbrev dh:Nat:=139
abbrev ee:Nat:=150
abbrev rZ:Nat:=151
abbrev lW:Nat:=157
abbrev mG:Nat:=158
abbrev gT:Nat:=166
abbrev ui:Nat:=168
abbrev fo:Nat:=171
abbrev jc:Nat:=172
abbrev cH:Nat:=174
abbrev kL:Nat:=179
abbrev kk:Nat:=180
abbrev cq:Nat:=182
abbrev dW:Nat:=188
abbrev cL:Nat:=190
abbrev fb:Nat:=191
abbrev cP:Nat:=193
abbrev fM:Nat:=195
abbrev dL:Nat:=199
abbrev bO:Nat:=201
abbrev ev:Nat:=203
abbrev cD:Nat:=205
abbrev ew:Nat:=209
abbrev bj:Nat:=211
abbrev mH:Nat:=216
abbrev gx:Nat:=218
abbrev fp:Nat:=219
abbrev jd:Nat:=223
abbrev qL:Nat:=231
abbrev Wr:Nat:=242
abbrev r0:Nat:=244
abbrev jz:Nat:=257
abbrev lf:Nat:=263
abbrev eF:Nat:=268
abbrev cr:Nat:=272
abbrev gU:Nat:=274
abbrev c3:Nat:=279
abbrev kl:Nat:=292
abbrev gi:Nat:=294
abbrev qM:Nat:=295
abbrev gV:Nat:=298
abbrev c4:Nat:=301
abbrev xk:Nat:=317
abbrev eQ:Nat:=320
abbrev dq:Nat:=322
abbrev cI:Nat:=324
abbrev iL:Nat:=328
abbrev gA:Nat:=331
abbrev cM:Nat:=333
abbrev mI:Nat:=356
abbrev lg:Nat:=358
abbrev Ws:Nat:=372
abbrev qN:Nat:=379
abbrev nH:Nat:=380
abbrev oz:Nat:=402
abbrev xl:Nat:=421
theorem aF{f:S9}{fn:Func}{c:Code}{Q:x1->x4->Prop}{Z:{B S bc:Type}->ow B S bc->(x1->x4->B)->B}{X:Prop}(ah:x7.funcs[f]?=σ fn)(h:X)(a:fn.body=σ c:=by rfl)(_:∀{B S bc:Type}(A:ow B S bc)(Q:x1->x4->B),w2 A ne ne (n:=w.heap.size) fn c args w Q=Z A Q:=by intros;conv=>lhs;reduce)(_:Z (qG x7) Q=X:=by dsimp only[qG])(e:X=eW x7 fn.ntmps (ne,w.heap.size) c (ou fn.results.toList) (mA 0 args) w (nB x7 fn.results.toList ne 0 Q):=by kernel_rfl)(hk:(!(fn.name == "runtime.NumGoroutine")&&wf fn.ntmps c&&Nat.ble args.length fn.ntmps&& !lT c)=ms:=by kernel_rfl):aq x7 f args w Q:=by
 simp only[S0,Bool.not_eq_true']at hk;exact aq.IF mixed ah a hk.1.1.1 hk.1.1.2 hk.1.2 hk.2 (e▸h)
theorem iM{f:S9}{fn:Func}{c:Code}{Q:x1->x4->Prop}{Z:{B S bc:Type}->ow B S bc->(x1->x4->B)->B}{X:Prop}(ah:x7.funcs[f]?=σ fn)(h:X)(a:fn.body=σ c:=by rfl)(_:∀{B S bc:Type}(A:ow B S bc)(Q:x1->x4->B),w2 A ne ms (n:=w.heap.size) fn c args w Q=Z A Q:=by intros;conv=>lhs;reduce)(_:Z (qG x7) Q=X:=by dsimp only[qG])(e:X=eW x7 fn.ntmps (ne,w.heap.size) c (ou fn.results.toList) (mA 0 args) w (nB x7 fn.results.toList ms w.heap.size Q):=by kernel_rfl)(hk:(!(fn.name == "runtime.NumGoroutine")&&wf fn.ntmps c&&Nat.ble args.length fn.ntmps)=ms:=by kernel_rfl):aq x7 f args w Q:=by
 simp only[S0,Bool.not_eq_true']at hk;exact aq.enter mixed ah a hk.1.1 hk.1.2 hk.2 (e▸h)
theorem qO{f:S9}{fn:Func}{c:Code}{Q:x1->x4->Prop}{Z:{B S bc:Type}->ow B S bc->(x1->x4->B)->B}{X:Prop}(ah:x7.funcs[f]?=σ fn)(h:X)(a:fn.body=σ c:=by rfl)(_:∀{B S bc:Type}(A:ow B S bc)(Q:x1->x4->B),w2 A ms ne (n:=0) fn c args w Q=Z A Q:=by intros;conv=>lhs;reduce)(_:Z (qG x7) Q=X:=by dsimp only[qG])(e:X=eW x7 fn.ntmps (ms,0) c (ou fn.results.toList) (mA 0 args) w (nB x7 fn.results.toList ne 0 Q):=by kernel_rfl)(hk:(!(fn.name == "runtime.NumGoroutine")&&wf fn.ntmps c&&Nat.ble args.length fn.ntmps)=ms:=by kernel_rfl):io x7 f args w Q:=by
 simp only[S0,Bool.not_eq_true']at hk;exact io.enter mixed ah a hk.1.1 hk.1.2 hk.2 (e▸h)
theorem jy.enters:Enters x7 jy:=Enters.of x7 (show x7.funcs[jy]?=σ Tryz.f81 from Tryz.func81) rfl Ψ
theorem mD.enters:Enters x7 mD:=Enters.of x7 (show x7.funcs[mD]?=σ Tryz.f94 from Tryz.func94) rfl Ψ
theorem qH.enters:Enters x7 qH:=Enters.of x7 (show x7.funcs[qH]?=σ Tryz.f168 from Tryz.func168) rfl Ψ
theorem nF.enters:Enters x7 nF:=Enters.of x7 (show x7.funcs[nF]?=σ Tryz.f267 from Tryz.func267) rfl Ψ
theorem qJ.enters:Enters x7 qJ:=Enters.of x7 (show x7.funcs[qJ]?=σ Tryz.f278 from Tryz.func278) rfl Ψ
theorem nG.enters:Enters x7 nG:=Enters.of x7 (show x7.funcs[nG]?=σ Tryz.f298 from Tryz.func298) rfl Ψ
end Go.Proofs.YtlcdcbgoaljiiaaGreatDoor
namespace Go.Vc
open Go Go.RowKit
theorem xm{b o:Nat}(h:w.cell? ⟨b,o,ν⟩=σ v):∃c e f,w.heap[b]?=σ (.cells c e f)/\c[o]?=σ v:=by
 simp only[x4.cell?]at h;split at h
 .rename_i c e f a;exact⟨c,e,f,a,by simpa using h⟩
 .cases h
theorem BM(J:aj S w I){b o:Nat}(a:¬S b)(h:w.cell? ⟨b,o,ν⟩=σ v):I.cell? ⟨b,o,ν⟩=σ v:=by
 obtain⟨c,e,f,j,ac⟩:=xm h;simp[x4.cell?,J.bb b _ j rfl a,ac]
theorem km(J:Ext w I){b o:Nat}(h:w.cell? ⟨b,o,ν⟩=σ v):I.cell? ⟨b,o,ν⟩=σ v:=
 BM (J.aa λ_=>False) (λh=>h) h
theorem pz(J:Ext w I){b o:Nat}(h:w.rangeAt b o cs):I.rangeAt b o cs:=λj v ac=>km J (h j v ac)
theorem iu(J:aj S w I){b o:Nat}(a:¬S b)(h:w.rangeAt b o cs):I.rangeAt b o cs:=λj v ac=>BM J a (h j v ac)
def ai(w:x4)(g:Nat)(e:r8)(cs:List x1):Prop:=w.heap[g]?=σ (.cells cs.toArray e (0,0))
theorem ai.W{g:Nat}(h:ai w g e cs)(J:Ext w I):ai I g e cs:=J.bb g _ h rfl
theorem ai.aa{g:Nat}(h:ai w g e cs)(J:aj S w I)(a:¬S g):ai I g e cs:=J.bb g _ h rfl a
theorem ai.lt{g:Nat}(h:ai w g e cs):g<w.heap.size:=(Z6.1 h).1
theorem ai.cell{g:Nat}(h:ai w g e cs){o:Nat}(ac:cs[o]?=σ v):w.cell? ⟨g,o,ν⟩=σ v:=by
 unfold ai at h;simp[x4.cell?,h,ac]
theorem ai.Qz{w:World}{g:Nat}{e:TypeId}{cs:List Value}{v:Value}(h:ai w g e cs)(I:cs[0]?=σ v):w.cell? ⟨g,0,ν⟩=σ v:=h.cell I
theorem ai.range{g:Nat}(h:ai w g e cs):w.rangeAt g 0 cs:=λj v ac=>by rw[V7];exact h.cell ac
theorem ai.frozen{g:Nat}(h:ai w g e cs)(o:Nat)(a:Option Nat):w.frozen? ⟨g,o,a⟩=ne:=by
 unfold ai at h;simp[x4.frozen?,h]
def cn(w:x4)(k:Nat)(v:x1)(n:Nat)(cs:List x1):Prop:=
 cs.length=n*k/\∃b o base cap,v= .slice base n cap/\n<=cap/\cap<=maxLen/\(0<n->base=σ ⟨b,o,ν⟩)/\w.rangeAt b o cs
theorem cn.W{k:Nat}(h:cn w k v n cs)(J:Ext w I):cn I k v n cs:=by
 obtain⟨h1,b,o,base,cap,a,e,f,j,q⟩:=h;exact⟨h1,b,o,base,cap,a,e,f,j,pz J q⟩
theorem cn.le{k:Nat}(h:cn w k v n cs):n<=maxLen:=by
 obtain⟨_,_,_,_,_,_,a,e,_⟩:=h;exact Y7 a e
theorem cn.nil(w:x4)(k:Nat):cn w k (.slice ν 0 0) 0 []:=⟨Ξ,0,0,ν,0,rfl,p9 _,X9 _,λh=>m2 h (Nat.lt_irrefl _),λj v h=>by simp at h⟩
def aS(P:W5)(t:r8)(k b:Nat)(z:x1):Prop:=∃i,P.info? t=σ i/\i.size=k/\i.bytes=b/\i.zero=σ z
theorem aS.of{P:W5}{k b:Nat}(h:(P.info? t).map (λi=>(i.size,i.bytes,i.zero))=σ (k,b,σ z)):aS P t k b z:=by
 cases hi:P.info? t with
 |none=>simp[hi]at h
 |some i=>simp[hi]at h;exact⟨i,hi,h⟩
theorem aS.size{P:W5}{k b:Nat}(h:aS P t k b z):(P.info? t).map (·.size)=σ k:=by
 obtain⟨i,hi,V,_⟩:=h;simp[hi,V]
def bJ(P:W5)(t:r8)(pl:List (Nat×Nat)):Prop:=∃a,P.underlying t=σ (.struct a)/\a.toList.map (λf=>(f.offset,((P.info? f.type).map (·.size)).getD 0))=pl
def BN(P:W5)(t:r8):Option (List (Nat×Nat)):=match P.underlying t with
 |some (.struct a)=>σ (a.toList.map λf=>(f.offset,((P.info? f.type).map (·.size)).getD 0))
 |_=>ν
theorem bJ.of{P:W5}{pl:List (Nat×Nat)}(h:BN P t=σ pl):bJ P t pl:=by
 unfold BN at h;split at h
 .rename_i a hu;exact⟨a,hu,by simpa using h⟩
 .cases h
section
variable{P:W5}{w:x4}
theorem ad.of{s:Sem x1}(h:∀I,Ext w I->s.run P I= .ok v I):ad P s w K=K v:=by
 refine propext ⟨λ⟨a,bg,k⟩=>?_,λk=>⟨v,h,k⟩⟩;have:=bg w (Ext.refl w);rw[h w (Ext.refl w)]at this;cases this;exact k
theorem aM.of{α:Type}{s:Sem α}{v:α}{K:α->x4->Prop}(h:s.run P w= .ok v I)(a:cR w I)(k:K v I):aM P s w K:=⟨v,I,h,a,k⟩
theorem b1{c:Bool}{A B:Prop}:Split (.bool c) A B=((c=ms->A)/\(c=ne->B)):=by
 refine propext ⟨λ⟨e,h,h1,a⟩=>?_,λ⟨h1,a⟩=>⟨c,rfl,h1,a⟩⟩;cases h;exact⟨h1,a⟩
theorem ao{p:Prop}[Decidable p]{A B:Prop}:Split (.bool (decide p)) A B=((p->A)/\(¬p->B)):=by rw[b1];simp
theorem bK{A B:Prop}:Split (.bool ms) A B=A:=by rw[b1];simp
theorem a6{A B:Prop}:Split (.bool ne) A B=B:=by rw[b1];simp
theorem aR{b:Int}:ad P (aU .add t cx cy (.int k a) (.int k b)) w K=K (.int k (k.wrap (a+b))):=
 ad.of λI _=>by simp[aU,eqGuard,binOp,Op.intArith]
theorem c5{b:Int}:ad P (aU .sub t cx cy (.int k a) (.int k b)) w K=K (.int k (k.wrap (a-b))):=
 ad.of λI _=>by simp[aU,eqGuard,binOp,Op.intArith]
theorem iv{b:Int}:ad P (aU .mul t cx cy (.int k a) (.int k b)) w K=K (.int k (k.wrap (a*b))):=
 ad.of λI _=>by simp[aU,eqGuard,binOp,Op.intArith]
theorem pA{b:Int}(e:b≠0):ad P (aU .quo t cx cy (.int k a) (.int k b)) w K=K (.int k (k.wrap (a.tdiv b))):=
 ad.of λI _=>by simp[aU,eqGuard,binOp,Op.intDiv,e]
theorem uj{b:Int}(e:b≠0):ad P (aU .rem t cx cy (.int k a) (.int k b)) w K=K (.int k (a.tmod b)):=
 ad.of λI _=>by simp[aU,eqGuard,binOp,Op.intDiv,e]
theorem aW{b:Int}:ad P (aU .lss t cx cy (.int k a) (.int k b)) w K=K (.bool (decide (a<b))):=
 ad.of λI _=>by simp[aU,eqGuard,binOp,Op.intCmp]
theorem Υ{k:IntKind}{P:Program}{t:TypeId}{cx cy:Bool}{a b:Int}{w:World}{A B:Prop}(hA:a<b->A)(h:a<b:=by omega):ad P (aU .lss t cx cy (.int k a) (.int k b)) w λv=>Split v A B:=by
 rw[aW,ao];exact⟨hA,λe=>m2 h e⟩
theorem nI{b:Int}:ad P (aU .leq t cx cy (.int k a) (.int k b)) w K=K (.bool (decide (a<=b))):=
 ad.of λI _=>by simp[aU,eqGuard,binOp,Op.intCmp]
theorem bU{b:Int}:ad P (aU .gtr t cx cy (.int k a) (.int k b)) w K=K (.bool (decide (b<a))):=
 ad.of λI _=>by simp[aU,eqGuard,binOp,Op.intCmp]
theorem cJ{b:Int}:ad P (aU .geq t cx cy (.int k a) (.int k b)) w K=K (.bool (decide (b<=a))):=
 ad.of λI _=>by simp[aU,eqGuard,binOp,Op.intCmp]
theorem bl{b:Int}:ad P (aU .eql t cx cy (.int k a) (.int k b)) w K=K (.bool (decide (a=b))):=
 ad.of λI _=>by
  have:(a == b)=decide (a=b):=by by_cases h:a=b<;>simp[h]
  simp[aU,eqGuard,binOp,Op.intCmp,this]
theorem bG{b:Int}:ad P (aU .neq t cx cy (.int k a) (.int k b)) w K=K (.bool (decide (a≠b))):=
 ad.of λI _=>by
  have:(a != b)=decide (a≠b):=by by_cases h:a=b<;>simp[h,bne]
  simp[aU,eqGuard,binOp,Op.intCmp,this]
theorem BO{e:o5}{b:Int}(f:0<=b):ad P (aU .shl t cx cy (.int k a) (.int e b)) w K=K (.int k (k.wrap (a*2 ^ min b.toNat k.bits))):=
 ad.of λI _=>by simp[aU,eqGuard,binOp,Op.shift,show¬b<0 by omega]
theorem bE{c:Bool}:ad P (Op.unary .not (.bool c)) w K=K (.bool !c):=ad.of λI _=>by simp[Op.unary]
theorem nJ:ad P (Op.unary .neg (.int k a)) w K=K (.int k (k.wrap (0-a))):=ad.of λI _=>by simp[Op.unary,Op.intArith]
theorem fN{s d:r8}{e:o5}(V:P.underlying s=σ (.int e))(f:P.underlying d=σ (.int k)):
  ad P (convert s d (.int e a)) w K=K (.int k (k.wrap a)):=ad.of λI _=>by simp[convert,run_underlying V,run_underlying f,Conv.intToInt]
theorem BP{x y:x1}{r:Bool}(a:∀I,(eqGuard .eql t (bd cx) (bd cy) x y).run P I= .ok () I)(e:binOp .eql t x y=(do pure (.bool (<-Op.equal t x y))))(h:∀I,Ext w I->(Op.equal t x y).run P I= .ok r I):ad P (aU .eql t cx cy x y) w K=K (.bool r):=ad.of λI J=>by
 unfold aU;rw[e,W8,a I,Result.andThen_ok,W8,h I J];rfl
theorem L0{x y:x1}{r:Bool}(a:∀I,(eqGuard .neq t (bd cx) (bd cy) x y).run P I= .ok () I)(e:binOp .neq t x y=(do pure (.bool (!(<-Op.equal t x y)))))(h:∀I,Ext w I->(Op.equal t x y).run P I= .ok r I):ad P (aU .neq t cx cy x y) w K=K (.bool !r):=ad.of λI J=>by
 unfold aU;rw[e,W8,a I,Result.andThen_ok,W8,h I J];rfl
theorem BQ(w:x4)(d:Nat){p:Option Addr}(h:P.underlying t=σ (.pointer e)):(Op.equalIn (d+1) t (.pointer p) (.pointer ν)).run P w= .ok p.isNone w:=by
 cases p<;>simp[Op.equalIn,run_underlying h]
theorem qP{base:Option Addr}(a:P.underlying t=σ (.slice e)):
  ad P (aU .eql t cx cy (.slice base n c) (.slice ν 0 0)) w K=K (.bool base.isNone):=BP (λ_=>rfl) rfl λI _=>run_equal_slice_nil I t e base n c a
theorem cT{p:Option Addr}(a:P.underlying t=σ (.pointer e)):
  ad P (aU .eql t cx cy (.pointer p) (.pointer ν)) w K=K (.bool p.isNone):=BP (λ_=>rfl) rfl λI _=>BQ I 9999 a
theorem xn{p:Option Addr}(a:P.underlying t=σ (.pointer e)):
  ad P (aU .neq t cx cy (.pointer p) (.pointer ν)) w K=K (.bool !p.isNone):=L0 (λ_=>rfl) rfl λI _=>BQ I 9999 a
theorem je{a:r8}{base:Option Addr}(f:P.underlying t=σ (.slice e)):
  ad P (W7 #[t] a #[.slice base n c]) w K=K (Δ n):=ad.of λI _=>by simp[W7,run_underlying f,goInt]
theorem nK{e:Array r8}{b:Int}:
  ad P (Z0.min_ e f #[.int k a,.int k b]) w K=K (.int k (min a b)):=ad.of λI _=>by
 simp only[Z0.min_,List.foldlM,Z0.min2];simp only[W8,V4,Result.andThen_ok,Int.min_def];congr 2;split<;>split<;>omega
theorem r1{e:Array r8}{b:Int}:
  ad P (Z0.max_ e f #[.int k a,.int k b]) w K=K (.int k (max a b)):=ad.of λI _=>by
 simp only[Z0.max_,List.foldlM,Z0.max2];simp only[W8,V4,Result.andThen_ok,Int.max_def];congr 2;split<;>split<;>omega
theorem gj{vs:Array x1}{i:Nat}(h:vs[i]?=σ v):ad P (Z9 (.tuple vs) i) w K=K v:=ad.of λI _=>by simp[Z9,h]
theorem lh{f:Fn}{a b:Array x1}:ad P (Instr.makeFunc f a b) w K=K (.func f a b):=ad.of λ_ _=>rfl
def lj(P:W5)(t:r8):Bool:=match P.underlying t with
 |some (.struct _)|some (.array _ _)|none=>ne
 |_=>ms
theorem aD{b o:Nat}(a:lj P t=ms)(h:w.cell? ⟨b,o,ν⟩=σ v):
  ad P (u4 t (.pointer (σ ⟨b,o,ν⟩))) w K=K v:=ad.of λI J=>by
 have bg:=km J h;unfold lj at a;cases hu:P.underlying t with
 |none=>rw[hu]at a;cases a
 |some d=>
  rw[hu]at a;cases d<;>first|(cases a;done)|simp[u4,Instr.sureAddr,loadVar,isAgg,run_underlying hu,bg]
theorem BR{d:TypeDesc}{b o k a:Nat}(hu:P.underlying t=σ d)(e:d.isRow=ms)(hi:aS P t k a z)(f:cs.length=k)(h:w.rangeAt b o cs):ad P (u4 t (.pointer (σ ⟨b,o,ν⟩))) w K=K (.agg cs.toArray):=ad.of λI J=>
 run_loadAt_mid I b o t cs d (pz J h) hu e (by rw[hi.size,f])
theorem bF{pl:List (Nat×Nat)}{b o k a:Nat}(hu:bJ P t pl)(hi:aS P t k a z)(e:cs.length=k)(h:w.rangeAt b o cs):ad P (u4 t (.pointer (σ ⟨b,o,ν⟩))) w K=K (.agg cs.toArray):=by
 obtain⟨f,hu,_⟩:=hu;exact BR hu rfl hi e h
theorem aY{pl:List (Nat×Nat)}{i b o z:Nat}(ae:bJ P t pl)(ah:pl[i]?=σ (off,z+1)):
  ad P (u6 t (.pointer (σ ⟨b,o,ν⟩)) i) w K=K (.pointer (σ ⟨b,o+off,ν⟩)):=ad.of λI _=>by
 obtain⟨q,hu,rfl⟩:=ae;rw[v8]at ah;cases a:q[i]? with
 |none=>rw[Array.getElem?_toList,a]at ah;cases ah
 |some f=>
  rw[Array.getElem?_toList,a]at ah;simp only[Y9,W9,R5]at ah;obtain⟨rfl,h⟩:=ah;cases e:P.info? f.type with
  |none=>simp[e]at h
  |some j=>
   have V:j.size=z+1:=by simpa[e]using h
   simp[u6,run_underlying hu,a,Instr.sureAddr,fieldPlace,sizeOf,typeInfo,e,V,U6]
theorem BS{i:Int}{b o z f:Nat}{h:x1}{base:Option Addr}(hu:P.underlying t=σ (.slice e))(q:aS P e z f h)(r:0<=i)(hi:i<n)(a:0<n->base=σ ⟨b,o,ν⟩):
  ad P (n9 t (.slice base n c) (.int k i)) w K=K (.pointer (σ ⟨b,o+i.toNat*z,ν⟩)):=ad.of λI _=>by
 have a:=a Ω;subst a;obtain⟨j,s,V,_⟩:=q;simp[n9,asIntOf,run_underlying hu,r,hi,sizeOf,typeInfo,s,V,U6]
theorem fq{i:Nat}{b o z a:Nat}{f:x1}{base:Option Addr}(hu:P.underlying t=σ (.slice e))(h:aS P e z a f)(hi:i<n)(j:0<n->base=σ ⟨b,o,ν⟩):
  ad P (n9 t (.slice base n c) (.int k (i:Int))) w K=K (.pointer (σ ⟨b,o+i*z,ν⟩)):=by
 rw[BS hu h Ω Ω j];rfl
theorem L1{i:Int}{b o z a:Nat}{f:x1}(hu:P.underlying t=σ (.array n e))(h:aS P e z a f)(q:0<=i)(hi:i<n):
  ad P (n9 t (.pointer (σ ⟨b,o,ν⟩)) (.int k i)) w K=K (.pointer (σ ⟨b,o+i.toNat*z,ν⟩)):=ad.of λI _=>by
 obtain⟨j,r,V,_⟩:=h;simp[n9,asIntOf,run_underlying hu,Instr.sureAddr,q,hi,sizeOf,typeInfo,r,V,U6]
theorem xo{i:Nat}{b o z a:Nat}{f:x1}(hu:P.underlying t=σ (.array n e))(h:aS P e z a f)(hi:i<n):
  ad P (n9 t (.pointer (σ ⟨b,o,ν⟩)) (.int k (i:Int))) w K=K (.pointer (σ ⟨b,o+i*z,ν⟩)):=by
 rw[L1 hu h Ω Ω];rfl
def nL:Option x1->Nat->Prop
 |none,l=>l=0
 |some v,l=>∃k,v= .int k l
def nM:Option x1->Nat->Nat->Prop
 |none,n,h=>h=n
 |some v,_,h=>∃k,v= .int k h
def maxOf:Option x1->Option x1->Nat->Nat->Prop
 |none,_,c,m=>m=c
 |some v,σ _,_,m=>∃k,v= .int k m
 |some _,ν,_,_=>False
theorem pB{l:Nat}:nL (σ (.int k (l:Int))) l:=⟨_,rfl⟩
theorem pC(l:Nat)(x:Int)(h:x=(l:Int)):nL (σ (.int k x)) l:=⟨k,by rw[h]⟩
theorem pD(l:Nat)(x:Int)(h:x=(l:Int)):nM (σ (.int k x)) n l:=⟨k,by rw[h]⟩
theorem ko:nL ν 0:=rfl
theorem pE:nM (σ (.int k (h:Int))) n h:=⟨_,rfl⟩
theorem kp:nM ν n n:=rfl
theorem fc{h:Option x1}:maxOf ν h c c:=by cases h<;>rfl
theorem uk(w:x4){sl:Bool}{l m:Nat}{low high mx:Option x1}(h1:nL low l)(e:nM high n h)(a:maxOf mx high c m)(f:l<=h)(aw:h<=m)(hm:m<=c):
  (Instr.sliceBounds sl n c low high mx).run P w= .ok (l,h,m) w:=by
 cases low<;>cases high<;>cases mx<;>simp only[nL,nM,maxOf]at h1 e a<;>(try exact a.elim)<;>(try obtain⟨j,rfl⟩:=h1)<;>(try obtain⟨q,rfl⟩:=e)<;>(try obtain⟨r,rfl⟩:=a)<;>(try subst h1)<;>(try subst e)<;>(try subst a) <;>
  simp[Instr.sliceBounds,Instr.sliceBound,asIntOf,f,aw,hm]
theorem gW{z a l m:Nat}{f:x1}{base:Option Addr}{low high mx:Option x1}(hu:P.underlying t=σ (.slice e))(q:aS P e z a f)(h1:nL low l)(r:nM high n h)(s:maxOf mx high c m)(x:l<=h)(aw:h<=m)(hm:m<=c):
  ad P (V5 t (.slice base n c) low high mx) w K=K (.slice (if m=l then base else base.map (·.add (l*z))) (h-l) (m-l)):=ad.of λI _=>by
 obtain⟨j,y,V,_⟩:=q;simp[V5,Instr.slice,run_underlying hu,uk I h1 r s x aw hm,sizeOf,typeInfo,y,V]
theorem ul{z a l m b o:Nat}{f:x1}{low high mx:Option x1}(hu:P.underlying t=σ (.array n e))(q:aS P e z a f)(h1:nL low l)(r:nM high n h)(s:maxOf mx high n m)(x:l<=h)(aw:h<=m)(hm:m<=n):
  ad P (V5 t (.pointer (σ ⟨b,o,ν⟩)) low high mx) w K=K (.slice (σ (if m=l then⟨b,o,ν⟩else⟨b,o+l*z,ν⟩)) (h-l) (m-l)):=ad.of λI _=>by
 obtain⟨j,y,V,_⟩:=q;simp[V5,Instr.sureAddr,run_underlying hu,uk I h1 r s x aw hm,sizeOf,typeInfo,y,V,U6]
theorem dk{parts:Array (Nat×x1)}{cs:Array x1}(h:P.built t parts.toList=σ cs):ad P (Instr.build t parts) w K=K (.agg cs):=ad.of λI _=>
 run_build I t parts cs h
end
theorem cn.part{k l m:Nat}{base:Option Addr}(V:cn w k (.slice base n c) n cs)(q:l<=h)(aw:h<=n)(hm:h<=m)(r:m<=c):
  cn w k (.slice (if m=l then base else base.map (·.add (l*k))) (h-l) (m-l)) (h-l) ((cs.drop (l*k)).take ((h-l)*k)):=by
 obtain⟨h1,b,o,s,cap,he,x,y,a,e⟩:=V;cases he;have z:h*k<=n*k:=X6 _ aw;have A:l*k+(h-l)*k=h*k:=by rw[<-T4];congr 1;omega
 refine⟨by simp[h1];omega,b,o+l*k,_,m-l,rfl,Ω,Ω,λB=>?_,λj v ac=>?_⟩
 .rw[a Ω,m1 Ω];simp[U6]
 .have f:=(x5.1 ac).1;simp at f;rw[W3 Ω,List.getElem?_drop]at ac;rw[Nat.add_assoc];exact e _ _ ac
section
variable{P:W5}{w:x4}
structure kM(g:Nat)(w I:x4):Prop where
 os:I.os=w.os
 tape:k6 w I
 output:I.output=w.output
 size:I.heap.size=w.heap.size
 bb:∀r,r≠g->I.heap[r]?=w.heap[r]?
theorem kM.refl(g:Nat)(w:x4):kM g w w:=⟨rfl,.lP,rfl,rfl,λ_ _=>rfl⟩
theorem kM.F{g:Nat}{a b c:x4}(h:kM g a b)(k:kM g b c):kM g a c:=
 ⟨k.os.F h.os,k.tape.F h.tape,k.output.F h.output,k.size.F h.size,λr e=>(k.bb r e).F (h.bb r e)⟩
theorem kM.aa{g:Nat}{w:x4}(h:kM g w I):aj (λr=>r=g) w I:=⟨Nat.le_of_eq h.size.symm,λr o a _ e=>by rw[h.bb r e];exact a⟩
theorem kM.cO{g:Nat}{w:x4}(h:kM g w I)(j:ai w g e cs):cR w I:=
 ⟨h.os,h.tape,h.output,Nat.le_of_eq h.size.symm,λr o a V=>by
  by_cases f:r=g
  .grind [ai,gf]
  .rw[h.bb r f];exact a⟩
theorem BT{g:Nat}(h:ai w g e cs)(o:Nat)(v:x1):ai (w.setCell ⟨g,o,ν⟩ v) g e (cs.set o v)/\kM g w (w.setCell ⟨g,o,ν⟩ v):=by
 unfold ai at h;refine⟨?_,rfl,.lP,rfl,by simp[x4.setCell],λr a=>?_⟩
 all_goals grind [ai,x4.setCell]
def over(cs:List x1):Nat->List x1->List x1
 |_,[]=>cs
 |o,v::r=>over (cs.set o v) (o+1) r
theorem nN:∀(vs cs:List x1)(o:Nat),(over cs o vs).length=cs.length
 |[],_,_=>rfl
 |v::r,cs,o=>by simp[over,nN r]
theorem qQ:∀(vs cs:List x1)(o:Nat),o+vs.length<=cs.length->∀j,(over cs o vs)[j]?=if o<=j/\j<o+vs.length then vs[j-o]? else cs[j]?
 :=by
 intro a;induction a<;>grind [over]
theorem oA{o:Nat}(h:o+vs.length<=cs.length):over cs o vs=cs.take o++vs++cs.drop (o+vs.length):=by
 apply Y5;intro j;rw[qQ vs cs o h];by_cases h1:j<o
 .grind
 grind
theorem pF{g:Nat}{e:r8}:∀(vs:List x1)(cs:List x1)(o:Nat)(w:x4),ai w g e cs->ai (w.setCells g o vs) g e (over cs o vs)/\kM g w (w.setCells g o vs)
 |[],cs,o,w,h=>⟨h,kM.refl _ _⟩
 |v::r,cs,o,w,h=>by
  obtain⟨h1,a⟩:=BT h o v;obtain⟨f,j⟩:=pF r (cs.set o v) (o+1) _ h1;exact⟨f,a.F j⟩
theorem um(w:x4)(c:List x1)(e:r8):ai (w.alloc (.cells c.toArray e)) w.heap.size e c/\Ext w (w.alloc (.cells c.toArray e))/\cR w (w.alloc (.cells c.toArray e)):=
 ⟨heap_alloc_new w _,rH w _,rI w _⟩
theorem bC{k a:Nat}{K:x1->x4->Prop}(hi:aS P t k a z)(h:∀g I,g=w.heap.size->Ext w I->ai I g t z.cells.toList->K (Γ g) I):aM P (R4 t ms (.tuple #[])) w K:=by
 obtain⟨i,hi,_,_,e⟩:=hi;obtain⟨h1,f,j⟩:=um w z.cells.toList t;refine .of ?_ j (h _ _ rfl f h1);simp[R4,zeroValue,typeInfo,hi,e,newVar,newRow]
theorem bo{K:x1->x4->Prop}(h:∀g I,g=w.heap.size->Ext w I->ai I g t v.cells.toList->K (Γ g) I):aM P (Instr.box t v) w K:=by
 obtain⟨h1,a,e⟩:=um w v.cells.toList t;refine .of ?_ e (h _ _ rfl a h1);simp[Instr.box,newVar,newRow]
def ef(z:Array x1)(n:Nat):List x1:=((Array.range n).map (z[·% z.size]!)).toList
theorem qR(z:Array x1)(n:Nat):(ef z n).length=n:=by simp[ef]
theorem lX{k q:Nat}{parts:Array (Nat×x1)}{cs:Array x1}{K:x1->x4->Prop}(f:P.underlying t=σ (.slice e))(hi:aS P e k q z)(A:n*k<=2 ^ 24)(ah:Instr.fill (λj=>σ (j*k,k)) ((Array.range (n*k)).map ((if n*k=0 then#[]else z.cells)[·% (if n*k=0 then#[]else z.cells).size]!)) parts.toList=σ cs)(h:∀g I,g=w.heap.size->Ext w I->ai I g e cs.toList->K (.slice (σ ⟨g,0,ν⟩) n n) I):aM P (Y3 t n parts) w K:=by
 obtain⟨i,hi,rfl,_,r⟩:=hi;obtain⟨h1,s,x⟩:=um w cs.toList e;refine .of ?_ x (h _ _ rfl s h1);have y:¬(16777216<n*i.size):=Ω
 by_cases a:n*i.size=0
 .simp only[a,if_true]at ah;simp[Y3,run_underlying f,sizeOf,typeInfo,hi,a,newRow];simp at ah;simp[ah]
 .simp only[a,if_false]at ah;simp[Y3,run_underlying f,sizeOf,typeInfo,hi,y,a,newRow,zeroValue,r,ah]
theorem bs{g o:Nat}{K:Unit->x4->Prop}(hi:aS P t 1 j z)(h1:v.cells= #[v])(ac:v.oneCell'=ms)(a:ai w g e cs)(aE:o<cs.length)(h:∀I,aj (λr=>r=g) w I->I.heap.size=w.heap.size->ai I g e (cs.set o v)->K () I):aM P (o7 t (.pointer (σ ⟨g,o,ν⟩)) v) w K:=by
 obtain⟨i,hi,V,_⟩:=hi;obtain⟨q,f⟩:=BT a o v;refine .of ?_ (f.cO a) (h _ f.aa f.size q);have s:=a.cell (x8 aE);have x:(⟨g,o,ν⟩:Addr).add 0=⟨g,o,ν⟩:=rfl;simp[o7,Instr.sureAddr,storeVar,sizeOf,typeInfo,hi,V,h1,storeCells,x,run_store P w _ v _ ac,s,a.frozen]
theorem BU{k q g o:Nat}{K:Unit->x4->Prop}(hi:aS P t k q z)(x:vs.length=k)(ac:∀v∈vs,v.oneCell'=ms)(a:ai w g e cs)(aE:o+vs.length<=cs.length)(h:∀I,aj (λr=>r=g) w I->I.heap.size=w.heap.size->ai I g e (over cs o vs)->K () I):aM P (o7 t (.pointer (σ ⟨g,o,ν⟩)) (.agg vs.toArray)) w K:=by
 obtain⟨s,f⟩:=pF vs cs o w a;refine .of ?_ (f.cO a) (h _ f.aa f.size s);exact run_storeAt_mid w g o t vs.toArray (λj y=>⟨by rw[a.cell (x8 (by grind))];rfl,a.frozen _ _⟩) (by grind [aS.size]) (by grind)
def b7(w:x4)(g:Nat)(e:r8)(k:Nat)(v:x1)(n:Nat)(xs:List x1):Prop:=
 xs.length=n*k/\((v= .slice ν 0 0/\n=0)\/∃cap cs,v= .slice (σ ⟨g,0,ν⟩) n cap/\ai w g e cs/\n<=cap/\cap<=maxLen/\cs.length=cap*k/\cs.take (n*k)=xs)
theorem b7.nil(w:x4)(g:Nat)(e:r8)(k:Nat):b7 w g e k (.slice ν 0 0) 0 []:=⟨Ξ,.inl ⟨rfl,rfl⟩⟩
theorem b7.full{g:Nat}{k:Nat}(h:ai w g e cs)(a:cs.length=n*k)(f:n<=maxLen):b7 w g e k (.slice (σ ⟨g,0,ν⟩) n n) n cs:=
 ⟨a,.inr ⟨n,cs,rfl,h,p9 _,f,a,by rw[<-a,o6]⟩⟩
theorem b7.aa{g:Nat}{k:Nat}(h:b7 w g e k v n xs)(J:aj S w I)(f:g<w.heap.size->¬S g):b7 I g e k v n xs:=
 ⟨h.1,h.2.imp id λ⟨cap,cs,h1,a,j⟩=>⟨cap,cs,h1,a.aa J (f a.lt),j⟩⟩
theorem b7.W{g:Nat}{k:Nat}(h:b7 w g e k v n xs)(J:Ext w I):b7 I g e k v n xs:=h.aa (J.aa λ_=>False) (λ_ h=>h)
theorem b7.sl{g:Nat}{k:Nat}(h:b7 w g e k v n xs):cn w k v n xs:=by
 obtain⟨h1,⟨rfl,rfl⟩|⟨cap,cs,rfl,a,f,q,s,r⟩⟩:=h
 .grind [cn.nil]
 .refine⟨h1,g,0,_,cap,rfl,f,q,λ_=>rfl,λj v ac=>?_⟩;rw[V7];have x:=(x5.1 ac).1;rw[<-r,W3 Ω]at ac;exact a.cell ac
theorem cn.src{k:Nat}{x:x1}{m:Nat}{a:List x1}{h:r8}(V:cn w k x m a)(hk:P.underlying f=σ (.slice h))(h1:∀u∈a,u.oneCell'=ms)(q:0<m):Src P k f x m a w:=by
 obtain⟨r,b,o,base,cap,rfl,_,_,e,s⟩:=V;have e:=e q;subst e;exact Src.ofSlice w hk ⟨b,o,ν⟩ m cap a r (λj u hu=>by rw[U6];exact s j u hu) h1
theorem cn.L2{k:Nat}{x:x1}{e:List x1}{a:r8}(V:cn w k x 0 e)(hk:P.underlying a=σ (.slice f)):Src P k a x 0 [] w:=by
 obtain⟨h,b,o,base,cap,rfl,_,_,j,q⟩:=V;cases base<;>grind [Src.ofNil,Src.ofSlice]
theorem BV{s L X:r8}{k M g m:Nat}{x:x1}{a:List x1}{K:x1->x4->Prop}(N:P.underlying t=σ (.slice e))(B:P.underlying f=σ (.slice X))(hi:aS P e k M z)(Y:z.cells.size=k)(O:b7 w g L k v n xs)(V:cn w k x m a)(h1:∀u∈a,u.oneCell'=ms)(Z:(n+m)*M<=140737488355328)(ab:n+m<=maxLen)(h:∀C E I F,(E=g/\F=L/\(v=C\/g<w.heap.size/\v≠ .slice ν 0 0)\/E=w.heap.size/\F=e)->b7 I E F k C (n+m) (xs++a)->aj (λr=>r=g/\v≠ .slice ν 0 0) w I->K C I):
  aM P (c9 #[t,f] s #[v,x]) w K:=by
 obtain⟨i,hi,rfl,rfl,ac⟩:=hi;have ad:=O.sl;obtain⟨A,G⟩:=O;have H:=V.1;have grow:∀(base:Option Addr)(cap:Nat),v= .slice base n cap->cap<n+m->0<m->(Z0.firstCells i.size n (.slice base n cap)).run P w.drew= .ok xs.toArray w.drew->aM P (c9 #[t,f] s #[v,x]) w K:=by
  rintro base cap rfl Q hm ae;have q:=run_append_grow_src w t f s e i z N hi ac base n cap xs ae x m a (V.src B h1 hm) Q (by grind [maxLen]) (growslice_fits Q Z);have af:n+m<=grownCap w (n+m) cap e:=grownCap_ge w _ _ _;have R:=grownCap_le_maxLen w (n+m) cap e ab;have ag:Ext w (w.drew.alloc (.cells ((xs++a).toArray++Z0.zeroCells z.cells (grownCap w (n+m) cap e-(n+m))) e)):=(tB w _).F (rH _ _);refine .of q ((rG w _ (Nat.le_succ _)).F (rI _ _)) (h _ w.heap.size _ _ (.inr ⟨rfl,rfl⟩) ⟨by grind,.inr ⟨_,((xs++a).toArray++Z0.zeroCells z.cells (grownCap w (n+m) cap e-(n+m))).toList,rfl,?_,af,R,?_,?_⟩⟩ (ag.aa _))
  .show _=_;rw[Array.toArray_toList];exact heap_alloc_new w.drew _
  .simp[A,H,size_zeroCells,Y,<-T4]
   grind
  grind [T4]
 rcases Nat.eq_zero_or_pos m with rfl|hm
 .have ah:=j6 (by simpa using H);subst ah;have ao:=V.L2 B;have S:∀base cap,v= .slice base n cap->n<=cap->aM P (c9 #[t,f] s #[v,x]) w K:=by
   rintro base cap rfl R;refine .of (by grind [run_append_nothing]) (cR.refl _) (h _ g _ _ (.inl ⟨rfl,rfl,.inl rfl⟩) ?_ (aj.refl _ _));rw[Nat.add_zero,V2];exact⟨A,G⟩
  obtain⟨rfl,rfl⟩|⟨cap,cs,rfl,_,T,_⟩:=G
  .exact S _ _ rfl (p9 _)
  .exact S _ _ rfl T
 .obtain⟨rfl,rfl⟩|⟨cap,cs,rfl,y,T,ai,U,ap⟩:=G
  .have ak:=j6 (by simpa using A);subst ak;exact grow ν 0 rfl Ω hm (by grind [run_firstCells_none])
  .by_cases J:n+m<=cap
   .have aq:n*i.size+a.length<=cs.length:=by rw[H,U,<-T4];exact X6 _ J
    have q:=run_append_room_src w t f s e i N hi g 0 n cap x m a (V.src B h1 hm) J
     (λj au=>by rw[y.cell (x8 Ω)];rfl) (λj _=>y.frozen _ _)
    obtain⟨al,W⟩:=pF a cs (n*i.size) w y;rw[V7]at q;refine .of q (W.cO y) (h _ g _ _ (.inl ⟨rfl,rfl,.inr ⟨y.lt,Ξ⟩⟩) ⟨by grind,.inr ⟨cap,_,rfl,al,J,ai,by rw[nN,U],?_⟩⟩ (W.aa.Y (by grind)))
    grind [oA,T4]
   .refine grow _ cap rfl Ω hm (run_firstCells_some w.drew i.size n _ n cap xs A λj u hu=>?_);rw[U6];obtain⟨_,b,o,base,av,he,_,_,am,q⟩:=ad;cases he;have an:0<n:=by
     grind
    have:=am an;cases this;simpa using q j u hu
theorem pG{q y A:r8}{k s g m:Nat}{x:x1}{j:List x1}{K:x1->x4->Prop}(B:P.underlying t=σ (.slice e))(C:P.underlying q=σ (.slice A))(hi:aS P e k s z)(E:z.cells.size=k)(F:b7 w g e k v n xs)(V:cn w k x m j)(h1:∀u∈j,u.oneCell'=ms)(G:(n+m)*s<=140737488355328)(H:n+m<=maxLen)(h:∀f a I,(a=g\/w.heap.size<=a)->b7 I a e k f (n+m) (xs++j)->aj (λr=>r=g) w I->K f I):
  aM P (c9 #[t,q] y #[v,x]) w K:=
 BV B C hi E F V h1 G H λf a I L M hm J=>by
  refine h f a I Ω ?_ (J.Y λr _ h=>h.1)
  grind
theorem BW{s y:r8}{L g o jA A:Nat}{x:x1}{base:Option Addr}{C:r8}{K:x1->x4->Prop}(E:P.underlying f=σ (.slice e))(hi:aS P e 1 L z)(a:ai w g C cs)(M:0<jA->base=σ ⟨g,o,ν⟩)(X:o+jA<=cs.length)(V:cn w 1 x n xs)(h1:∀u∈xs,u.oneCell'=ms)(h:∀I,aj (λr=>r=g) w I->I.heap.size=w.heap.size->ai I g C (over cs o (xs.take jA))->K (Δ (min n jA:Nat)) I):
  aM P (Z0.copy_ #[f,s] y #[.slice base jA A,x]) w K:=by
 obtain⟨F,b,o',N,cap,rfl,_,_,O,Q⟩:=V;simp only[T1]at F;have G:(P.info? e).map (·.size)=σ 1:=hi.size;by_cases q:Nat.min n jA=0
 .have he:=j6 (by rw[j9,F];rw[Nat.min_comm];exact q);rw[he]at h;refine .of (run_copy_none w f s y e base N jA A n cap E G q) (cR.refl _) ?_;have H:min n jA=0:=q;rw[H]at h;exact h w (aj.refl _ _) rfl a
 .have H:min n jA≠0:=q;have R:=O Ω;have S:=M Ω;subst R;subst S;have J:(xs.take jA).length=min n jA:=by grind
  obtain⟨T,B⟩:=pF (xs.take jA) cs o w a;have U:=run_copy_cells w f s y e g o jA A ⟨b,o',ν⟩ n cap (xs.take jA) E G J
   (λj u hu=>by
    rw[U6];have W:=(x5.1 hu).1;rw[W3 Ω]at hu;exact Q j u hu)
   (λj W=>by rw[a.cell (x8 Ω)];rfl) (λj _=>a.frozen _ _) (by grind)
  refine .of U (B.cO a) ?_;rw[J];exact h _ B.aa B.size T
theorem aq.Y{f:S9}{K e:x1->x4->Prop}(h:aq P f args w K)(j:∀v I,cR w I->K v I->e v I):aq P f args w e:=by
 cases h with
 |code h1 a=>exact .code h1 (a.Y (by grind))
 |ext v I h1 a q=>exact .ext v I h1 a (by grind)
theorem io.Y{f:S9}{K a:x1->x4->Prop}(h:io P f args w K)(e:∀v I,K v I->a v I):io P f args w a:=by
 cases h with
 |code h1 j=>exact .code h1 (j.Y (by grind))
 |ext v I h1 q=>exact .ext v I h1 (e v I q)
end
end Go.Vc
namespace Go.Proofs.YtlcdcbgoaljiiaaGreatDoor
open Go Go.Vc Go.RowKit Go.Proofs Go.Proofs.Tryz
set_option maxRecDepth 100000
theorem ax.u:x7.underlying ax=σ (.int .i64):=Ψ
theorem ax.i:aS x7 ax 1 8 (Δ 0):=aS.of Ψ
theorem al.u:x7.underlying al=σ (.int .i64):=Ψ
theorem al.i:aS x7 al 1 8 (Δ 0):=aS.of Ψ
theorem eE.i:aS x7 eE 1 1 (.bool ne):=aS.of Ψ
theorem cS.u:x7.underlying cS=σ (.int .u8):=Ψ
theorem cS.i:aS x7 cS 1 1 (.int .u8 0):=aS.of Ψ
theorem de.u:x7.underlying de=σ .string:=Ψ
theorem de.i:aS x7 de 1 16 (.string ⟨#[]⟩):=aS.of Ψ
theorem cU.u:x7.underlying cU=σ (.slice cS):=Ψ
theorem py.u:x7.underlying py=σ (.slice dg):=Ψ
theorem dx.u:x7.underlying dx=σ (.pointer ch):=Ψ
theorem av.u:x7.underlying av=σ (.slice al):=Ψ
theorem av.i:aS x7 av 1 24 (.slice ν 0 0):=aS.of Ψ
theorem df.u:x7.underlying df=σ (.slice av):=Ψ
theorem df.i:aS x7 df 1 24 (.slice ν 0 0):=aS.of Ψ
theorem lb.u:x7.underlying lb=σ (.slice eE):=Ψ
theorem lb.i:aS x7 lb 1 24 (.slice ν 0 0):=aS.of Ψ
theorem et.u:x7.underlying et=σ (.slice aC):=Ψ
theorem et.i:aS x7 et 1 24 (.slice ν 0 0):=aS.of Ψ
theorem fa.u:x7.underlying fa=σ (.slice dI):=Ψ
theorem fa.i:aS x7 fa 1 24 (.slice ν 0 0):=aS.of Ψ
theorem a8.p:bJ x7 a8 [(0,1),(1,1),(2,1),(3,1),(4,1),(5,1),(6,1),(7,1)]:=bJ.of Ψ
theorem a8.i:aS x7 a8 8 160 (.agg #[(Δ 0),(.slice ν 0 0),(Δ 0),(.slice ν 0 0),(.slice ν 0 0),(.slice ν 0 0),(.slice ν 0 0),(.slice ν 0 0)]):=aS.of Ψ
theorem ld.i:aS x7 ld 1 8 (Δ 0):=aS.of Ψ
theorem ox.u:x7.underlying ox=σ (.slice gS):=Ψ
theorem ox.i:aS x7 ox 1 24 (.slice ν 0 0):=aS.of Ψ
theorem aC.u:x7.underlying aC=σ (.slice ax):=Ψ
theorem aC.i:aS x7 aC 1 24 (.slice ν 0 0):=aS.of Ψ
theorem fL.u:x7.underlying fL=σ (.int .u64):=Ψ
theorem fL.i:aS x7 fL 1 8 (.int .u64 0):=aS.of Ψ
theorem b9.p:bJ x7 b9 [(0,1),(1,1)]:=bJ.of Ψ
theorem b9.i:aS x7 b9 2 16 (.agg #[(.int .u64 0),(Δ 0)]):=aS.of Ψ
theorem dg.p:bJ x7 dg [(0,1),(1,1),(2,1),(3,1),(4,1)]:=bJ.of Ψ
theorem dg.i:aS x7 dg 5 40 (.agg #[(.int .u8 0),(Δ 0),(Δ 0),(Δ 0),(Δ 0)]):=aS.of Ψ
theorem be.p:bJ x7 be [(0,1),(1,1),(2,1)]:=bJ.of Ψ
theorem be.i:aS x7 be 3 72 (.agg #[(.slice ν 0 0),(.slice ν 0 0),(.slice ν 0 0)]):=aS.of Ψ
theorem dI.p:bJ x7 dI [(0,3),(3,1)]:=bJ.of Ψ
theorem dI.i:aS x7 dI 4 80 (.agg #[(.slice ν 0 0),(.slice ν 0 0),(.slice ν 0 0),(.bool ne)]):=aS.of Ψ
theorem oy.u:x7.underlying oy=σ (.pointer gx):=Ψ
theorem mF.u:x7.underlying mF=σ (.pointer dh):=Ψ
theorem fm.u:x7.underlying fm=σ (.slice ec):=Ψ
theorem fm.i:aS x7 fm 1 24 (.slice ν 0 0):=aS.of Ψ
theorem ch.p:bJ x7 ch [(0,1),(1,1),(2,1),(3,1),(4,1)]:=bJ.of Ψ
theorem gS.p:bJ x7 gS [(0,1),(1,1),(2,1)]:=bJ.of Ψ
theorem gS.i:aS x7 gS 3 56 (.agg #[(Δ 0),(.slice ν 0 0),(.slice ν 0 0)]):=aS.of Ψ
theorem qK.i:aS x7 qK 1 8 .nilFunc:=aS.of Ψ
theorem bL.p:bJ x7 bL [(0,1)]:=bJ.of Ψ
theorem bL.i:aS x7 bL 1 24 (.agg #[(.slice ν 0 0)]):=aS.of Ψ
theorem ec.p:bJ x7 ec [(0,1),(1,1),(2,1)]:=bJ.of Ψ
theorem ec.i:aS x7 ec 3 56 (.agg #[(.slice ν 0 0),(.slice ν 0 0),(Δ 0)]):=aS.of Ψ
theorem xi.u:x7.underlying xi=σ (.pointer cL):=Ψ
theorem xj.u:x7.underlying xj=σ (.pointer ev):=Ψ
theorem c0.u:x7.underlying c0=σ (.slice be):=Ψ
theorem c0.i:aS x7 c0 1 24 (.slice ν 0 0):=aS.of Ψ
theorem ed.p:bJ x7 ed [(0,1),(1,1),(2,1),(3,1),(4,1)]:=bJ.of Ψ
theorem ed.i:aS x7 ed 5 88 (.agg #[(Δ 0),(.slice ν 0 0),(Δ 0),(.slice ν 0 0),(.slice ν 0 0)]):=aS.of Ψ
theorem eu.p:bJ x7 eu [(0,1),(1,1)]:=bJ.of Ψ
theorem eu.i:aS x7 eu 2 16 (.agg #[(Δ 0),(.int .u64 0)]):=aS.of Ψ
theorem ir.u:x7.underlying ir=σ (.slice eu):=Ψ
theorem ir.i:aS x7 ir 1 24 (.slice ν 0 0):=aS.of Ψ
theorem jb.u:x7.underlying jb=σ (.slice gT):=Ψ
theorem jb.i:aS x7 jb 1 24 (.slice ν 0 0):=aS.of Ψ
theorem kj.u:x7.underlying kj=σ (.slice ee):=Ψ
theorem kj.i:aS x7 kj 1 24 (.slice ν 0 0):=aS.of Ψ
theorem dh.p:bJ x7 dh [(0,1),(1,1),(2,1),(3,1)]:=bJ.of Ψ
theorem ee.p:bJ x7 ee [(0,1),(1,1),(2,1)]:=bJ.of Ψ
theorem ee.i:aS x7 ee 3 24 (.agg #[(Δ 0),(Δ 0),(.int .u64 0)]):=aS.of Ψ
theorem rZ.u:x7.underlying rZ=σ (.pointer dq):=Ψ
theorem lW.p:bJ x7 lW [(0,1),(1,1),(2,1)]:=bJ.of Ψ
theorem lW.i:aS x7 lW 3 24 (.agg #[(.pointer ν),(Δ 0),(Δ 0)]):=aS.of Ψ
theorem mG.u:x7.underlying mG=σ (.map al ax):=Ψ
theorem mG.i:aS x7 mG 1 8 (.map ν):=aS.of Ψ
theorem gT.p:bJ x7 gT [(0,1),(1,2)]:=bJ.of Ψ
theorem gT.i:aS x7 gT 3 24 (.agg #[(Δ 0),(Δ 0),(.int .u64 0)]):=aS.of Ψ
theorem ui.u:x7.underlying ui=σ (.pointer jz):=Ψ
theorem fo.p:bJ x7 fo [(0,1),(1,1),(2,1),(3,1)]:=bJ.of Ψ
theorem jc.u:x7.underlying jc=σ (.slice lf):=Ψ
theorem jc.i:aS x7 jc 1 24 (.slice ν 0 0):=aS.of Ψ
theorem cH.p:bJ x7 cH [(0,1),(1,4),(5,1),(6,1)]:=bJ.of Ψ
theorem kL.u:x7.underlying kL=σ (.slice cq):=Ψ
theorem kk.u:x7.underlying kk=σ (.slice eF):=Ψ
theorem kk.i:aS x7 kk 1 24 (.slice ν 0 0):=aS.of Ψ
theorem cq.p:bJ x7 cq [(0,1),(1,1),(2,1),(3,1)]:=bJ.of Ψ
theorem cq.i:aS x7 cq 4 80 (.agg #[(.slice ν 0 0),(.slice ν 0 0),(Δ 0),(.slice ν 0 0)]):=aS.of Ψ
theorem dW.u:x7.underlying dW=σ (.slice cP):=Ψ
theorem dW.i:aS x7 dW 1 24 (.slice ν 0 0):=aS.of Ψ
theorem cL.p:bJ x7 cL [(0,1),(1,1),(2,1),(3,1)]:=bJ.of Ψ
theorem fb.u:x7.underlying fb=σ (.pointer gi):=Ψ
theorem fb.i:aS x7 fb 1 8 (.pointer ν):=aS.of Ψ
theorem cP.p:bJ x7 cP [(0,1),(1,1)]:=bJ.of Ψ
theorem cP.i:aS x7 cP 2 32 (.agg #[(.slice ν 0 0),(.pointer ν)]):=aS.of Ψ
theorem fM.u:x7.underlying fM=σ (.slice cD):=Ψ
theorem fM.i:aS x7 fM 1 24 (.slice ν 0 0):=aS.of Ψ
theorem dL.u:x7.underlying dL=σ (.slice bj):=Ψ
theorem dL.i:aS x7 dL 1 24 (.slice ν 0 0):=aS.of Ψ
theorem bO.p:bJ x7 bO [(0,1),(1,1),(2,1),(3,1),(4,1),(5,1),(6,1),(7,1),(8,1)]:=bJ.of Ψ
theorem ev.p:bJ x7 ev [(0,1),(1,1),(2,1),(3,1)]:=bJ.of Ψ
theorem cD.p:bJ x7 cD [(0,1),(1,1)]:=bJ.of Ψ
theorem cD.i:aS x7 cD 2 24 (.agg #[(.string ⟨#[]⟩),(Δ 0)]):=aS.of Ψ
theorem ew.u:x7.underlying ew=σ (.slice cr):=Ψ
theorem ew.i:aS x7 ew 1 24 (.slice ν 0 0):=aS.of Ψ
theorem bj.p:bJ x7 bj [(0,1),(1,1),(2,1),(3,1)]:=bJ.of Ψ
theorem bj.i:aS x7 bj 4 80 (.agg #[(.slice ν 0 0),(.slice ν 0 0),(Δ 0),(.slice ν 0 0)]):=aS.of Ψ
theorem mH.u:x7.underlying mH=σ (.slice jd):=Ψ
theorem mH.i:aS x7 mH 1 24 (.slice ν 0 0):=aS.of Ψ
theorem gx.p:bJ x7 gx [(0,1),(1,1),(2,1),(3,1)]:=bJ.of Ψ
theorem fp.u:x7.underlying fp=σ (.pointer c4):=Ψ
theorem fp.i:aS x7 fp 1 8 (.pointer ν):=aS.of Ψ
theorem jd.p:bJ x7 jd [(0,1),(1,1)]:=bJ.of Ψ
theorem jd.i:aS x7 jd 2 32 (.agg #[(.slice ν 0 0),(.pointer ν)]):=aS.of Ψ
theorem qL.u:x7.underlying qL=σ (.int .u64):=Ψ
theorem r0.p:bJ x7 r0 [(0,1),(1,1)]:=bJ.of Ψ
theorem jz.p:bJ x7 jz [(0,1),(1,1),(2,1)]:=bJ.of Ψ
theorem lf.p:bJ x7 lf [(0,1),(1,1)]:=bJ.of Ψ
theorem lf.i:aS x7 lf 2 48 (.agg #[(.slice ν 0 0),(.slice ν 0 0)]):=aS.of Ψ
theorem eF.p:bJ x7 eF [(0,1),(1,1)]:=bJ.of Ψ
theorem eF.i:aS x7 eF 2 32 (.agg #[(.slice ν 0 0),(Δ 0)]):=aS.of Ψ
theorem cr.p:bJ x7 cr [(0,1),(1,1)]:=bJ.of Ψ
theorem cr.i:aS x7 cr 2 32 (.agg #[(.slice ν 0 0),(Δ 0)]):=aS.of Ψ
theorem gU.u:x7.underlying gU=σ (.slice c3):=Ψ
theorem c3.p:bJ x7 c3 [(0,1),(1,1)]:=bJ.of Ψ
theorem c3.i:aS x7 c3 2 32 (.agg #[(.slice ν 0 0),(.pointer ν)]):=aS.of Ψ
theorem kl.u:x7.underlying kl=σ (.map cM ax):=Ψ
theorem gi.p:bJ x7 gi [(0,1),(1,1),(2,1),(3,1)]:=bJ.of Ψ
theorem qM.u:x7.underlying qM=σ (.slice gV):=Ψ
theorem gV.p:bJ x7 gV [(0,1),(1,1)]:=bJ.of Ψ
theorem gV.i:aS x7 gV 2 32 (.agg #[(.slice ν 0 0),(Δ 0)]):=aS.of Ψ
theorem c4.p:bJ x7 c4 [(0,1),(1,1),(2,1)]:=bJ.of Ψ
theorem xk.u:x7.underlying xk=σ (.array 64 cS):=Ψ
theorem eQ.u:x7.underlying eQ=σ (.slice cI):=Ψ
theorem eQ.i:aS x7 eQ 1 24 (.slice ν 0 0):=aS.of Ψ
theorem dq.p:bJ x7 dq [(0,1),(1,1)]:=bJ.of Ψ
theorem cI.p:bJ x7 cI [(0,1),(1,1)]:=bJ.of Ψ
theorem cI.i:aS x7 cI 2 16 (.agg #[(Δ 0),(Δ 0)]):=aS.of Ψ
theorem iL.u:x7.underlying iL=σ (.map de al):=Ψ
theorem gA.u:x7.underlying gA=σ (.int .i8):=Ψ
theorem gA.i:aS x7 gA 1 1 (.int .i8 0):=aS.of Ψ
theorem cM.u:x7.underlying cM=σ (.array 6 gA):=Ψ
theorem cM.i:aS x7 cM 6 6 (.agg #[(.int .i8 0),(.int .i8 0),(.int .i8 0),(.int .i8 0),(.int .i8 0),(.int .i8 0)]):=aS.of Ψ
theorem mI.u:x7.underlying mI=σ (.slice gA):=Ψ
theorem lg.u:x7.underlying lg=σ (.slice cM):=Ψ
theorem lg.i:aS x7 lg 1 24 (.slice ν 0 0):=aS.of Ψ
theorem qN.u:x7.underlying qN=σ (.int .u32):=Ψ
theorem nH.u:x7.underlying nH=σ (.map ax al):=Ψ
theorem oz.u:x7.underlying oz=σ (.array 24 cS):=Ψ
theorem oz.i:aS x7 oz 24 24 (.agg #[(.int .u8 0),(.int .u8 0),(.int .u8 0),(.int .u8 0),(.int .u8 0),(.int .u8 0),(.int .u8 0),(.int .u8 0),(.int .u8 0),(.int .u8 0),(.int .u8 0),(.int .u8 0),(.int .u8 0),(.int .u8 0),(.int .u8 0),(.int .u8 0),(.int .u8 0),(.int .u8 0),(.int .u8 0),(.int .u8 0),(.int .u8 0),(.int .u8 0),(.int .u8 0),(.int .u8 0)]):=aS.of Ψ
theorem xl.u:x7.underlying xl=σ (.array 20 fL):=Ψ
end Go.Proofs.YtlcdcbgoaljiiaaGreatDoor
namespace Go.Vc
open Go Go.RowKit
def bY:x1->Int
 | .int _ i=>i
 |_=>0
theorem hx{x:Int}(h1: -9223372036854775808<=x)(a:x<9223372036854775808):X3.wrap x=x:=by
 grind [o5.wrap,o5.bits,o5.signed]
theorem wrap_u8{x:Int}(h1:0<=x)(a:x<256):o5.u8.wrap x=x:=by
 grind [o5.wrap,o5.bits,o5.signed]
theorem L3{x:Int}(h1: -128<=x)(a:x<128):o5.i8.wrap x=x:=by
 grind [o5.wrap,o5.bits,o5.signed]
theorem lc{x:Int}(h1:0<=x)(a:x<18446744073709551616):U5.wrap x=x:=by
 grind [o5.wrap,o5.bits,o5.signed]
abbrev ints(k:o5)(l:Λ):List x1:=l.map (V6 k)
theorem r2(k:o5)(l:Λ):∀u∈ints k l,u.oneCell'=ms:=by
 intro u hu;obtain⟨x,_,rfl⟩:=o9.1 hu;rfl
theorem mJ{i:Nat}{x:Int}(h:l[i]?=σ x):(ints k l)[i]?=σ (.int k x):=by simp[ints,h]
theorem xp{α:Type}{a b:List α}{i:Nat}{x y:α}(h:a.take i=b.take i)(e:a[i]?=σ x)(f:b[i]?=σ y)(j:x=y):a.take (i+1)=b.take (i+1):=by
 grind [u7]
theorem cZ{aA:x4->Prop}{B:(x4->Prop)->Prop}(G:x4->Prop)(h1:∀w,G w->aA w)(e:∀a:x4->Prop,(∀w,G w->a w)->B a):cC aA B:=e aA h1
theorem a1{aA:x1->x4->Prop}{B:(x1->x4->Prop)->Prop}(G:x1->x4->Prop)(h1:∀v w,G v w->aA v w)(e:∀a:x1->x4->Prop,(∀v w,G v w->a v w)->B a):cC aA B:=e aA h1
theorem jw{aA:x1->x1->x4->Prop}{B:(x1->x1->x4->Prop)->Prop}(G:x1->x1->x4->Prop)(h1:∀u v w,G u v w->aA u v w)(e:∀a:x1->x1->x4->Prop,(∀u v w,G u v w->a u v w)->B a):cC aA B:=e aA h1
theorem aq.calls{P:W5}{f:S9}{K:x1->x4->Prop}(h:aq P f args w K)(a:Enters P f):Calls P f args.toArray w λe I=>∃v,e= .returned v/\cR w I/\K v I:=by
 cases h with
 |code _ h=>exact h
 |ext v I h1=>rw[a]at h1;cases h1
theorem L4(J:Ext w I)(a:cR w I):Below w.heap.size w I:=
 ⟨a.os,a.tape.1,a.output,J.size,λk hk=>by
  have aE:=Array.getElem?_eq_getElem hk;rw[aE];cases V:gf w.heap[k]with
  |true=>exact J.bb k _ aE V
  |false=>exact a.bb k _ aE V⟩
theorem xq{x:Addr}(h:w.cell? x=σ v):x=⟨x.block,x.off,ν⟩:=by
 obtain⟨b,o,s⟩:=x;cases s<;>grind [x4.cell?]
theorem L5{a:Option Addr}{len cap:Nat}{e:Λ}(h:(a=ν/\len=0/\cap=0/\e=[])\/
   ∃x,a=σ x/\len<=cap/\cap<=maxLen/\e.length=cap/\(∀i,i<e.length->w.cell? (x.add i)=σ (.int k (e.getD i 0)))/\∀n∈e,(Lit.int k n).wf=ms):
  cn w 1 (.slice a len cap) len (ints k (e.take len))/\∀n∈e.take len,k.min<=n/\n<=k.max:=by
 rcases h with⟨rfl,rfl,rfl,rfl⟩|⟨x,rfl,h1,q,s,f,y⟩
 .grind [cn.nil]
 .refine⟨⟨by grind,x.block,x.off,σ x,cap,rfl,h1,q,λz=>?_,λj v ac=>?_⟩,λn A=>?_⟩
  .have:=f 0 Ω;exact congrArg σ (xq this)
  .have r:=(x5.1 ac).1;rw[u9,j9]at r;have J:x=⟨x.block,x.off,ν⟩:=xq (v:=.int k (e.getD 0 0)) (f 0 Ω)
   grind [U6]
  grind [Lit.wf]
def aQ(k:o5)(w:x4)(v:x1)(l:Λ):Prop:=cn w 1 v l.length (ints k l)
def aH(k:o5)(e:r8)(w:x4)(g:Nat)(v:x1)(l:Λ):Prop:=b7 w g e 1 v l.length (ints k l)
theorem aQ.W(h:aQ k w v l)(J:Ext w I):aQ k I v l:=cn.W h J
theorem aH.W{g:Nat}(h:aH k e w g v l)(J:Ext w I):aH k e I g v l:=b7.W h J
theorem aH.aa{g:Nat}(h:aH k e w g v l)(J:aj S w I)(a:g<w.heap.size->¬S g):aH k e I g v l:=b7.aa h J a
theorem aH.ls{g:Nat}(h:aH k e w g v l):aQ k w v l:=b7.sl h
theorem aQ.of(h:cn w 1 v n (ints k l)):aQ k w v l:=by
 have:l.length=n:=by simpa using h.1
 unfold aQ;rw[this];exact h
theorem aH.of{g:Nat}(h:b7 w g e 1 v n (ints k l)):aH k e w g v l:=by
 have:l.length=n:=by simpa using h.1
 unfold aH;rw[this];exact h
theorem aQ.le(h:aQ k w v l):l.length<=9223372036854775807:=by
 have:=cn.le h;simpa[maxLen]using this
theorem aQ.cells(h:aQ k w v l):v.cells= #[v]/\v.oneCell'=ms:=by
 obtain⟨_,_,_,_,_,rfl,_⟩:=h;exact⟨rfl,rfl⟩
theorem aH.nil(k:o5)(e:r8)(w:x4)(g:Nat):aH k e w g (.slice ν 0 0) []:=b7.nil w g e 1
section
variable{P:W5}{w:x4}
theorem a7{a:r8}(f:P.underlying t=σ (.slice e))(h:aQ k w v l):
  ad P (W7 #[t] a #[v]) w K=K (Δ l.length):=by
 obtain⟨_,_,_,_,_,rfl,_⟩:=h;exact je f
theorem bm{a:o5}{b:Nat}{i:Nat}{x:Int}(f:P.underlying t=σ (.slice e))(hi:aS P e 1 b z)(h1:lj P e=ms)(h:aQ k w v l)(J:l[i]?=σ x):ad P (n9 t v (.int a (i:Int))) w (λp=>ad P (u4 e p) w K)=K (.int k x):=by
 have j:=(x5.1 J).1;obtain⟨_,_,_,_,_,rfl,_,_,q,r⟩:=h;rw[fq f hi j q,T1,aD h1 (r i _ (mJ J))]
theorem fO{a:o5}{b:Nat}{i:Nat}{x:Int}(f:y=(i:Int))(j:P.underlying t=σ (.slice e))(hi:aS P e 1 b z)(h1:lj P e=ms)(h:aQ k w v l)(J:l[i]?=σ x):ad P (n9 t v (.int a y)) w (λp=>ad P (u4 e p) w K)=K (.int k x):=by
 subst f;exact bm j hi h1 h J
theorem kN{q:r8}{b g:Nat}{x:x1}{m:Λ}{K:x1->x4->Prop}(j:P.underlying t=σ (.slice e))(hi:aS P e 1 b z)(s:z.cells.size=1)(h:aH k e w g v l)(J:aQ k w x m)(y:(l.length+m.length)*b<=140737488355328)(A:l.length+m.length<=9223372036854775807)(B:∀f a I,(a=g\/w.heap.size<=a)->aH k e I a f (l++m)->aj (λr=>r=g) w I->K f I):aM P (c9 #[t,t] q #[v,x]) w K:=
 pG j j hi s h J (r2 _ _) y (by simpa[maxLen]using A) λf a I h1 C E=>B f a I h1 (aH.of (by rw[ints,Z2];exact C)) E
theorem eI{b:Nat}{x:Int}{K:x1->x4->Prop}(j:P.underlying t=σ (.slice e))(hi:aS P e 1 b z)(s:z.cells.size=1)(h:∀v g I,g=w.heap.size->Ext w I->aH k e I g v [x]->K v I):aM P (Y3 t 1 #[(0,.int k x)]) w K:=
 lX j hi Ω (cs:=#[.int k x]) (by
   have V:∀(a:Array x1),a.size=1->a.setIfInBounds 0 (.int k x)= #[.int k x]:=λa f=>by
    apply Array.ext
    .simp[f]
    .intro i h1 y;have:i=0:=by simp[f]at h1;exact h1
     subst this;simp
   simp only[Instr.fill,x1.cells,List.zipIdx];simp;exact V _ Ξ) λg I q J r=>h _ g I q J (aH.of (b7.full r rfl (by simp[maxLen])))
theorem aq.free{f:S9}{K:x1->x4->Prop}(h:aq P f args w K):io P f args w λv I=>cR w I/\K v I:=by
 cases h with
 |code h1 a=>exact .code h1 (a.Y λ_ I ⟨v,h1,e,a⟩=>⟨v,h1,e,a⟩)
 |ext v I h1 a j=>exact .ext v I h1 ⟨a,j⟩
theorem bR{a:Addr}:ad P (b0 (.pointer (σ a))) w K=K (.pointer (σ a)):=ad.of λ_ _=>by
 simp[b0,tD,execOp]
theorem aO{u:r8}{pl:List (Nat×Nat)}{b z:Nat}{K:x1->x1->Prop}(ae:bJ P t pl)(i:Nat)(a:ai w b e cs)(ac:cs[(pl[i]?.getD (0,0)).1]?=σ v)(ah:pl[i]?=σ (off,z+1):=by rfl)(f:lj P u=ms:=by kernel_rfl):
  ad P (u6 t (Γ b) i) w (λx=>ad P (u4 u x) w (K x))=K (.pointer (σ ⟨b,0+off,ν⟩)) v:=by
 rw[ah]at ac;rw[aY ae ah,aD f (a.cell (by rw[V7];exact ac))]
theorem aL{u:r8}{pl:List (Nat×Nat)}{b z:Nat}{K:x1->x1->x1->Prop}(ae:bJ P t pl)(i:Nat)(a:ai w b e cs)(ac:cs[(pl[i]?.getD (0,0)).1]?=σ v)(ah:pl[i]?=σ (off,z+1):=by rfl)(f:lj P u=ms:=by kernel_rfl):
  ad P (b0 (Γ b)) w (λy=>ad P (u6 t y i) w (λx=>ad P (u4 u x) w (K y x)))=K (Γ b) (.pointer (σ ⟨b,0+off,ν⟩)) v:=by
 rw[bR,aO ae i a ac ah f]
theorem BX{a f:o5}{k:Nat}{K:x1->x4->Prop}(r:P.underlying t=σ (.slice e))(hi:aS P e k j z)(B:n*j<=281474976710656)(C:n<=9223372036854775807)(h:∀g I,g=w.heap.size->Ext w I->ai I g e (ef z.cells (n*k))->K (.slice (σ ⟨g,0,ν⟩) n n) I):aM P (Instr.makeSlice t (.int a (n:Int)) (.int f (n:Int))) w K:=by
 obtain⟨i,hi,rfl,rfl,s⟩:=hi;have x:(i.bytes:Int)*(n:Int)<=281474976710656:=by
  rw[Int.mul_comm];have h:((n*i.bytes:Nat):Int)<=281474976710656:=Ω
  rwa [Int.natCast_mul]at h
 have q:=run_make w t e i z r hi s a f n n Ω (S8 _) x Ω;have hm:madeCells z.cells ((n:Int).toNat*i.size)=(ef z.cells (n*i.size)).toArray:=by rw[ef,Array.toArray_toList];rfl
 rw[hm]at q;obtain⟨h1,y,A⟩:=um w (ef z.cells (n*i.size)) e;exact .of q A (h _ _ rfl y h1)
theorem L6(v:x1)(n:Nat):ef #[v] n=r9 n v:=by
 apply List.ext_getElem
 .simp[ef]
 .intro i h1 a;simp[ef,Nat.mod_one]
theorem lk{f j:o5}{a:Nat}{K:x1->x4->Prop}(q:P.underlying t=σ (.slice e))(hi:aS P e 1 a (.int k 0))(r:n*a<=281474976710656)(s:n<=9223372036854775807)(h:∀g I,g=w.heap.size->Ext w I->ai I g e (ints k (r9 n 0))->K (.slice (σ ⟨g,0,ν⟩) n n) I):aM P (Instr.makeSlice t (.int f (n:Int)) (.int j (n:Int))) w K:=
 BX q hi r s λg I x J y=>h g I x J (by
  have e:ef (V6 k 0).cells (n*1)=ints k (r9 n 0):=by rw[T1];show ef #[_] n=_;rw[L6];simp[ints]
  rw[<-e];exact y)
theorem gk{pl:List (Nat×Nat)}{b o k a:Nat}(hu:bJ P t pl)(hi:aS P t k a z)(e:cs.length=k)(h:w.rangeAt b o cs):ad P (do loadVar t (<-asAddr (.pointer (σ ⟨b,o,ν⟩)))) w K=K (.agg cs.toArray):=ad.of λI J=>by
 obtain⟨f,hu,_⟩:=hu;have:=run_loadVar_mid I b o t cs (.struct f) (pz J h) hu rfl (by rw[hi.size,e]);simp only[asAddr,W8,V4,Result.andThen_ok,this]
theorem L7(h:vs.length=cs.length):over cs 0 vs=vs:=by
 rw[oA Ω];simp[h]
theorem b8{k f g:Nat}{K:Unit->x4->Prop}(hi:aS P t k f z)(j:vs.length=k)(x:cs.length=k)(ac:∀v∈vs,v.oneCell'=ms)(q:ai w g e cs)(h:∀I,aj (λr=>r=g) w I->I.heap.size=w.heap.size->ai I g e vs->K () I):aM P (o7 t (Γ g) (.agg vs.toArray)) w K:=
 BU hi j ac q Ω λI h1 s a=>h I h1 s (by rw[L7 Ω]at a;exact a)
end
section
variable{P:W5}{w I ab:x4}{t:r8}{cx cy:Bool}{k:o5}{a b:Int}{A B:Prop}{x y z:x1}{K:x1->Prop}
theorem bx:ad P (Z9 (.tuple #[x,y]) 0) w K=K x:=gj rfl
theorem bz:ad P (Z9 (.tuple #[x,y]) 1) w K=K y:=gj rfl
theorem fP:ad P (Z9 (.tuple #[x,y,z]) 0) w K=K x:=gj rfl
theorem fQ:ad P (Z9 (.tuple #[x,y,z]) 1) w K=K y:=gj rfl
theorem fR:ad P (Z9 (.tuple #[x,y,z]) 2) w K=K z:=gj rfl
theorem bM(h:a<b)(e:A):ad P (aU .lss t cx cy (.int k a) (.int k b)) w λv=>Split v A B:=by
 rw[aW,ao];exact⟨λ_=>e,λf=>m2 h f⟩
theorem cc(h:¬a<b)(e:B):ad P (aU .lss t cx cy (.int k a) (.int k b)) w λv=>Split v A B:=by
 rw[aW,ao];exact⟨λf=>m2 f h,λ_=>e⟩
theorem Ext.put{g:Nat}(J:Ext w I)(a:aj (λr=>r=g) I ab)(h:w.heap.size<=g):Ext w ab:=J.then a λr e he=>by
 have he:r=g:=he;omega
theorem aK{α:Type}{l:List α}{i:Nat}(h:i<l.length):∃x,l[i]?=σ x:=⟨_,x8 h⟩
end
abbrev ak:=Nat->Prop
def jR(S:ak)(w:x4)(k:Nat)(v:x1)(n:Nat)(cs:List x1):Prop:=
 cs.length=n*k/\∃b o base cap,v= .slice base n cap/\n<=cap/\cap<=maxLen/\(0<n->base=σ ⟨b,o,ν⟩)/\(0<cs.length->S b)/\w.rangeAt b o cs
theorem jR.sl{S:ak}{k:Nat}(h:jR S w k v n cs):cn w k v n cs:=by
 obtain⟨h1,b,o,base,cap,a,e,f,j,_,q⟩:=h;exact⟨h1,b,o,base,cap,a,e,f,j,q⟩
theorem BY{b o:Nat}(h:w.rangeAt b o cs)(a:0<cs.length):b<w.heap.size:=by
 have:=h 0 cs[0] (x8 a)
 grind [xm]
theorem jR.aa{S T:ak}{k:Nat}(h:jR S w k v n cs)(J:aj T w I)(y:∀r,r<w.heap.size->S r->¬T r):jR S I k v n cs:=by
 obtain⟨h1,b,o,base,cap,a,e,f,q,s,z⟩:=h;refine⟨h1,b,o,base,cap,a,e,f,q,s,?_⟩;rcases Nat.eq_zero_or_pos cs.length with x|x
 .intro j v ac;grind
 grind [iu,BY]
theorem jR.Y{S T:ak}{k:Nat}(h:jR S w k v n cs)(f:∀r,r<w.heap.size->S r->T r):jR T w k v n cs:=by
 obtain⟨h1,b,o,base,cap,j,q,s,x,y,a⟩:=h;exact⟨h1,b,o,base,cap,j,q,s,x,λe=>f b (BY a e) (y e),a⟩
class ay(α:Type) where
 n:Nat
 rep:Bool->ak->ak->x4->List x1->α->Prop
 len:∀{m S R w cs a},rep m S R w cs a->cs.length=n
 one:∀{m S R w cs a},rep m S R w cs a->∀u∈cs,u.oneCell'=ms
 aa:∀{m S R T w I cs a},rep m S R w cs a->aj T w I->(∀r,r<w.heap.size->S r\/R r->¬T r)->rep m S R I cs a
 Y:∀{m S S' R R' w cs a},rep m S R w cs a->(∀r,r<w.heap.size->S r->S' r)->(∀r,r<w.heap.size->R r->R' r)->rep m S' R' w cs a
 kh:∀{m S R w cs a},rep m S R w cs a->rep ne (λ_=>False) (λr=>S r\/R r) w cs a
section
variable{α β:Type}[ay α][ay β]{m:Bool}{S R T:ak}{w I:x4}
abbrev bS(S R:ak)(w:x4)(cs:List x1)(a:α):Prop:=ay.rep ms S R w cs a
abbrev Seen(R:ak)(w:x4)(cs:List x1)(a:α):Prop:=ay.rep ne (λ_=>False) R w cs a
abbrev e3:ak:=λ_=>True
theorem bP{a:α}(h:ay.rep m S R w cs a)(J:Ext w I):ay.rep m S R I cs a:=ay.aa h (J.aa λ_=>False) λ_ _ _ h=>h
theorem oB{a:α}(h:ay.rep m S R w cs a):ay.rep m (λr=>S r/\r<w.heap.size) R w cs a:=ay.Y h (by grind) λ_ _ h=>h
theorem kO{a:α}(h:ay.rep m S R w cs a):Seen e3 w cs a:=ay.Y (ay.kh h) (by grind) (by grind)
theorem r3{a:α}{Q:ak}(h:ay.rep m S R w cs a)(e:∀r,r<w.heap.size->S r\/R r->Q r):Seen Q w cs a:=ay.Y (ay.kh h) (by grind) e
instance:ay Int where
 n:=1
 rep _ _ _ _ cs a:=cs=[Δ a]
 len h:=by grind
 one h:=by subst h;intro u hu;simp at hu;subst hu;rfl
 aa h _ _:=h
 Y h _ _:=h
 kh h:=h
instance:ay Bool where
 n:=1
 rep _ _ _ _ cs a:=cs=[.bool a]
 len h:=by grind
 one h:=by subst h;intro u hu;simp at hu;subst hu;rfl
 aa h _ _:=h
 Y h _ _:=h
 kh h:=h
instance:ay ByteArray where
 n:=1
 rep _ _ _ _ cs a:=cs=[.string a]
 len h:=by grind
 one h:=by subst h;intro u hu;simp at hu;subst hu;rfl
 aa h _ _:=h
 Y h _ _:=h
 kh h:=h
def nO(_:o5):Type:=Int
instance (k:o5):ay (nO k) where
 n:=1
 rep _ _ _ _ cs a:=cs=[.int k a]
 len h:=by grind
 one h:=by subst h;intro u hu;simp at hu;subst hu;rfl
 aa h _ _:=h
 Y h _ _:=h
 kh h:=h
def Rd(α:Type):Type:=α
instance Wt:ay (Rd α) where
 n:=ay.n α
 rep _ _ R w cs a:=ay.rep (α:=α) ne (λ_=>False) R w cs a
 len h:=ay.len (α:=α) h
 one h:=ay.one (α:=α) h
 aa h J f:=by grind [ay.aa]
 Y h _ e:=ay.Y (α:=α) h (λ_ _ h=>h) e
 kh h:=ay.Y (α:=α) h (λ_ _ h=>h) (by grind)
instance Wu:ay (α×β) where
 n:=ay.n α+ay.n β
 rep m S R w cs a:=∃c d A B,cs=c++d/\(∀r,A r->S r)/\(∀r,B r->S r)/\(m=ms->∀r,A r->¬B r)/\ay.rep m A R w c a.1/\ay.rep m B R w d a.2
 len:=by
  grind [ay.len]
 one:=by
  grind [ay.one]
 aa:=by
  rintro m S R T w I cs a ⟨c,d,A,B,rfl,e,f,j,h1,q⟩ J s;exact⟨c,d,A,B,rfl,e,f,j,by grind [ay.aa],by grind [ay.aa]⟩
 Y:=by
  rintro m S S' R R' w cs a ⟨c,d,A,B,rfl,e,f,j,h1,q⟩ s x;exact⟨c,d,λr=>A r/\r<w.heap.size,λr=>B r/\r<w.heap.size,rfl,by grind,by grind,by grind,
   by grind [ay.Y],by grind [ay.Y]⟩
 kh:=by
  rintro m S R w cs a ⟨c,d,A,B,rfl,e,f,j,h1,q⟩;exact⟨c,d,λ_=>False,λ_=>False,rfl,λ_ h=>h.elim,λ_ h=>h.elim,by grind,ay.Y (ay.kh h1) (λ_ _ h=>h) (by grind),
   ay.Y (ay.kh q) (λ_ _ h=>h) (by grind)⟩
def nP(m:Bool)(R:ak)(F:Nat->ak)(w:x4)(vs:List (List x1))(l:List α):Prop:=
 vs.length=l.length/\∀(i:Nat)(c:List x1)(a:α),vs[i]?=σ c->l[i]?=σ a->ay.rep m (F i) R w c a
structure BZ(m:Bool)(S:ak)(g:Nat)(F:Nat->ak):Prop where
 sub:∀i r,F i r->S r
 top:m=ms->∀i,¬F i g
 iw:m=ms->∀i j r,i≠j->F i r->¬F j r
theorem nP.len{F:Nat->ak}{vs:List (List x1)}{l:List α}(h:nP m R F w vs l):∀c∈vs,c.length=ay.n α:=by
 intro c a;obtain⟨i,hi,rfl⟩:=List.mem_iff_getElem.1 a;exact ay.len (h.2 i _ _ (x8 hi) (x8 (h.1▸hi)))
theorem nP.one{F:Nat->ak}{vs:List (List x1)}{l:List α}(h:nP m R F w vs l):∀u∈vs.flatten,u.oneCell'=ms:=by
 intro u hu;obtain⟨c,a,hu⟩:=List.mem_flatten.1 hu;obtain⟨i,hi,rfl⟩:=List.mem_iff_getElem.1 a;exact ay.one (h.2 i _ _ (x8 hi) (x8 (h.1▸hi))) u hu
theorem ll{k:Nat}:∀{vs:List (List x1)},(∀c∈vs,c.length=k)->vs.flatten.length=vs.length*k
 :=by
 intro a;induction a<;>grind
theorem pH{k:Nat}:∀{vs:List (List x1)},(∀c∈vs,c.length=k)->∀{i j:Nat}{c:List x1},vs[i]?=σ c->j<k->vs.flatten[i*k+j]?=c[j]?
 |gB::r,h,0,j,c,a,e=>by
  grind
 |gB::r,h,i+1,j,c,a,e=>by
  simp only[List.getElem?_cons_succ]at a;have f:=h gB (.head _);rw[List.flatten_cons,X1 (by grind),f,T4,show i*k+1*k+j-k=i*k+j by omega];exact pH (by grind) a e
 |[],_,i,_,c,a,_=>by simp at a
instance instList:ay (List α) where
 n:=1
 rep m S R w cs l:=∃v,cs=[v]/\∃(vs:List (List x1))(g:Nat)(F:Nat->ak),BZ m S g F/\nP m R F w vs l/\jR (λr=>S r\/R r) w (ay.n α) v l.length vs.flatten/\
  (m=ms->(v= .slice ν 0 0\/S g)/\∃e,b7 w g e (ay.n α) v l.length vs.flatten)
 len:=by grind
 one:=by
  rintro m S R w cs a ⟨v,rfl,vs,g,F,_,_,⟨_,_,_,_,_,rfl,_⟩,_⟩ u hu;simp at hu;subst hu;rfl
 aa:=by
  rintro m S R T w I cs a ⟨v,rfl,vs,g,F,ae,he,V,hm⟩ J y;refine⟨v,rfl,vs,g,F,ae,⟨he.1,λi c a q s=>ay.aa (he.2 i c a q s) J λr z h=>y r z (h.imp (ae.sub i r) id)⟩,V.aa J y,λh=>?_⟩;obtain⟨h1,e,f⟩:=hm h;refine⟨h1,e,?_⟩;rcases h1 with rfl|h1
  .obtain⟨A,⟨_,x⟩|⟨_,_,x,_⟩⟩:=f
   .exact⟨A,.inl ⟨rfl,x⟩⟩
   .cases x
  .exact f.aa J (by grind)
 Y:=by
  rintro m S S' R R' w cs a ⟨v,rfl,vs,g,F,ae,he,V,hm⟩ y B;refine⟨v,rfl,vs,g,λi r=>F i r/\r<w.heap.size,⟨λi r h=>y r h.2 (ae.sub i r h.1),λh i f=>ae.top h i f.1,λh i j r C h1 f=>ae.iw h i j r C h1.1 f.1⟩,
   ⟨he.1,λi c a q s=>ay.Y (he.2 i c a q s) (by grind) B⟩,V.Y (by grind),λh=>?_⟩
  obtain⟨h1,e,f⟩:=hm h;refine⟨?_,e,f⟩;obtain⟨_,⟨x,_⟩|⟨_,_,x,E,_⟩⟩:=f
  all_goals grind [ai.lt]
 kh:=by
  rintro m S R w cs a ⟨v,rfl,vs,g,F,ae,he,V,hm⟩;exact⟨v,rfl,vs,g,λ_ _=>False,⟨λ_ _ h=>h,by grind,by grind⟩,
   ⟨he.1,λi c a q s=>ay.Y (ay.kh (he.2 i c a q s)) (λ_ _ h=>h) λr _ h=>h.imp (ae.sub i r) id⟩,by grind,by grind⟩
end
section
variable{P:W5}{w:x4}{α β:Type}[ay α][ay β]{m:Bool}{S R:ak}
theorem kP{l:List α}(h:ay.rep m S R w [v] l):∃(vs:List (List x1))(g:Nat)(F:Nat->ak),BZ m S g F/\nP m R F w vs l/\jR (λr=>S r\/R r) w (ay.n α) v l.length vs.flatten/\
  (m=ms->(v= .slice ν 0 0\/S g)/\∃e,b7 w g e (ay.n α) v l.length vs.flatten):=by
 obtain⟨_,a,h⟩:=h;cases a;exact h
theorem jS{a:α}(h:ay.rep m S R w [v] a):v.oneCell'=ms:=ay.one h v (.head _)
theorem r4{l:List α}(h:ay.rep m S R w [v] l):v.cells= #[v]:=by
 obtain⟨_,_,_,_,_,⟨_,_,_,_,_,rfl,_⟩,_⟩:=kP h;rfl
theorem uo{l:List α}(h:ay.rep m S R w [v] l):l.length<=9223372036854775807:=by
 obtain⟨_,_,_,_,_,h,_⟩:=kP h;have:=h.sl.le;simpa[maxLen]using this
theorem jf:ay.rep m S R w [.slice ν 0 0] ([]:List α):=
 ⟨_,rfl,[],0,λ_ _=>False,⟨λ_ _ h=>h.elim,λ_ _ h=>h,λ_ _ _ _ _ h=>h.elim⟩,⟨rfl,λi c a e=>by simp at e⟩,
  ⟨Ξ,0,0,ν,0,rfl,p9 _,X9 _,λh=>m2 h (Nat.lt_irrefl _),λh=>by simp at h,λj v h=>by simp at h⟩,
  λ_=>⟨.inl rfl,0,b7.nil w 0 0 _⟩⟩
theorem B1{F:Nat->ak}{vs:List (List x1)}(h:nP m R F w vs l):vs.flatten=ints .i64 l:=by
 have:vs=l.map λx=>[V6 .i64 x]:=by
  apply List.ext_getElem
  .simp[h.1]
  .intro i h1 a;have e:i<l.length:=by simpa using a
   have:=h.2 i _ _ (x8 h1) (x8 e);rw[List.getElem_map];exact this
 subst this;clear h;induction l with
 |nil=>rfl
 |cons x l f=>simp only[List.map_cons,List.flatten_cons,f];rfl
theorem dy(h:ay.rep m S R w [v] l):aQ .i64 w v l:=by
 obtain⟨vs,g,F,_,he,V,_⟩:=kP h;have:=V.sl;rw[B1 he]at this;exact this
theorem jB{a:r8}{l:List α}(f:P.underlying t=σ (.slice e))(h:ay.rep m S R w [v] l):
  ad P (W7 #[t] a #[v]) w K=K (Δ l.length):=by
 obtain⟨_,_,_,_,_,⟨_,_,_,_,_,rfl,_⟩,_⟩:=kP h;exact je f
theorem lY{A:o5}{i b:Nat}{l:List α}{a:α}(B:y=(i:Int))(C:P.underlying t=σ (.slice e))(hi:aS P e (ay.n α) b z)(h:ay.rep m S R w [v] l)(f:l[i]?=σ a)(E:∀b o cs,w.rangeAt b o cs->ay.rep m S R w cs a->K (.pointer (σ ⟨b,o,ν⟩))):ad P (n9 t v (.int A y)) w K:=by
 subst B;obtain⟨vs,g,F,ae,he,⟨_,b,o,base,cap,rfl,_,_,G,_,H⟩,_⟩:=kP h;have q:=(x5.1 f).1;rw[fq C hi q G];obtain⟨c,s⟩:∃c,vs[i]?=σ c:=⟨_,x8 (by rw[he.1];exact q)⟩;have x:=he.2 i c a s f;have I:=ay.len x;refine E _ _ c (λj u hu=>?_) (ay.Y x (λr _ h=>ae.sub i r h) λ_ _ h=>h);have J:=(x5.1 hu).1;rw[Nat.add_assoc];refine H (i*ay.n α+j) u ?_;rw[pH he.len s Ω];exact hu
theorem iN{q:o5}{i b:Nat}{l:List α}{a:α}(r:ay.n α=1)(s:y=(i:Int))(x:P.underlying t=σ (.slice e))(hi:aS P e (ay.n α) b z)(h1:lj P e=ms)(h:ay.rep m S R w [v] l)(A:l[i]?=σ a)(B:∀u,ay.rep m S R w [u] a->K u):
  ad P (n9 t v (.int q y)) w λp=>ad P (u4 e p) w K:=by
 refine lY s x hi h A λb o cs C f=>?_;have j:=ay.len f;rw[r]at j;obtain⟨u,rfl⟩:=W6.1 j;rw[aD h1 (by have:=C 0 u rfl;simpa using this)];exact B u f
theorem nQ{pl:List (Nat×Nat)}{j:o5}{i b:Nat}{l:List α}{a:α}(hu:bJ P e pl)(q:y=(i:Int))(r:P.underlying t=σ (.slice e))(hi:aS P e (ay.n α) b z)(h:ay.rep m S R w [v] l)(s:l[i]?=σ a)(x:∀cs,ay.rep m S R w cs a->K (.agg cs.toArray)):
  ad P (n9 t v (.int j y)) w λp=>ad P (u4 e p) w K:=by
 refine lY q r hi h s λb o cs A f=>?_;rw[bF hu hi (ay.len f) A];exact x cs f
theorem qS{g:Nat}{k:Nat}(h:b7 w g e k v n xs)(a:v= .slice ν 0 0\/S g):jR S w k v n xs:=by
 obtain⟨h1,⟨rfl,rfl⟩|⟨cap,cs,rfl,f,q,r,x,s⟩⟩:=h
 .have:xs=[]:=j6 (by simpa using h1);subst this;exact⟨Ξ,0,0,ν,0,rfl,p9 _,X9 _,λh=>m2 h (Nat.lt_irrefl _),λh=>by simp at h,λj v h=>by simp at h⟩
 .refine⟨h1,g,0,_,cap,rfl,q,r,λ_=>rfl,λ_=>a.resolve_left Ξ,λj v ac=>?_⟩;rw[V7];have y:=(x5.1 ac).1;rw[<-s,W3 Ω]at ac;exact f.cell ac
open Classical in
theorem L8{U Y Z:r8}{b:Nat}{x:x1}{us:List (List x1)}{l fS:List α}{G:Nat->ak}{K:x1->x4->Prop}(ab:P.underlying t=σ (.slice e))(ad:P.underlying U=σ (.slice Y))(hi:aS P e (ay.n α) b z)(af:z.cells.size=ay.n α)(h:bS S R w [v] l)(J:cn w (ay.n α) x fS.length us.flatten)(L:nP ms R G w us fS)(ag:∀i j r,i≠j->G i r->¬G j r)(C:∀r,r<w.heap.size->S r->(∀i,¬G i r)/\¬R r)(ah:(l.length+fS.length)*b<=140737488355328)(ai:l.length+fS.length<=9223372036854775807)(al:∀q I,bS (λr=>S r\/(∃i,G i r)\/w.heap.size<=r) R I [q] (l++fS)->aj S w I->K q I):aM P (c9 #[t,U] Z #[v,x]) w K:=by
 obtain⟨vs,g,F,ae,he,V,hm⟩:=kP h;obtain⟨M,aq,W⟩:=hm rfl;refine BV ab ad hi af W J L.one ah (by simpa[maxLen]using ai) ?_;intro q E I am an N O;have Q:∀r,r=g/\v≠ .slice ν 0 0->S r:=λr ⟨h1,f⟩=>h1▸M.resolve_left f;have ao:=W;have T:(q= .slice ν 0 0)\/(E=g/\S g/\g<w.heap.size)\/E=w.heap.size:=by
  rcases an with⟨h1,_,f|f⟩|⟨h1,_⟩
  .rcases M with s|s
   .exact .inl (f▸s)
   .obtain⟨_,⟨y,_⟩|⟨_,_,_,y,_⟩⟩:=ao
    .exact .inl (f▸y)
    .exact .inr (.inl ⟨h1,s,y.lt⟩)
  .exact .inr (.inl ⟨h1,M.resolve_left f.2,f.1⟩)
  .exact .inr (.inr h1)
 refine al q I ⟨q,rfl,vs++us,if q= .slice ν 0 0 then w.heap.size else E,λi r=>if i<l.length then F i r/\r<w.heap.size else G (i-l.length) r/\r<w.heap.size,⟨λi r h=>?_,λ_ i h=>?_,λ_ i j r ap h1 f=>?_⟩,⟨by simp[he.1,L.1],λi c a hi H=>?_⟩,?_,λ_=>⟨?_,am,?_⟩⟩ (O.Y λr _ h=>Q r h)
 .split at h
  .exact .inl (ae.sub i r h.1)
  .exact .inr (.inl ⟨_,h.1⟩)
 .have A:(if q= .slice ν 0 0 then w.heap.size else E)<w.heap.size:=by split at h<;>exact h.2
  split at A
  .omega
  .rename_i ac;rw[m1 ac]at h;rcases T with h1|⟨rfl,f,s⟩|h1
   .exact ac h1
   .split at h
    .exact ae.top rfl i h.1
    .exact (C _ s f).1 _ h.1
   .omega
 .split at h1<;>split at f
  .exact ae.iw rfl i j r ap h1.1 f.1
  .exact (C r h1.2 (ae.sub i r h1.1)).1 _ f.1
  .exact (C r h1.2 (ae.sub j r f.1)).1 _ h1.1
  .exact ag (i-l.length) (j-l.length) r Ω h1.1 f.1
 .have X:∀r,r<w.heap.size->R r->¬(r=g/\v≠ .slice ν 0 0):=λr B h1 f=>(C r B (Q r f)).2 h1;by_cases A:i<l.length
  .rw[V3 (by rw[he.1];exact A)]at hi;rw[V3 A]at H;simp only[lw A];refine ay.aa (oB (he.2 i c a hi H)) O λr B h1 f=>?_;rcases h1 with h1|h1
   .exact ae.top rfl i (f.1▸h1.1)
   .exact X r B h1 f
  .rw[X1 (by rw[he.1];omega),he.1]at hi;rw[X1 Ω]at H;simp only[m1 A];refine ay.aa (oB (L.2 _ c a hi H)) O λr B h1 f=>?_;rcases h1 with h1|h1
   .exact (C r B (Q r f)).1 _ h1.1
   .exact X r B h1 f
 .rw[o4,List.flatten_append];refine qS N ?_;rcases T with h1|⟨rfl,f,_⟩|rfl
  .exact .inl h1
  .exact .inr (.inl (.inl f))
  .exact .inr (.inl (.inr (.inr (p9 _))))
 .rcases T with h1|⟨rfl,f,_⟩|rfl
  .exact .inl h1
  .by_cases ac:q= .slice ν 0 0
   .exact .inl ac
   .rw[m1 ac];exact .inr (.inl f)
  .split
   .exact .inr (.inr (.inr (p9 _)))
   .exact .inr (.inr (.inr (p9 _)))
 .rw[o4,List.flatten_append];by_cases ac:q= .slice ν 0 0
  .subst ac;obtain⟨s,⟨_,y⟩|⟨_,_,y,_⟩⟩:=N
   .exact⟨s,.inl ⟨rfl,y⟩⟩
   .cases y
  .rw[m1 ac];exact N
theorem pI{H:r8}{b:Nat}{x:x1}{l:List α}{a:α}{A:ak}{K:x1->x4->Prop}(C:P.underlying t=σ (.slice e))(hi:aS P e (ay.n α) b z)(L:z.cells.size=ay.n α)(h:bS S R w [v] l)(J:cn w (ay.n α) x 1 cs)(M:bS A R w cs a)(E:∀r,r<w.heap.size->S r->¬(A r\/R r))(f:(l.length+1)*b<=140737488355328)(N:l.length+1<=9223372036854775807)(O:∀q I,bS (λr=>S r\/A r\/w.heap.size<=r) R I [q] (l++[a])->aj S w I->K q I):aM P (c9 #[t,t] H #[v,x]) w K:=by
 refine L8 (us:=[cs]) (G:=λi r=>i=0/\A r) C C hi L h (by simpa using J) ⟨rfl,λi c b s f=>?_⟩ (λi j r Q h1 y=>Q (h1.1.F y.1.symm)) (λr F V=>⟨λi h=>E r F V (.inl h.2),λh=>E r F V (.inr h)⟩) (by simpa using f) (by simpa using N)
  λq I h1 y=>O q I (ay.Y h1 (λr _ h=>h.imp id (Or.imp (λ⟨_,h⟩=>h.2) id)) λ_ _ h=>h) y
 have B:=(x5.1 s).1;have B:i=0:=by simpa using B
 subst B;simp at s f;subst s f;exact ay.Y M (λr _ h=>⟨rfl,h⟩) λ_ _ h=>h
end
theorem B2:∀(c:List x1)(i:Nat)(z:Array x1),(i+c.length<=z.size)->((c.zipIdx i).foldl (λcs (x:x1×Nat)=>cs.setIfInBounds x.2 x.1) z).toList=z.toList.take i++c++z.toList.drop (i+c.length)
 |[],i,z,h=>Ξ
 |x::r,i,z,h=>by
  simp only[X5]at h;rw[List.zipIdx_cons,List.foldl_cons,B2 r (i+1) _ Θ];simp only[Array.toList_setIfInBounds,X5];rw[List.drop_set_of_lt Ω,List.take_set,u7,x8 Θ];simp only[o8];rw[U9 _ _ Θ];have e:i-(z.toList.take i).length=0:=Θ
  rw[e,show i+1+r.length=i+(r.length+1) by omega];simp
theorem B3{k:Nat}{z:Array x1}(a:z.size=k)(ac:v.cells.size=k):Instr.fill (λj=>σ (j*k,k)) z [(0,v)]=σ v.cells:=by
 have h:=B2 v.cells.toList 0 z Θ;simp only[Instr.fill,Nat.zero_mul,V7];rw[m1 Θ];congr 1;apply Array.toList_inj.1;rw[<-Array.foldl_toList,Array.toList_zipIdx,h];simp;omega
section
variable{P:W5}{w:x4}{α β:Type}[ay α][ay β]{m:Bool}{S R:ak}
theorem lZ{b:Nat}{x:x1}{a:α}{A:ak}{K:x1->x4->Prop}(C:P.underlying t=σ (.slice e))(hi:aS P e (ay.n α) b z)(N:ay.n α<=100000)(J:x.cells=cs.toArray)(s:bS A R w cs a)(E:∀v I,Ext w I->bS (λr=>A r\/w.heap.size<=r) R I [v] [a]->cn I (ay.n α) v 1 cs->K v I):aM P (Y3 t 1 #[(0,x)]) w K:=by
 have F:=ay.len s;refine lX C hi Ω (cs:=x.cells) (B3 Ξ (by rw[J];simpa using F)) λg I O y f=>?_;have f:ai I g e cs:=by rw[J]at f;simpa using f
 have hm:b7 I g e (ay.n α) (.slice (σ ⟨g,0,ν⟩) 1 1) 1 cs:=b7.full f Ω (by simp[maxLen]);refine E _ I y ⟨_,rfl,[cs],g,λi r=>i=0/\A r/\r<w.heap.size,⟨λi r h=>.inl h.2.1,λ_ i h=>Ω,λ_ i j r G h1 H=>G (h1.1.F H.1.symm)⟩,⟨rfl,λi c a' q B=>?_⟩,?_,λ_=>⟨.inr (.inr Ω),e,by simpa using hm⟩⟩ hm.sl
 .have L:i=0:=by simpa using(x5.1 q).1
  subst L;simp at q B;subst q B;exact bP (ay.Y s (λr M h=>⟨rfl,h,M⟩) λ_ _ h=>h) y
 .have:=qS (S:=λr=>(A r\/w.heap.size<=r)\/R r) hm (.inr (.inl (.inr Ω)));simpa using this
end
theorem b6.range{B:x1->x4->(x1->x4->Prop)->Prop}(n:Nat)(a:Nat->x4->Prop)(e:n<=9223372036854775807)(f:a 0 w)(h:∀(i:Nat)(w:x4)(k:x1->x4->Prop),i<n->a i w->(∀I,a (i+1) I->k (Δ (X3.wrap ((i:Int)+1))) I)->B (Δ (i:Int)) w k)(j:∀(w:x4)(k:x1->x4->Prop),a n w->B (Δ (n:Int)) w k):b6 (Δ 0) w B:=by
 refine⟨λt w=>∃i:Nat,t=Δ (i:Int)/\i<=n/\a i w,λt _=>n-(bY t).toNat,by grind,?_⟩
 grind [hx,bY]
theorem cb.range{a:x1}{B:x1->x1->x4->(x1->x1->x4->Prop)->Prop}(n:Nat)(e:Nat->x1->x4->Prop)(f:n<=9223372036854775807)(h:e 0 a w)(j:∀(i:Nat)(a:x1)(w:x4)(k:x1->x1->x4->Prop),i<n->e i a w->(∀a' I,e (i+1) a' I->k a' (Δ (X3.wrap ((i:Int)+1))) I)->B a (Δ (i:Int)) w k)(q:∀(a:x1)(w:x4)(k:x1->x1->x4->Prop),e n a w->B a (Δ (n:Int)) w k):cb a (Δ 0) w B:=by
 refine⟨λa t w=>∃i:Nat,t=Δ (i:Int)/\i<=n/\e i a w,λa t _=>n-(bY t).toNat,by grind,?_⟩
 grind [hx,bY]
theorem k9.range{a b:x1}{B:x1->x1->x1->x4->(x1->x1->x1->x4->Prop)->Prop}(n:Nat)(e:Nat->x1->x1->x4->Prop)(h:n<=9223372036854775807)(j:e 0 a b w)(q:∀(i:Nat)(a b:x1)(w:x4)(k:x1->x1->x1->x4->Prop),i<n->e i a b w->(∀a' f I,e (i+1) a' f I->k a' f (Δ (X3.wrap ((i:Int)+1))) I)->B a b (Δ (i:Int)) w k)(r:∀(a b:x1)(w:x4)(k:x1->x1->x1->x4->Prop),e n a b w->B a b (Δ (n:Int)) w k):k9 a b (Δ 0) w B:=by
 refine⟨λa b t w=>∃i:Nat,t=Δ (i:Int)/\i<=n/\e i a b w,λa b t _=>n-(bY t).toNat,by grind,?_⟩
 grind [hx,bY]
theorem rN.range{a b c:x1}{B:x1->x1->x1->x1->x4->(x1->x1->x1->x1->x4->Prop)->Prop}(n:Nat)(e:Nat->x1->x1->x1->x4->Prop)(j:n<=9223372036854775807)(q:e 0 a b c w)(r:∀(i:Nat)(a b c:x1)(w:x4)(k:x1->x1->x1->x1->x4->Prop),i<n->e i a b c w->(∀a' f h I,e (i+1) a' f h I->k a' f h (Δ (X3.wrap ((i:Int)+1))) I)->B a b c (Δ (i:Int)) w k)(s:∀(a b c:x1)(w:x4)(k:x1->x1->x1->x1->x4->Prop),e n a b c w->B a b c (Δ (n:Int)) w k):rN a b c (Δ 0) w B:=by
 refine⟨λa b c t w=>∃i:Nat,t=Δ (i:Int)/\i<=n/\e i a b c w,λa b c t _=>n-(bY t).toNat,by grind,?_⟩
 grind [hx,bY]
theorem rO.range{a b c d:x1}{B:x1->x1->x1->x1->x1->x4->(x1->x1->x1->x1->x1->x4->Prop)->Prop}(n:Nat)(e:Nat->x1->x1->x1->x1->x4->Prop)(q:n<=9223372036854775807)(r:e 0 a b c d w)(s:∀(i:Nat)(a b c d:x1)(w:x4)(k:x1->x1->x1->x1->x1->x4->Prop),i<n->e i a b c d w->(∀a' f h j I,e (i+1) a' f h j I->k a' f h j (Δ (X3.wrap ((i:Int)+1))) I)->B a b c d (Δ (i:Int)) w k)(x:∀(a b c d:x1)(w:x4)(k:x1->x1->x1->x1->x1->x4->Prop),e n a b c d w->B a b c d (Δ (n:Int)) w k):rO a b c d (Δ 0) w B:=by
 refine⟨λa b c d t w=>∃i:Nat,t=Δ (i:Int)/\i<=n/\e i a b c d w,λa b c d t _=>n-(bY t).toNat,by grind,?_⟩
 grind [hx,bY]
section
variable{P:W5}{w:x4}{m:Bool}{S R:ak}
theorem L9(l:Λ):(l.map λx=>[V6 k x]).flatten=ints k l:=by
 induction l<;>grind
theorem pJ{g:Nat}(h:aH .i64 e w g v l):bS (λr=>r=g) R w [v] l:=by
 have ah:(l.map λx=>[V6 .i64 x]).flatten=ints .i64 l:=L9 l;refine⟨v,rfl,l.map λx=>[Δ x],g,λ_ _=>False,⟨by grind,λ_ _ h=>h,by grind⟩,⟨Ξ,λi c a f j=>?_⟩,?_,λ_=>⟨.inr rfl,e,?_⟩⟩
 .rw[v8,j]at f;simp at f;exact f.symm
 .rw[ah];exact qS h Ω
 .rw[ah];exact h
def nO.val(x:nO k):Int:=x
theorem B4(h:bS S R w [v] l):∃g e,aH .i64 e w g v l/\(v= .slice ν 0 0\/S g):=by
 obtain⟨vs,g,F,_,he,V,hm⟩:=kP h;obtain⟨h1,e,a⟩:=hm rfl;rw[B1 he]at a;exact⟨g,e,a,h1⟩
end
end Go.Vc
namespace Go.Proofs.YtlcdcbgoaljiiaaGreatDoor
open Go Go.Vc Go.RowKit Go.Proofs Go.Proofs.Tryz
set_option maxRecDepth 100000
def right(k:Int):Prop:=1<=k/\k<=2147483648
def cA(a k:Int):Prop:=right k/\0<=a/\a<=k
instance (k:Int):Decidable (right k):=by unfold right;infer_instance
instance (a k:Int):Decidable (cA a k):=by unfold cA;infer_instance
theorem B5{k:Int}:aq x7 Lf [Δ k] w λv I=>v= .bool (decide (right k))/\Ext w I:=by
 refine aF func235 ?_;simp only[cC,cJ,nI,ao];refine⟨λh=>⟨?_,Ext.refl _⟩,λh=>⟨?_,Ext.refl _⟩⟩
 .congr 1;simp[right,h]
 .rw[m5];intro a;exact h a.1
theorem ln{k:Int}:aq x7 KY [Δ a,Δ k] w λv I=>v= .bool (decide (cA a k))/\Ext w I:=by
 refine aF func211 ?_;simp only[cC];refine B5.Y ?_;rintro _ U _ ⟨rfl,J⟩;simp only[cJ,nI,ao];refine⟨λh=>⟨λe=>⟨?_,J⟩,λe=>⟨?_,J⟩⟩,λh=>⟨?_,J⟩⟩
 .congr 1;simp[cA,h,e]
 .rw[m5];intro f;exact e f.2.1
 .rw[m5];intro f;exact h f.1
theorem Ma{k:Int}:aq x7 KW [Δ k] w λv I=>v= .bool (decide (right k))/\Ext w I:=by
 refine aF func209 ?_;simp only[cC,bU,nI,ao];refine⟨λh=>⟨?_,Ext.refl _⟩,λh=>⟨?_,Ext.refl _⟩⟩
 .congr 1;have bg:1<=k:=Ω
  simp[right,bg]
 .rw[m5];intro a;have:=a.1;omega
theorem B6{k:Int}:aq x7 J2 [Δ a,Δ k] w λv I=>v= .bool (decide (cA a k))/\Ext w I:=by
 refine aF func138 ?_;simp only[cC];refine Ma.Y ?_;rintro _ U _ ⟨rfl,J⟩;simp only[cJ,nI,ao];refine⟨λh=>⟨λe=>⟨?_,J⟩,λe=>⟨?_,J⟩⟩,λh=>⟨?_,J⟩⟩
 .congr 1;simp[cA,h,e]
 .rw[m5];intro f;exact e f.2.1
 .rw[m5];intro f;exact h f.1
def aX:Λ->Int
 |[]=>1
 |x::r=>x*aX r
theorem B7:∀(a b:Λ),aX (a++b)=aX a*aX b
 |[],b=>by simp[aX]
 |x::a,b=>by simp[aX,B7 a b,Int.mul_assoc]
theorem uq{i:Nat}{x:Int}(h:l[i]?=σ x):aX (l.take (i+1))=aX (l.take i)*x:=by
 rw[u7,h,B7];simp[aX]
def cg(l:Λ):Prop:=l.length<=6/\∀x∈l,1<=x/\x<=32
theorem cg.take(h:cg l)(i:Nat):cg (l.take i):=⟨by rw[j9];have:=h.1;omega,λx J=>h.2 x (S4 J)⟩
theorem cg.drop(h:cg l)(i:Nat):cg (l.drop i):=⟨by rw[List.length_drop];have:=h.1;omega,λx J=>h.2 x (List.mem_of_mem_drop J)⟩
theorem oC:∀(l:Λ),(∀x∈l,1<=x/\x<=32)->1<=aX l/\aX l<=32 ^ l.length
 |[],_=>by simp[aX]
 |x::r,h=>by
  obtain⟨h1,a⟩:=oC r λy e=>h y (.tail _ e);obtain⟨f,j⟩:=h x (.head _);simp only[aX,X5];constructor
  .have:=Int.mul_le_mul f h1 Ω Ω;simpa using this
  .have:=Int.mul_le_mul j a Ω Ω;rw[Int.pow_succ];rw[Int.mul_comm (32 ^ r.length) 32];exact this
theorem prod_bound(h:cg l):1<=aX l/\aX l<=1073741824:=by
 obtain⟨h1,a⟩:=oC l h.2;refine⟨h1,Int.le_trans a ?_⟩;have:(32:Int) ^ l.length<=32 ^ 6:=by
  have e:=h.1
  match l.length,e with
  |0,_=>decide
  |1,_=>decide
  |2,_=>decide
  |3,_=>decide
  |4,_=>decide
  |5,_=>decide
  |6,_=>decide
 simpa using this
def ct:Λ->Λ->Int->Option Int
 |[],[],n=>σ n
 |k::s,v::t,n=>if 0<=v/\v<k then ct s t (n*k+v)else ν
 |_,_,_=>ν
theorem xr:∀(s t:Λ)(n:Int),s.length≠t.length->ct s t n=ν
 |[],[],_,h=>m2 rfl h
 |[],_::_,_,_=>rfl
 |_::_,[],_,_=>rfl
 |k::s,v::t,n,h=>by
  unfold ct;split
  .exact xr s t _ (by simpa using h)
  .rfl
def dl:Λ->Int->Λ
 |[],_=>[]
 |k::s,n=>(n / aX s) % k::dl s n
theorem kQ:∀(s:Λ)(n:Int),(dl s n).length=s.length
 |[],_=>rfl
 |_::s,n=>by simp[dl,kQ s n]
theorem B8:∀{s:Λ}{n:Int}{i:Nat}{k:Int},s[i]?=σ k->(dl s n)[i]?=σ ((n / aX (s.drop (i+1))) % k)
 |a::s,n,0,k,h=>by simp at h;subst h;simp[dl]
 |a::s,n,i+1,k,h=>by
  simp only[List.getElem?_cons_succ]at h;simp only[dl,List.getElem?_cons_succ,List.drop_succ_cons];exact B8 h
theorem pK:∀{s t:Λ}{m n:Int},(∀x∈s,1<=x/\x<=32)->ct s t m=σ n->m*aX s<=n/\n<(m+1)*aX s
 |[],[],m,n,_,h=>by simp[ct]at h;subst h;simp[aX];omega
 |k::s,v::t,m,n,V,h=>by
  unfold ct at h;split at h
  .rename_i ac;have a:=pK (λx J=>V x (.tail _ J)) h;have ae:=(oC s λx J=>V x (.tail _ J)).1;simp only[aX];have e:m*(k*aX s)=m*k*aX s:=(Int.mul_assoc _ _ _).symm;have f:(m+1)*(k*aX s)=(m*k+k)*aX s:=by rw[<-Int.mul_assoc,Int.add_mul,Int.one_mul]
   rw[e,f];constructor
   .refine Int.le_trans ?_ a.1;exact Int.mul_le_mul_of_nonneg_right Ω Ω
   .refine Int.lt_of_lt_of_le a.2 ?_;exact Int.mul_le_mul_of_nonneg_right Ω Ω
  .cases h
 |[],_::_,_,_,_,h=>by cases h
 |_::_,[],_,_,_,h=>by cases h
def bq:Λ->List (Λ)
 |[]=>[[]]
 |k::s=>(X2 k.toNat).flatMap λ(v:Nat)=>(bq s).map λt=>(v:Int)::t
theorem jg:∀{s:Λ},(∀x∈s,1<=x/\x<=32)->(bq s).length=(aX s).toNat
 |[],_=>rfl
 |k::s,h=>by
  have a:=jg λx J=>h x (.tail _ J);have hk:=h k (.head _);have ae:=(oC s λx J=>h x (.tail _ J)).1;simp only[bq,aX,List.length_flatMap,u9,a];rw[List.map_const',List.length_range,List.sum_replicate_nat,Int.toNat_mul Ω Ω]
theorem ur:∀{s x:Λ},x∈bq s->x.length=s.length
 |[],x,h=>by simp[bq]at h;subst h;rfl
 |k::s,x,h=>by
  simp only[bq,List.mem_flatMap,o9]at h;obtain⟨v,_,t,a,rfl⟩:=h;simp[ur a]
theorem ut{s x:Λ}(h:(bq s)[j]?=σ x):x.length=s.length:=ur (x6 h)
theorem qT(h:aQ .i64 w sv l)(V:cg l):
  aq x7 JF [.agg #[sv]] w λv I=>v=Δ (aX l)/\Ext w I:=by
 refine aF func95 ?_;refine bo λg w0 j e f=>?_;rw[aO bL.p 0 f rfl,a7 av.u (h.W e)];refine⟨λn t U=>Ext w U/\∃i:Nat,t=Δ i/\i<=l.length/\n=Δ (aX (l.take i)),λ_ t _=>l.length-(bY t).toNat,⟨e,0,rfl,X9 _,rfl⟩,?_⟩;rintro _ _ U ⟨J,i,rfl,hi,rfl⟩;have q:=V.1;simp only[aW,ao];refine⟨λr=>?_,λs=>⟨?_,J⟩⟩
 .obtain⟨x,a⟩:=aK (l:=l) (i:=i) Ω;rw[bm av.u al.i Ψ (h.W J) a];have ae:=prod_bound (V.take (i+1));rw[uq a]at ae;simp only[iv,aR];rw[hx Ω Ω,hx Ω Ω,<-uq a];refine⟨⟨J,i+1,rfl,Ω,rfl⟩,?_⟩;simp only[bY];omega
 .have:i=l.length:=Ω
  rw[this,o6]
theorem Mb{i:Nat}(h:aQ .i64 w sv l)(V:cg l)(hi:i<l.length):
  aq x7 Kj [.agg #[sv],Δ i] w λv I=>v=Δ (aX (l.drop (i+1)))/\Ext w I:=by
 have A:=V.1;refine aF func157 ?_;refine bo λg w0 B e f=>?_;have a:=h.W e;simp only[cC,aW,ao];refine⟨λC=>Ω,λ_=>?_⟩;rw[aO bL.p 0 f rfl,a7 av.u a];simp only[cJ,ao];refine⟨λE=>Ω,λ_=>?_⟩;rw[aO bL.p 0 f rfl];simp only[aR];have j:X3.wrap ((i:Int)+1)=((i+1:Nat):Int):=by rw[hx Ω Ω];omega
 rw[j];have r:=a;obtain⟨_,b,o,base,cap,rfl,G,H,J,K⟩:=id a;rw[gW av.u al.i pB kp fc Ω Ω Ω];have ae:=cn.part (l:=i+1) (h:=l.length) (m:=cap) r Ω Ω Ω Ω;generalize s:(x1.slice (if cap=i+1 then base else V9 (λx=>x.add ((i+1)*1)) base) (l.length-(i+1)) (cap-(i+1)))=q at ae ⊢;have y:((ints .i64 l).drop ((i+1)*1)).take ((l.length-(i+1))*1)=ints .i64 (l.drop (i+1)):=by
  rw[j4 Ξ,T1,ints,<-List.map_drop]
 rw[y]at ae;rw[dk (cs:=#[q]) (by subst s;kernel_rfl)];refine(qT (aQ.of ae) (V.drop (i+1))).Y ?_;rintro _ ab _ ⟨rfl,z⟩;exact⟨rfl,e.F z⟩
def mK(s t:Λ):x1:=match ct s t 0 with
 |some n=>.tuple #[Δ n,Δ 0]
 |none=>.tuple #[Δ 0,Δ 3]
theorem B9{s t:Λ}(h:aQ .i64 w sv s)(j:aQ .i64 w aV t)(V:cg s):
  aq x7 Kg [.agg #[sv],aV] w λv I=>v=mK s t/\Ext w I:=by
 have E:=V.1;refine aF func154 ?_;refine bo λg w0 G a q=>?_;rw[a7 av.u (j.W a),aO bL.p 0 q rfl,a7 av.u (h.W a)];simp only[bG,ao];refine⟨λH=>⟨?_,a⟩,λy=>?_⟩
 .unfold mK;rw[xr _ _ _ Ω]
 .have y:s.length=t.length:=Ω
  rw[a7 av.u (j.W a)];refine⟨λ_ _ n c U=>Ext w0 U/\∃(i:Nat)(m:Int),c=Δ i/\i<=t.length/\n=Δ m/\0<=m/\m<aX (s.take i)/\ct s t 0=ct (s.drop i) (t.drop i) m,λ_ _ _ c _=>t.length-(bY c).toNat,
   ⟨Ext.refl _,0,0,rfl,X9 _,rfl,S8 _,by simp[aX],rfl⟩,?_⟩
  rintro _ _ _ _ U ⟨f,i,m,rfl,hi,rfl,z,K,e⟩;have J:=a.F f;simp only[aW,ao];refine⟨λL=>?_,λM=>⟨?_,J⟩⟩
  .obtain⟨v,ac,A⟩:∃v,t[i]?=σ v/\t.drop i=v::t.drop (i+1):=⟨t[i],x8 Ω,Y8 Ω⟩;obtain⟨k,hk,B⟩:∃k,s[i]?=σ k/\s.drop i=k::s.drop (i+1):=⟨s[i],x8 Ω,Y8 Ω⟩;rw[A,B]at e;have ae:=prod_bound (V.take (i+1));have N:=prod_bound (V.take i);have O:=V.2 k (x6 hk);rw[uq hk]at ae;have r:¬(0<=v/\v<k)->mK s t= .tuple #[Δ 0,Δ 3]:=λC=>by unfold mK;rw[e];simp[ct,C]
   rw[bm av.u al.i Ψ (j.W J) ac];simp only[cC,aW,ao,bK];refine⟨λP=>⟨(r Ω).symm,J⟩,λQ=>?_⟩;rw[aO bL.p 0 (q.W f) rfl,bm av.u al.i Ψ (h.W J) hk];simp only[cJ,ao];refine⟨λR=>⟨(r Ω).symm,J⟩,λS=>?_⟩;rw[aO bL.p 0 (q.W f) rfl,bm av.u al.i Ψ (h.W J) hk];have W:0<=m*k/\m*k+k<=aX (s.take i)*k:=by
    constructor
    .exact Int.mul_nonneg z Ω
    .have:=Int.mul_le_mul_of_nonneg_right (show m+1<=aX (s.take i) by omega) (show 0<=k by omega);rw[Int.add_mul,Int.one_mul]at this;exact this
   simp only[iv,aR];rw[hx (x:=m*k) Ω Ω,hx (x:=m*k+v) Ω Ω,hx Ω Ω];refine⟨⟨f,i+1,m*k+v,rfl,Ω,rfl,Ω,by rw[uq hk];omega,?_⟩,?_⟩
   .rw[e];simp[ct,show 0<=v/\v<k from⟨Ω,Ω⟩]
   .simp only[bY];omega
  .have:i=t.length:=Ω
   rw[this,List.drop_of_length_le Ω,List.drop_of_length_le Ω]at e;unfold mK;rw[e];rfl
theorem Mc{e:Nat}{a b:Λ}(h1:cn w 1 s1 e (ints .i64 a))(A:cn w 1 z h (ints .i64 b)):
  aq x7 Bx [s1,z] w λv I=>v= .bool (decide (a=b))/\Ext w I:=by
 have Q:a.length=e:=by simpa using h1.1
 have R:b.length=h:=by simpa using A.1
 have B:=h1.le;obtain⟨_,S,V,W,X,rfl,Y,Z,G,H⟩:=h1;obtain⟨_,aa,ac,ad,ae,rfl,af,ag,K,L⟩:=A;refine aF func185 ?_;simp only[je av.u,bG,ao];refine⟨λC=>⟨?_,Ext.refl _⟩,λE=>?_⟩
 .rw[m5];rintro rfl;omega
 .have E:e=h:=Ω
  refine⟨λt4 j U=>Ext w U/\∃i:Nat,j=Δ i/\i<=e/\a.take i=b.take i,λ_ j _=>e-(bY j).toNat,⟨Ext.refl _,0,rfl,X9 _,rfl⟩,?_⟩;rintro t4 _ U ⟨J,i,rfl,hi,q⟩;simp only[aW,ao,eP];refine⟨λr ab M _ _=>?_,λah=>⟨?_,J⟩⟩
  .have r:i<e:=Ω
   have J:=J.F M;obtain⟨x,s⟩:=aK (l:=a) (i:=i) Ω;obtain⟨y,f⟩:=aK (l:=b) (i:=i) Ω;have N:=km J (H i _ (mJ s));have O:=km J (L i _ (mJ f));rw[fq av.u al.i r G,T1,aD Ψ N,fq av.u al.i (E▸r) K,T1,aD Ψ O];simp only[bG,ao,aR];refine⟨λC=>⟨?_,J⟩,λai=>⟨⟨J,i+1,?_,Ω,xp q s f Ω⟩,?_⟩⟩
   .rw[m5];rintro rfl;rw[s]at f;cases f;exact C rfl
   .rw[hx Ω (by simp only[maxLen]at B;omega)];rfl
   .rw[hx Ω (by simp only[maxLen]at B;omega)];simp only[bY];omega
  .have P:i=e:=Ω
   subst P;rw[m3];rw[j4 Ω,j4 Ω]at q;exact q
theorem Md{s:x1}{a:Λ}(h1:cn w 1 s n (ints .i64 a))(B:n<=1000000):
  aq x7 Bj [s] w λv I=>Ext w I/\∃g,w.heap.size<=g/\b7 I g al 1 v n (ints .i64 a):=by
 have f:=h1;obtain⟨j,C,E,G,H,rfl,K,L,q,M⟩:=h1;refine aF func87 ?_;simp only[qP av.u,b1];refine⟨λe=>⟨Ext.refl _,w.heap.size,p9 _,?_⟩,λ_=>?_⟩
 .have:n=0:=by
   rcases Nat.eq_zero_or_pos n with h|h
   .exact h
   .rw[q h]at e;cases e
  subst this;have:ints .i64 a=[]:=j6 (by simpa using j);rw[this];exact b7.nil _ _ _ _
 .refine lX av.u al.i Ω (cs:=#[]) Ψ ?_;intro g U N J x;refine pG av.u av.u al.i rfl (b7.full x rfl Ω) (f.W J) (r2 _ _) Ω (by simp only[maxLen];omega) ?_;intro O y ab P z A;refine⟨J.then A (by rintro r Q rfl;omega),y,?_,?_⟩
  .have:=J.size;omega
  .simpa using z
theorem Me{e:Nat}{a b:Λ}(h1:cn w 1 s1 e (ints .i64 a))(A:cn w 1 z h (ints .i64 b)):
  aq x7 Ba [s1,z] w λv I=>v= .bool (decide (a=b))/\Ext w I:=by
 have Q:a.length=e:=by simpa using h1.1
 have R:b.length=h:=by simpa using A.1
 have B:=h1.le;obtain⟨_,S,V,W,X,rfl,Y,Z,G,H⟩:=h1;obtain⟨_,aa,ac,ad,ae,rfl,af,ag,K,L⟩:=A;refine aF func21 ?_;simp only[je aC.u,bG,ao];refine⟨λC=>⟨?_,Ext.refl _⟩,λE=>?_⟩
 .rw[m5];rintro rfl;omega
 .have E:e=h:=Ω
  refine⟨λt4 j U=>Ext w U/\∃i:Nat,j=Δ i/\i<=e/\a.take i=b.take i,λ_ j _=>e-(bY j).toNat,⟨Ext.refl _,0,rfl,X9 _,rfl⟩,?_⟩;rintro t4 _ U ⟨J,i,rfl,hi,q⟩;simp only[aW,ao,eP];refine⟨λr ab M _ _=>?_,λah=>⟨?_,J⟩⟩
  .have r:i<e:=Ω
   have J:=J.F M;obtain⟨x,s⟩:=aK (l:=a) (i:=i) Ω;obtain⟨y,f⟩:=aK (l:=b) (i:=i) Ω;have N:=km J (H i _ (mJ s));have O:=km J (L i _ (mJ f));rw[fq aC.u ax.i r G,T1,aD Ψ N,fq aC.u ax.i (E▸r) K,T1,aD Ψ O];simp only[bG,ao,aR];refine⟨λC=>⟨?_,J⟩,λai=>⟨⟨J,i+1,?_,Ω,xp q s f Ω⟩,?_⟩⟩
   .rw[m5];rintro rfl;rw[s]at f;cases f;exact C rfl
   .rw[hx Ω (by simp only[maxLen]at B;omega)];rfl
   .rw[hx Ω (by simp only[maxLen]at B;omega)];simp only[bY];omega
  .have P:i=e:=Ω
   subst P;rw[m3];rw[j4 Ω,j4 Ω]at q;exact q
theorem Mf{s:x1}{a:Λ}(h1:cn w 1 s n (ints .i64 a))(B:n<=1000000):
  aq x7 Bz [s] w λv I=>Ext w I/\∃g,w.heap.size<=g/\b7 I g ax 1 v n (ints .i64 a):=by
 have f:=h1;obtain⟨j,C,E,G,H,rfl,K,L,q,M⟩:=h1;refine aF func200 ?_;simp only[qP aC.u,b1];refine⟨λe=>⟨Ext.refl _,w.heap.size,p9 _,?_⟩,λ_=>?_⟩
 .have:n=0:=by
   rcases Nat.eq_zero_or_pos n with h|h
   .exact h
   .rw[q h]at e;cases e
  subst this;have:ints .i64 a=[]:=j6 (by simpa using j);rw[this];exact b7.nil _ _ _ _
 .refine lX aC.u ax.i Ω (cs:=#[]) Ψ ?_;intro g U N J x;refine pG aC.u aC.u ax.i rfl (b7.full x rfl Ω) (f.W J) (r2 _ _) Ω (by simp only[maxLen];omega) ?_;intro O y ab P z A;refine⟨J.then A (by rintro r Q rfl;omega),y,?_,?_⟩
  .have:=J.size;omega
  .simpa using z
theorem Mg{e:x1}{a b:Λ}(h1:aQ .i64 w s1 a)(f:aQ .i64 w e b):
  aq x7 Bx [s1,e] w λv I=>v= .bool (decide (a=b))/\Ext w I:=Mc h1 f
theorem mL{s:x1}{a:Λ}(h1:aQ .i64 w s a)(e:a.length<=1000000):
  aq x7 Bj [s] w λv I=>Ext w I/\∃g,w.heap.size<=g/\aH .i64 al I g v a:=Md h1 e
theorem uu{e:x1}{a b:Λ}(h1:aQ .i64 w s1 a)(f:aQ .i64 w e b):
  aq x7 Ba [s1,e] w λv I=>v= .bool (decide (a=b))/\Ext w I:=Me h1 f
theorem xt{s:x1}{a:Λ}(h1:aQ .i64 w s a)(e:a.length<=1000000):
  aq x7 Bz [s] w λv I=>Ext w I/\∃g,w.heap.size<=g/\aH .i64 ax I g v a:=Mf h1 e
theorem Mh{n:Int}(h:aQ .i64 w sv l)(V:cg l)(x:0<=n)(X:n<aX l):
  aq x7 JG [.agg #[sv],Δ n] w λv I=>Ext w I/\∃aV g,v= .tuple #[aV,Δ 0]/\w.heap.size<=g/\aH .i64 al I g aV (dl l n):=by
 have Y:=V.1;have Z:=prod_bound V;refine aF func96 ?_;refine bo λg w0 aa y a=>?_;have ac:=h.cells;simp only[cC,aW,ao];refine⟨λad=>Ω,λ_=>?_⟩;rw[bF bL.p bL.i rfl a.range];refine(qT (h.W y) V).Y ?_;rintro _ U _ ⟨rfl,f⟩;simp only[cJ,ao];refine⟨λae=>Ω,λ_=>?_⟩;have j:=y.F f;rw[aO bL.p 0 (a.W f) rfl,a7 av.u (h.W j)];refine lk av.u al.i Ω Ω ?_;intro E ab af z K;simp only[je av.u];have L:=j.F z;have s0:=y.size;have s1:=f.size;have ag:=a.lt;refine⟨λt q=>Ext w q/\Ext w0 q/\∃i:Nat,t=Δ i/\i<=l.length/\ai q E al (ints .i64 ((dl l n).take i++r9 (l.length-i) 0)),λt _=>l.length-(bY t).toNat,
  ⟨L,f.F z,0,rfl,X9 _,by simpa using K⟩,?_⟩
 rintro _ q ⟨A,B,i,rfl,hi,G⟩;simp only[aW,ao];refine⟨λC=>?_,λah=>?_⟩
 .have C:i<l.length:=Ω
  rw[bF bL.p bL.i rfl (a.W B).range];refine(Mb (h.W A) V C).Y ?_;rintro _ aj _ ⟨rfl,M⟩;simp only[eP];intro ak N _ _;have s:=M.F N;have H:=A.F s;obtain⟨k,hk⟩:∃k,l[i]?=σ k:=⟨l[i],x8 Ω⟩;have am:=V.2 k (x6 hk);have an:=prod_bound (V.drop (i+1));have O:0<=n / aX (l.drop (i+1)):=Int.ediv_nonneg x Ω;have ap:n / aX (l.drop (i+1))<=n:=Int.ediv_le_self _ x;rw[pA Ω,Int.tdiv_eq_ediv_of_nonneg x,hx Ω Ω,
   aO bL.p 0 ((a.W B).W s) rfl,bm av.u al.i Ψ (h.W H) hk,
   uj Ω,Int.tmod_eq_emod_of_nonneg O,fq av.u al.i C (λ_=>rfl),T1]
  refine bs al.i rfl rfl (G.W s) (by simp[kQ];omega) ?_;intro au J aw P;simp only[aR];rw[hx Ω Ω];have ax:=z.size;have ay:=j.size;refine⟨⟨H.then J (by rintro r Q rfl;omega),(B.F s).then J (by rintro r Q rfl;omega),i+1,rfl,Ω,?_⟩,?_⟩
  .have R:=B8 (n:=n) hk;have e:(ints .i64 ((dl l n).take i++r9 (l.length-i) 0)).set (0+i) (Δ (n / aX (l.drop (i+1)) % k))=ints .i64 ((dl l n).take (i+1)++r9 (l.length-(i+1)) 0):=by
    have S:((dl l n).take i).length=i:=by rw[j9,kQ];omega
    rw[V7,ints,<-U4];congr 1;rw[List.set_append,m1 Ω,S,V8,show l.length-i=(l.length-(i+1))+1 by omega,List.replicate_succ,List.set_cons_zero,u7,R];simp
   rw[<-e];exact P
  .simp only[bY];omega
 .have W:i=l.length:=Ω
  subst W;refine⟨A,_,E,rfl,by have:=j.size;omega,aH.of (b7.full ?_ (by simp[ints,kQ]) (by simp[maxLen];omega))⟩;have e:(dl l n).take l.length++r9 (l.length-l.length) 0=dl l n:=by rw[V8,j4 (by rw[kQ];omega)];simp
  rw[<-e];exact G
def jT(x:Int):Prop:=1<=x/\x<=32
instance (x:Int):Decidable (jT x):=by unfold jT;infer_instance
theorem Mi{x:Int}:aq x7 uh [Δ x] w λv I=>v= .bool (decide (¬jT x))/\Ext w I:=by
 refine aF func293 ?_;simp only[cC,aW,bU,ao];refine⟨λh=>⟨?_,Ext.refl _⟩,λh=>⟨?_,Ext.refl _⟩⟩
 .rw[m3];intro a;have:=a.1;omega
 .congr 1;have:(32<x)=(¬jT x):=propext ⟨λe a=>by have:=a.2;omega,λe=>by
   by_cases f:32<x
   .exact f
   .exact m2 ⟨Ω,Ω⟩ e⟩
  simp only[this]
theorem Mj(h:aQ .i64 w sv l):
  aq x7 xb [sv,.func (.func uh) #[] #[]] w λv I=>Ext w I/\∃n:Int,v=Δ n/\((0<=n)=¬∀x∈l,jT x):=by
 have z:=h.le;refine aF func136 ?_;rw[a7 av.u h];refine⟨λ_ t U=>Ext w U/\∃i:Nat,t=Δ i/\i<=l.length/\∀x∈l.take i,jT x,λ_ t _=>l.length-(bY t).toNat,⟨Ext.refl _,0,rfl,X9 _,Ξ⟩,?_⟩;rintro _ _ U ⟨J,i,rfl,hi,e⟩;simp only[aW,ao];refine⟨λA=>?_,λB=>⟨J,-1,rfl,?_⟩⟩
 .obtain⟨x,f⟩:=aK (l:=l) (i:=i) Ω;rw[bm av.u al.i Ψ (h.W J) f];show aq x7 uh [Δ x] U _;refine Mi.Y ?_;rintro _ ab _ ⟨rfl,j⟩;simp only[ao,aR];refine⟨λq=>⟨J.F j,i,rfl,?_⟩,λr=>?_⟩
  .exact propext ⟨λ_ s=>q (s x (x6 f)),λ_=>Ω⟩
  .rw[hx Ω Ω];refine⟨⟨J.F j,i+1,rfl,Ω,λy a=>?_⟩,?_⟩
   .rw[u7,f]at a;rcases j5.1 a with a|a
    .exact e y a
    .simp at a;subst a;exact X0.1 r
   .simp only[bY];omega
 .have:i=l.length:=Ω
  rw[this,o6]at e;exact propext ⟨λh=>Ω,λh=>m2 e h⟩
theorem Mk(h:aQ .i64 w sv l):
  aq x7 xe [sv,.func (.func uh) #[] #[]] w λv I=>v= .bool (decide (¬∀x∈l,jT x))/\Ext w I:=by
 refine aF func231 ?_;refine(Mj h).Y ?_;rintro _ U _ ⟨J,n,rfl,a⟩;simp only[cJ];exact⟨by congr 1;simp only[a],J⟩
def Ml(w:x4)(l:Λ)(v:x1)(I:x4):Prop:=
 Ext w I/\
   (¬cg l->v= .tuple #[.agg #[.slice ν 0 0],Δ 1])/\
   (cg l->4096<aX l->v= .tuple #[.agg #[.slice ν 0 0],Δ 5])/\
   (cg l->aX l<=4096->∃g aV,v= .tuple #[.agg #[aV],Δ 0]/\w.heap.size<=g/\aH .i64 al I g aV l)
theorem Mm(h:aQ .i64 w sv l):aq x7 Lr [sv] w (Ml w l):=by
 refine aF func257 ?_;refine bC bL.i λag U ai a q=>?_;have aj:=q.lt;refine a1 (λv ab=>Ext w ab/\Ext U ab/\∃c:Bool,v= .bool c/\((c=ms)=¬cg l)) ?_ ?_
 .rintro _ ab ⟨J,s,c,rfl,E⟩;simp only[b1];refine⟨λR=>?_,λah=>?_⟩
  .have G:¬cg l:=by rw[<-E];exact R
   rw[dk (cs:=#[.slice ν 0 0]) Ψ];refine b8 (vs:=[.slice ν 0 0]) bL.i rfl rfl (by simp;rfl) (q.W s) ?_;intro ak S al W;rw[gk bL.p bL.i rfl W.range];exact⟨J.then S (by rintro r x rfl;omega),λ_=>rfl,λh=>m2 h G,λh=>m2 h G⟩
  .have e:cg l:=by
    have H:¬(c=ms):=by simp[ah]
    rw[E]at H;exact Classical.not_not.1 H
   have am:=e.1;refine(mL (h.W J) Ω).Y ?_;rintro aV an _ ⟨y,X,ap,hm⟩;have I:=hm.ls.cells;rw[dk (cs:=#[aV]) (by obtain⟨_,_,_,_,_,rfl,_⟩:=hm.ls;kernel_rfl)];refine bC bL.i λgs au aw z Y=>?_;refine b8 (vs:=[aV]) bL.i rfl rfl (by intro u hu;simp at hu;subst hu;exact I.2) Y ?_;intro ax K ay L;rw[bF bL.p bL.i rfl L.range];have az:=y.size;have aB:=z.size;have aC:=s.size;have aD:=(z.aa _).F K;have A:=z.then K (by rintro r x rfl;omega);have Z:=(J.F y).F A;have M:=hm.W A;refine(qT M.ls e).Y ?_;rintro _ aE _ ⟨rfl,f⟩;have N:=Z.F f;have O:=q.W (((s.F y).F A).F f);simp only[bU,ao];refine⟨λac=>?_,λad=>?_⟩
   .rw[dk (cs:=#[.slice ν 0 0]) Ψ];refine b8 (vs:=[.slice ν 0 0]) bL.i rfl rfl (by simp;rfl) O ?_;intro ae j af B;rw[gk bL.p bL.i rfl B.range];exact⟨N.then j (by rintro r x rfl;omega),λh=>m2 e h,λ_ _=>rfl,λ_ h=>Ω⟩
   .rw[bF bL.p bL.i rfl (L.W f).range];refine b8 (vs:=[aV]) bL.i rfl rfl (by intro u hu;simp at hu;subst hu;exact I.2) O ?_;intro ae j af B;rw[gk bL.p bL.i rfl B.range];have aG:=a.size;exact⟨N.then j (by rintro r x rfl;omega),λh=>m2 e h,λ_ h=>Ω,λ_ _=>⟨X,aV,rfl,Ω,(M.W f).aa j Ω⟩⟩
 .intro aA P;rw[a7 av.u (h.W a)];simp only[bU,ao];refine⟨λac=>P _ _ ⟨a,Ext.refl _,ms,rfl,?_⟩,λad=>?_⟩
  .exact propext ⟨λ_ V=>by have:=V.1;omega,λ_=>rfl⟩
  .refine (Mk (h.W a)).Y ?_;rintro _ ab _ ⟨rfl,Q⟩;refine P _ _ ⟨a.F Q,Q,_,rfl,?_⟩;rw[m6];exact propext ⟨λC V=>C V.2,λC V=>C ⟨Ω,V⟩⟩
theorem xu{P:W5}(f:0<=a)(h1:a<4294967296):
  ad P (aU .and t cx cy (.int .u64 a) (.int .u64 4294967295)) w K=K (.int .u64 a):=ad.of λI _=>by
 obtain⟨n,rfl⟩:=Y6 f;have r:n<4294967296:=Ω
 have e:(U8 64 (n:Int) &&& U8 64 4294967295).toNat=n:=by
  rw[BitVec.toNat_and,BitVec.toNat_ofInt,BitVec.toNat_ofInt];have h:((n:Int) % ((2 ^ 64:Nat):Int)).toNat=n:=Ω
  have j:((4294967295:Int) % ((2 ^ 64:Nat):Int)).toNat=2 ^ 32-1:=Φ
  rw[h,j,Nat.and_two_pow_sub_one_eq_mod];omega
 have q:(U8 U5.bits (n:Int) &&& U8 U5.bits 4294967295).toNat=n:=e;simp only[aU,eqGuard,binOp,Op.intBits,q];rw[lc Ω Ω];rfl
theorem r5{P:W5}(f:0<=a)(h1:a<4294967296):
  ad P (aU .shr t cx cy (.int .u64 a) (.int .u64 32)) w K=K (.int .u64 0):=ad.of λI _=>by
 have e:a.fdiv (2 ^ min 32 U5.bits)=0:=by
  have:(2:Int) ^ min 32 U5.bits=4294967296:=rfl;rw[this,Int.fdiv_eq_ediv_of_nonneg _ Ω];omega
 simp[aU,eqGuard,binOp,Op.shift,e]
theorem Mn{x:Int}(J:0<=x/\x<65536)(a:0<=y/\y<65536):
  aq x7 LL [.int .u64 x,.int .u64 y] w λv I=>v= .tuple #[.int .u64 0,.int .u64 (x*y)]/\Ext w I:=by
 have f:0<=x*y/\x*y<4294967296:=⟨Int.mul_nonneg J.1 a.1,by
  have:x*y<=65535*65535:=Int.mul_le_mul Ω Ω a.1 Ω;omega⟩
 refine aF func294 ?_;refine aq.Y (K:=λv I=>v= .tuple #[.int .u64 0,.int .u64 (x*y)]/\Ext w I) ?_ ?_
 .refine aF func309 ?_;rw[xu Ω Ω,r5 Ω Ω,xu Ω Ω,r5 Ω Ω];simp only[iv,Int.zero_mul,Int.mul_zero];rw[lc Ω Ω,show U5.wrap 0=0 from rfl,r5 Ω Ω];simp only[aR,Int.add_zero];rw[show U5.wrap 0=0 from rfl,xu Ω Ω,r5 Ω Ω];simp only[iv,aR,Int.zero_mul,Int.mul_zero,Int.add_zero,show U5.wrap 0=0 from rfl];rw[r5 Ω Ω];simp only[iv,aR,Int.add_zero,show U5.wrap 0=0 from rfl];exact⟨trivial,Ext.refl _⟩
 .rintro _ U _ ⟨rfl,e⟩;rw[bx,bz];exact⟨rfl,e⟩
theorem Ca{dr:x1}{c:Int}(h:aQ .i64 w dr [c])(X:n<65536):
  aq x7 Ls [dr,Δ n] w λv I=>Ext w I/\∃g,w.heap.size<=g/\aH .i64 ax I g v (r9 n c):=by
 refine aF func258 ?_;refine cZ (λU=>w=U) ?_ ?_
 .rintro _ rfl;rw[a7 aC.u h,fN al.u qL.u,fN al.u qL.u,lc Ξ Ξ,lc Ω Ω];refine(Mn Ξ Ω).Y ?_;rintro _ ab _ ⟨rfl,y⟩;rw[bx,bz];have C:(([c].length:Int)*n)=(n:Int):=Ξ
  rw[C];refine cZ (λa=>ab=a) ?_ ?_
  .rintro _ rfl;rw[fN qL.u al.u,hx Ω Ω];refine lk aC.u ax.i Ω Ω ?_;intro g Y Z E G;have J:=y.F E;have aa:=y.size;refine BW aC.u ax.i G (λ_=>rfl) Ξ (h.W J) (r2 _ _) ?_;intro ac H ad z;have K:=J.then H (by rintro r L rfl;omega);have st:over (ints .i64 (r9 n 0)) 0 ((ints .i64 [c]).take n)=ints .i64 (r9 (min 1 n) c++r9 (n-min 1 n) 0):=by
    rcases Nat.eq_zero_or_pos n with rfl|ae
    .simp[over]
    .rw[j4 Θ,oA Θ];have:min 1 n=1:=Ω
     simp[this,ints]
   rw[st]at z;refine⟨λt e=>Ext w e/\∃i:Nat,t=Δ i/\i<=n/\(0<n->0<i)/\ai e g ax (ints .i64 (r9 i c++r9 (n-i) 0)),λt _=>n-(bY t).toNat,
    ⟨K,min 1 n,Ξ,Ω,Ω,z⟩,?_⟩
   rintro _ e ⟨f,i,rfl,hi,af,q⟩;simp only[je aC.u,aW,ao,eP];refine⟨λM N s _ _=>?_,λag=>?_⟩
   .have M:i<n:=Ω
    have A:=q.W s;rw[gW aC.u ax.i pB kp fc Ω Ω Ω,
     gW aC.u ax.i ko pE fc Ω Ω Ω]
    have O:cn N 1 (.slice (σ ⟨g,0,ν⟩) n n) n (ints .i64 (r9 i c++r9 (n-i) 0)):=(b7.full A (by simp<;>omega) (by simp[maxLen]<;>omega)).sl;have ae:=O.part (l:=0) (h:=i) (m:=n) Ω Ω Ω Ω;have P:((ints .i64 (r9 i c++r9 (n-i) 0)).drop (0*1)).take ((i-0)*1)=ints .i64 (r9 i c):=by
     simp[ints]
    rw[P]at ae;refine BW aC.u ax.i A (o:=i) (λ_=>?_) (by simp<;>omega) ae (r2 _ _) ?_
    .rw[m1 Ω];simp[U6]
    .intro ah Q aj B;have ak:=f.size;have am:=s.size;have R:over (ints .i64 (r9 i c++r9 (n-i) 0)) i ((ints .i64 (r9 i c)).take (n-i))=ints .i64 (r9 (i+min i (n-i)) c++r9 (n-(i+min i (n-i))) 0):=by
      apply Y5;intro j;rw[qQ _ _ _ (by simp[ints]<;>omega)];simp only[ints,Z2,List.map_replicate,List.getElem?_append,List.getElem?_take,List.getElem?_replicate,j9,List.length_replicate]
      repeat' split
      all_goals first|rfl|omega
     rw[R]at B;have S:min (i-0) (n-i)=min i (n-i):=Ω
     simp only[aR,S];have V:X3.wrap ((i:Int)+((min i (n-i):Nat):Int))=((i+min i (n-i):Nat):Int):=by rw[hx Ω Ω];omega
     rw[V];refine⟨⟨(f.F s).then Q (by rintro r L rfl;omega),_,rfl,Ω,Ω,B⟩,?_⟩;simp only[bY,u5];omega
   .have:i=n:=Ω
    subst this;rw[V8,List.replicate_zero,V2]at q;exact⟨f,g,Ω,aH.of (b7.full q Ξ (by simp[maxLen];omega))⟩
  .intro aA x;refine a1 (λv a=>v= .bool ne/\ab=a) ?_ ?_
   .rintro _ _ ⟨rfl,rfl⟩;rw[a6];exact x _ rfl
   .intro an W;simp only[bU,ao];refine⟨λh=>Ω,λ_=>W _ _ ⟨?_,rfl⟩⟩;rw[m5];omega
 .intro aA x;simp only[aW,ao];exact⟨λh=>Ω,λ_=>x _ rfl⟩
def hv(v:x1)(r:Nat):Prop:=∃a n c,v= .slice (σ a) n c/\a.block=r
theorem b5{g:Nat}(h:aH k e w g v l){r:Nat}(f:hv v r):r=g/\g<w.heap.size:=by
 obtain⟨a,n,c,rfl,rfl⟩:=f;obtain⟨_,⟨h,_⟩|⟨cap,cs,h,j,_⟩⟩:=h
 .cases h
 .cases h;exact⟨rfl,j.lt⟩
theorem bB{g:Nat}(h:aH k e w g v l)(J:aj S w I)(a:∀r,hv v r->¬S r):aH k e I g v l:=by
 refine⟨h.1,h.2.imp id λ⟨cap,cs,h1,f,j⟩=>⟨cap,cs,h1,f.aa J (a g ⟨_,_,_,h1,rfl⟩),j⟩⟩
def ds(w:x4)(g a:Nat)(sv:x1)(am:Λ)(k:Int)(cs:Λ):Prop:=
 (∃bd gs,ai w g c4 [sv,Δ k,bd]/\aH .i64 al w gs sv am/\aH .i64 ax w a bd cs)/\(g≠a/\¬hv sv a/\aX am<=4096)/\cg am/\cs.length=(aX am).toNat
theorem ds.W{g a:Nat}{k:Int}{cs:Λ}(h:ds w g a sv am k cs)(J:Ext w I):ds I g a sv am k cs:=by
 obtain⟨⟨bd,gs,h1,e,f⟩,j⟩:=h;exact⟨⟨bd,gs,h1.W J,e.W J,f.W J⟩,j⟩
def Cb(w:x4)(l:Λ)(k a:Int)(v:x1)(I:x4):Prop:=
 Ext w I/\
  (¬cg l->v= .tuple #[.pointer ν,Δ 1])/\
  (cg l->4096<aX l->v= .tuple #[.pointer ν,Δ 5])/\
  (cg l->aX l<=4096->¬cA a k->v= .tuple #[.pointer ν,Δ 3])/\
  (cg l->aX l<=4096->cA a k->∃g e sv,v= .tuple #[Γ g,Δ 0]/\w.heap.size<=g/\w.heap.size<=e/\(∀r,hv sv r->w.heap.size<=r)/\
   ds I g e sv l k (r9 (aX l).toNat a))
theorem xv{k z:Int}(h:aQ .i64 w sv l):aq x7 KM [sv,Δ k,Δ z] w (Cb w l k z):=by
 refine aF func197 ?_;refine(Mm h).Y ?_;rintro v U _ ⟨I,W,X,Y⟩;obtain⟨aV,e,rfl,Z,he⟩:∃(aV:x1)(e:Int),v= .tuple #[.agg #[aV],Δ e]/\aV.oneCell'=ms/\
   ((e=1/\¬cg l)\/(e=5/\cg l/\4096<aX l)\/(e=0/\cg l/\aX l<=4096/\∃g,w.heap.size<=g/\aH .i64 al U g aV l)):=by
  by_cases V:cg l
  .by_cases ae:aX l<=4096
   .obtain⟨g,aV,rfl,h1,J⟩:=Y V ae;exact⟨aV,0,rfl,J.ls.cells.2,.inr (.inr ⟨rfl,V,ae,g,h1,J⟩)⟩
   .exact⟨_,_,X V Ω,rfl,.inr (.inl ⟨rfl,V,Ω⟩)⟩
  .exact⟨_,_,W V,rfl,.inl ⟨rfl,V⟩⟩
 rw[bx,bz];refine bC bL.i λaJ ab aK aa ac=>?_;refine b8 (vs:=[aV]) bL.i rfl rfl (by intro u hu;simp at hu;subst hu;exact Z) ac ?_;intro aL af aN ag;have K:=aa.then af (by rintro r j rfl;omega);have L:=I.F K;simp only[bG,ao];refine⟨λai=>⟨L,?_⟩,λaO=>?_⟩
 .rcases he with⟨rfl,A⟩|⟨rfl,V,ae⟩|⟨rfl,_⟩
  .exact⟨λ_=>rfl,λh=>m2 h A,λh=>m2 h A,λh=>m2 h A⟩
  .exact⟨λh=>m2 V h,λ_ _=>rfl,λ_ h=>Ω,λ_ h=>Ω⟩
  .exact m2 rfl ai
 .obtain⟨rfl,V,ae,gs,aP,hm⟩:e=0/\cg l/\aX l<=4096/\∃g,w.heap.size<=g/\aH .i64 al U g aV l:=by
   rcases he with⟨rfl,A⟩|⟨rfl,V,ae⟩|h
   .omega
   .omega
   .exact h
  have aR:=prod_bound V;refine ln.Y ?_;rintro _ aS _ ⟨rfl,C⟩;have M:=L.F C;simp only[bE,b1];refine⟨λah=>⟨M,λh=>m2 V h,λ_ h=>Ω,λ_ _ _=>rfl,λ_ _ h=>by simp[h]at ah⟩,λaj=>?_⟩;have ak:cA z k:=by simpa using aj
  simp only[cC,eP];intro N E _ _;have am:=M.F E;have B:=(K.F C).F E;have O:=(ag.W C).W E;rw[bF bL.p bL.i rfl O.range,bF bL.p bL.i rfl O.range];have s1:=I.size;have aT:=B.size;have P:((aX l).toNat:Int)=aX l:=Ω
  have Q:∀{x:x4}{s:x1}{y:Nat},Ext N x->N.heap.size<=y->aH .i64 ax x y s (r9 (aX l).toNat z)->
    ad x7 (Instr.build c4 #[(0,.agg #[aV]),(1,Δ k),(2,s)]) x λan=>aM x7 (Instr.box c4 an) x λap R=>Cb w l k z (.tuple #[ap,Δ 0]) R:=by
   intro x s y q S j;rw[dk (cs:=#[aV,Δ k,s]) (by
    obtain⟨_,_,_,_,_,rfl,_⟩:=j.ls;obtain⟨_,_,_,_,_,rfl,_⟩:=hm.ls;kernel_rfl)]
   refine bo λg R aU G av=>?_;have aW:=q.size;have aw:hv s y:=by
    obtain⟨aY,⟨_,ay⟩|⟨cap,cs,rfl,_⟩⟩:=j
    .simp at ay;omega
    .exact⟨_,_,_,rfl,rfl⟩
   have aZ:=(b5 j aw).2;refine⟨(am.F q).F G,λh=>m2 V h,λ_ h=>Ω,λ_ _ h=>m2 ak h,λ_ _ _=>⟨g,y,aV,rfl,Ω,Ω,λr az=>?_,⟨s,gs,av,((hm.W B).W q).W G,j.W G⟩,⟨Ω,λaA=>?_,ae⟩,V,Ξ⟩⟩
   .have:=(b5 hm az).1;omega
   .have:=b5 hm aA;omega
  constructor
  .refine eI aC.u ax.i rfl λdr au aB aD a H=>⟨.inl a,?_⟩;refine(qT ((hm.W B).W a).ls V).Y ?_;rintro _ aE _ ⟨rfl,f⟩;refine⟨.inl (a.F f),?_⟩;rw[<-P];refine(Ca (H.W f).ls Ω).Y ?_;rintro s x _ ⟨q,y,S,j⟩;have aG:=a.size;have aI:=f.size;exact⟨.inl ((a.F f).F q),Q ((a.F f).F q) Ω j⟩
  .refine (qT (hm.W B).ls V).Y ?_;rintro _ aB _ ⟨rfl,a⟩;refine⟨.inl a,?_⟩;refine eI aC.u ax.i rfl λdr au aE aD f H=>⟨.inl (a.F f),?_⟩;rw[<-P];refine(Ca H.ls Ω).Y ?_;rintro s x _ ⟨q,y,S,j⟩;have aG:=a.size;have aI:=f.size;exact⟨.inl ((a.F f).F q),Q ((a.F f).F q) Ω j⟩
theorem pL{g:Nat}{a:List x1}{o:Nat}(h:ai w g e cs)(f:∀j v,a[j]?=σ v->cs[o+j]?=σ v):w.rangeAt g o a:=λj v ac=>h.cell (f j v ac)
theorem Cc{g a:Nat}{t:Λ}{k:Int}{cs:Λ}(h:ds w g a sv am k cs)(e:aQ .i64 w aV t):
  aq x7 Lw [Γ g,aV] w λv I=>v=mK am t/\Ext w I:=by
 obtain⟨⟨bd,gs,f,hm,q⟩,_,V,_⟩:=h;refine aF func263 ?_;rw[cT fp.u];simp only[l9,a6];rw[bR,aY c4.p rfl,bF (cs:=[sv]) bL.p bL.i rfl (pL f (by
  intro j v ac
  match j,ac with
  |0,ac=>exact ac))]
 refine(B9 hm.ls e V).Y ?_;rintro _ U _ ⟨rfl,J⟩;unfold mK;cases ct am t 0 with
 |none=>rw[bx,bz];exact⟨rfl,J⟩
 |some n=>rw[bx,bz];exact⟨rfl,J⟩
def uv(am t cs:Λ):x1:=match ct am t 0 with
 |some n=>.tuple #[Δ (cs.getD n.toNat 0),Δ 0]
 |none=>.tuple #[Δ 0,Δ 3]
theorem Cd{t cs:Λ}{n:Int}(V:cg am)(a:cs.length=(aX am).toNat)(h:ct am t 0=σ n):n=(n.toNat:Int)/\n.toNat<cs.length:=by
 have:=pK V.2 h;simp only[Int.zero_mul,Int.zero_add,Int.one_mul]at this;omega
theorem xw{g e:Nat}{t:Λ}{k:Int}{cs:Λ}(h:ds w g e sv am k cs)(f:aQ .i64 w aV t):
  aq x7 Lo [Γ g,aV] w λv I=>v=uv am t cs/\Ext w I:=by
 refine aF func248 ?_;refine(Cc h f).Y ?_;rintro _ U _ ⟨rfl,J⟩;obtain⟨⟨bd,gs,j,hm,q⟩,_,V,r⟩:=h.W J;unfold mK uv;cases hi:ct am t 0 with
 |none=>
  rw[bx,bz];simp only[bG,ao];exact⟨λ_=>⟨trivial,J⟩,λh=>by simp at h⟩
 |some n=>
  obtain⟨s,a⟩:=Cd V r hi;rw[bx,bz];simp only[bG,ao];refine⟨λh=>m2 rfl h,λ_=>?_⟩;rw[aL c4.p 2 j rfl,
   fO s aC.u ax.i Ψ q.ls (x8 a)]
  refine⟨?_,J⟩;rw[p8,x8 a];rfl
def uw(am t:Λ)(k c:Int)(cs:Λ):Λ:=match ct am t 0 with
 |some n=>if cA c k then cs.set n.toNat c else cs
 |none=>cs
def Ce(am t:Λ)(k c:Int):Int:=match ct am t 0 with
 |some _=>if cA c k then 0 else 3
 |none=>3
theorem Mo{g e:Nat}{t:Λ}{k c:Int}{cs:Λ}(h:ds w g e sv am k cs)(B:aQ .i64 w aV t):
  aq x7 KO [Γ g,aV,Δ c] w λv I=>v=Δ (Ce am t k c)/\aj (λr=>r=e) w I/\ds I g e sv am k (uw am t k c cs):=by
 refine aF func199 ?_;refine(Cc h B).Y ?_;rintro _ U _ ⟨rfl,J⟩;have h1:=h.W J;obtain⟨⟨bd,gs,a,hm,f⟩,_,V,j⟩:=h1;unfold mK Ce uw;cases hi:ct am t 0 with
 |none=>
  rw[bx,bz];simp only[bG,ao];exact⟨λ_=>⟨trivial,J.aa _,h.W J⟩,λh=>by simp at h⟩
 |some n=>
  obtain⟨O,P⟩:=Cd V j hi;rw[bx,bz];simp only[bG,ao];refine⟨λh=>m2 rfl h,λ_=>?_⟩;rw[aL c4.p 1 a rfl];refine ln.Y ?_;rintro _ ab _ ⟨rfl,q⟩;have x:=(h.W J).W q;by_cases y:cA c k
  .simp only[y,decide_true,bE,Y1,a6,if_true];obtain⟨⟨bd,gs,a,hm,f⟩,⟨C,z⟩,V,j⟩:=x;have Q:=f;obtain⟨R,⟨rfl,S⟩|⟨cap,full,rfl,E,G,H,K,A⟩⟩:=f
   .omega
   .rw[aL c4.p 2 a rfl,
     BS aC.u ax.i Ω Ω (λ_=>rfl)]
    refine bs ax.i rfl rfl E Ω ?_;intro W s X L;refine⟨trivial,((J.F q).aa _).F s,⟨_,gs,a.aa s Ω,bB hm s (λr M N=>z.1 (N▸M)),?_⟩,⟨C,z⟩,V,by simp[j]⟩;refine⟨Ξ,.inr ⟨cap,full.set (0+n.toNat*1) (Δ c),?_,L,by simpa using G,H,by simpa using K,?_⟩⟩
    .simp
    .simp only[Z5,V7,T1]at A ⊢;rw[List.take_set,A,ints,ints,U4]
  .simp only[y,decide_false,bE,X4,bK,if_false];exact⟨trivial,(J.F q).aa _,x⟩
def cW(b:Int):Bool:=decide (b=32\/b=9\/b=10\/b=13)
def ca(b:Int):Bool:=decide (33<=b/\b<=126)
def pM:Nat->Λ->List (Λ)×Bool
 |0,_=>([],ms)
 |n+1,p=>
  match p.dropWhile cW with
  |[]=>([],ms)
  |b::q=>
   if ca b then
    match(b::q).dropWhile ca with
    |[]=>([(b::q).takeWhile ca],ms)
    |c::r=>if cW c then(((b::q).takeWhile ca)::(pM n (c::r)).1,(pM n (c::r)).2)else([],ne)
   else([],ne)
def lex(p:Λ):List (Λ)×Bool:=pM (p.length+1) p
theorem qU(f:Int->Bool):∀(l:Λ),(l.dropWhile f).length<=l.length
 |[]=>p9 _
 |x::l=>by
  rw[List.dropWhile_cons];split
  .exact Y7 (qU f l) (Nat.le_succ _)
  omega
theorem ux{f:Int->Bool}{x:Int}(h:f x=ms):((x::l).dropWhile f).length<=l.length:=by
 grind [List.dropWhile_cons,qU]
theorem Cf:∀{n m:Nat}{p:Λ},p.length<n->p.length<m->pM n p=pM m p
 |n+1,m+1,p,j,hm=>by
  unfold pM;have h1:=qU cW p;cases f:p.dropWhile cW with
  |nil=>rfl
  |cons b q=>
   rw[f]at h1;simp only;by_cases a:ca b=ms
   .rw[lw a,lw a];have e:=ux (l:=q) a;cases h:(b::q).dropWhile ca with
    |nil=>rfl
    |cons c r=>
     rw[h]at e;simp only[X5]at h1 e;simp only;rw[Cf (n:=n) (m:=m) (p:=c::r) (by grind) (by grind)]
   grind
theorem mM(p:Λ):lex p=match p.dropWhile cW with
  |[]=>([],ms)
  |b::q=>
   if ca b then
    match(b::q).dropWhile ca with
    |[]=>([(b::q).takeWhile ca],ms)
    |c::r=>if cW c then(((b::q).takeWhile ca)::(lex (c::r)).1,(lex (c::r)).2)else([],ne)
   else([],ne):=by
 unfold lex
 conv=>lhs;unfold pM
 have h1:=qU cW p;cases a:p.dropWhile cW<;>grind [ux,Cf]
theorem r6:∀(n:Nat)(p:Λ),p.length<=n->(lex p).1.length<=p.length
 |n,p,s=>by
  rw[mM];have h1:=qU cW p;cases f:p.dropWhile cW with
  |nil=>simp
  |cons b q=>
   rw[f]at h1;simp only;by_cases a:ca b=ms
   .rw[lw a];have e:=ux (l:=q) a;cases h:(b::q).dropWhile ca with
    |nil=>grind
    |cons c r=>
     rw[h]at e;simp only[X5]at h1 e;simp only;by_cases j:cW c=ms
     .rw[lw j]
      match n with
      |0=>omega
      |n+1=>
       have:=r6 n (c::r) (by grind)
       grind
     grind
   grind
theorem uy:∀(n:Nat)(p:Λ),p.length<=n->∀w∈(lex p).1,w≠[]/\(∀b∈w,ca b=ms)/\w.length<=p.length
 |n,p,y,w,hw=>by
  rw[mM]at hw;have h1:=qU cW p;cases f:p.dropWhile cW with
  |nil=>grind
  |cons b q=>
   rw[f]at h1 hw;simp only at hw;have z:(b::q).length<=p.length:=h1;by_cases a:ca b=ms
   .rw[lw a]at hw;have e:=ux (l:=q) a;have h:(b::q).takeWhile ca≠[]/\(∀x∈(b::q).takeWhile ca,ca x=ms)/\((b::q).takeWhile ca).length<=p.length:=
     by grind [List.takeWhile_cons,List.all_takeWhile,List.takeWhile_sublist]
    cases j:(b::q).dropWhile ca with
    |nil=>
     grind
    |cons c r=>
     rw[j]at e hw;simp only[X5]at h1 e;simp only at hw;by_cases s:cW c=ms
     .rw[lw s]at hw;rcases List.mem_cons.1 hw with rfl|hw
      .exact h
      .match n with
       |0=>omega
       |n+1=>
        have:=uy n (c::r) (by grind) w hw
        grind
     grind
   grind
def aG:Int:=4611686018427387904
def gX(b:Int):Bool:=decide (48<=b/\b<=57)
def fT(n b:Int):Int:=min aG (10*n+(b-48))
def l0:Λ->Option Int
 |[]=>ν
 |l=>if l.all gX then σ (l.foldl fT 0)else ν
def ix:Λ->Option Int
 |45::l=>(l0 l).map λn=>-n
 |l=>l0 l
theorem xx:∀{l:Λ}{n:Int},l.all gX=ms->0<=n/\n<=aG->0<=l.foldl fT n/\l.foldl fT n<=aG
 :=by
 intro a;induction a<;>grind [gX,fT]
structure aN where
 d9:List (Λ)
 li:Int
 big:Bool
 lm:List (Λ×List (Λ×Int))
deriving DecidableEq
def eg(s:aN):Option (Λ×aN):=match s.d9 with
 |[]=>ν
 |w::l=>σ (w,{s with d9:=l})
def br(lo hi:Int)(s:aN):Option (Int×aN):=match eg s with
 |none=>ν
 |some (w,s)=>match ix w with
  |none=>ν
  |some n=>if lo<=n/\n<=hi then σ (n,s)else ν
def bp(b:Bool)(s:aN):aN:={s with big:=s.big||b}
def c6{α:Type}(f:List α->aN->Option (α×aN)):Nat->List α->aN->Option (List α×aN)
 |0,acc,s=>σ (acc,s)
 |n+1,acc,s=>match f acc s with
  |none=>ν
  |some (a,s)=>c6 f n (acc++[a]) s
def fs(n:Int)(a:Nat)(s:aN):Option (Λ×aN):=c6 (λacc s=>match br 0 (n-1) s with
 |none=>ν
 |some (v,s)=>if v∈acc then ν else σ (v,s)) a [] s
def kR:Λ->Λ->aN->Option (Λ×aN)
 |[],acc,s=>σ (acc,s)
 |k::l,acc,s=>match br 0 (k-1) s with
  |none=>ν
  |some (v,s)=>kR l (acc++[v]) s
def eX(d6:Λ)(acc:List (Λ×Int))(s:aN):Option ((Λ×Int)×aN):=match kR d6 [] s with
 |none=>ν
 |some (t,s)=>match br 0 aG s with
  |none=>ν
  |some (c,s)=>if t∈acc.map (·.1)then ν else σ ((t,c),s)
def eh(d6:Λ)(s:aN):Option (List (Λ×Int)×aN):=match br (-aG) aG s with
 |none=>ν
 |some (n,s)=>
  if n<0 then match s.lm[(-n-1).toNat]? with
   |none=>ν
   |some (z,l)=>if z=d6 then σ (l,s)else ν
  else c6 (eX d6) n.toNat [] (bp (decide (16384<min (s.li+n) aG)) {s with li:=min (s.li+n) aG})
def dM(d6:Λ):Bool:=decide (4096<aX (d6.map λk=>min k 4097))
structure cE where
 scope:Λ
 d6:Λ
 other:Int
 lines:List (Λ×Int)
deriving DecidableEq
def dz(all:Λ)(s:aN):Option (cE×aN):=match br (-aG) aG s with
 |none=>ν
 |some (a,s)=>match fs all.length a.natAbs s with
  |none=>ν
  |some (scope,s)=>
   let d6:=scope.map λv=>all.getD v.toNat 0
   match br 0 aG (bp (decide (6<a.natAbs)||dM d6) s)with
   |none=>ν
   |some (other,s)=>match eh d6 s with
    |none=>ν
    |some (lines,s)=>σ (⟨scope,d6,other,lines⟩,if a<0 then{s with lm:=s.lm++[(d6,lines)]}else s)
def gY(most:Int)(_:Λ)(s:aN):Option (Int×aN):=match br 1 most s with
 |none=>ν
 |some (z,s)=>σ (z,bp (decide (32<z)) s)
structure cd where
 name:Λ
 k:Int
 d6:Λ
 d8:List cE
deriving DecidableEq
def jU(s:aN):Option (cd×aN):=match eg s with
 |none=>ν
 |some (name,s)=>match br 1 aG (bp (decide (64<name.length)) s)with
  |none=>ν
  |some (n,s)=>match br 1 aG (bp (decide (64<n)) s)with
   |none=>ν
   |some (most,s)=>match br 0 aG s with
    |none=>ν
    |some (a,s)=>match br 1 aG (bp (decide (256<a)) s)with
     |none=>ν
     |some (k,s)=>match c6 (gY most) n.toNat [] (bp (decide (2147483648<k)) s)with
      |none=>ν
      |some (d6,s)=>match c6 (λ_ s=>dz d6 s) a.toNat [] s with
       |none=>ν
       |some (d8,s)=>σ (⟨name,k,d6,d8⟩,s)
def iy(p:Λ):Option cd:=if 65536<p.length then ν else match jU ⟨(lex p).1,0,ne,[]⟩with
 |none=>ν
 |some (f,s)=>if s.d9=[]/\(lex p).2=ms/\s.big=ne then σ f else ν
def oD(n:Int)(a:Bool)(v:Int):Prop:=0<=n/\n<=4611686018427387909/\(a=ms->v=aG)/\(a=ne->v=min aG n)
theorem Mp{n b v:Int}{a:Bool}(h:oD n a v)(e:48<=b/\b<=57):
  oD (if a=ms\/461168601842738790<n then n else 10*n+(b-48)) (a||decide (461168601842738790<n)) (fT v b):=by
 obtain⟨h1,f,j,q⟩:=h;unfold fT oD aG at*;cases a<;>grind
theorem Mq:oD 0 ne 0:=by grind [oD,aG]
theorem Mr{n v:Int}{a:Bool}(h:oD n a v):v=if a=ms\/4611686018427387904<n then 4611686018427387904 else n:=by
 obtain⟨h1,e,f,j⟩:=h
 grind [aG]
structure Cell where
 v:Int
 st:Nat
structure l1 where
 i:Nat
 c:Cell
structure pN where
 olds:Nat
 cells:Nat
 st:Nat
structure az where
 cells:List Cell
 olds:List l1
 marks:List pN
 ever:Nat
def az.bT(t:az):Λ:=t.cells.map (·.v)
def az.set(t:az)(i:Nat)(x:Int):az:=match t.cells[i]? with
 |none=>t
 |some c=>match t.marks.getLast? with
  |none=>{t with cells:=t.cells.set i ⟨x,c.st⟩}
  |some m=>if c.st<m.st/\i<m.cells then{t with olds:=t.olds++[⟨i,c⟩],cells:=t.cells.set i ⟨x,m.st⟩}else{t with cells:=t.cells.set i ⟨x,c.st⟩}
def az.grow(t:az)(n:Nat):az:={t with cells:=t.cells++r9 n ⟨0,0⟩}
def az.mark(t:az):az:={t with marks:=t.marks++[⟨t.olds.length,t.cells.length,t.ever+1⟩],ever:=t.ever+1}
def back(os:List l1)(cs:List Cell):List Cell:=os.foldr (λo cs=>cs.set o.i o.c) cs
def az.jh(t:az)(m:Nat):az:=match t.marks[m]? with
 |none=>t
 |some x=>{cells:=(back (t.olds.drop x.olds) t.cells).take x.cells,olds:=t.olds.take x.olds,marks:=t.marks.take m,ever:=t.ever}
theorem xy:∀(os:List l1)(cs:List Cell),(back os cs).length=cs.length
 :=by
 intro a;induction a<;>grind [back]
theorem back_append(a b:List l1)(cs:List Cell):back (a++b) cs=back a (back b cs):=by grind [back]
theorem Ms:∀{os:List l1}{cs:List Cell}{n:Nat},(back os cs).take n=back (os.filter λo=>decide (o.i<n)) (cs.take n)
 :=by
 intro a;induction a<;>grind [back,List.take_set,List.take_set_of_le]
theorem Cg{os:List l1}{cs:List Cell}(h:∀o∈os,o.i<n):(back os cs).take n=back os (cs.take n):=by
 grind [Ms,List.filter_eq_self]
theorem Ch:∀{os:List l1}{cs a:List Cell}{i:Nat},cs.length=a.length->(∃o∈os,o.i=i)->(back os cs)[i]?=(back os a)[i]?
 |[],_,_,_,_,⟨_,h,_⟩=>by cases h
 |o::os,cs,a,i,e,hm=>by
  show((back os cs).set o.i o.c)[i]?=((back os a).set o.i o.c)[i]?;rw[X8,X8];by_cases h:o.i=i
  .grind [xy]
  .rw[m1 h,m1 h];obtain⟨x,J,he⟩:=hm;rcases List.mem_cons.1 J with rfl|J
   .omega
   .exact Ch e ⟨x,J,he⟩
theorem Mt:∀{os:List l1}{cs e:List Cell}{i:Nat},cs[i]?=e[i]? ->cs.length=e.length->(back os cs)[i]?=(back os e)[i]?
 :=by
 intro a;induction a<;>grind [back]
def eR:az->List az->Prop
 |t,[]=>t.marks=[]/\t.olds=[]/\(∀c∈t.cells,c.st<=t.ever)/\t.ever<=1000000
 |t,s::h=>eR s h/\(∀c∈t.cells,c.st<=t.ever)/\∃m new,t.marks=s.marks++[m]/\m.olds=s.olds.length/\m.cells=s.cells.length/\t.olds=s.olds++new/\m.cells<=t.cells.length/\(back new t.cells).take m.cells=s.cells/\
   (∀c∈s.cells,c.st<m.st)/\(∀c∈t.cells,c.st<=m.st)/\(∀(i:Nat)c,i<m.cells->t.cells[i]?=σ c->c.st=m.st->∃o∈new,o.i=i)/\(∀o∈new,o.i<m.cells)/\m.st<=t.ever/\s.ever<=t.ever
theorem eR.len:∀{h:List az}{t:az},eR t h->t.marks.length=h.length
 :=by
 intro a;induction a<;>grind [eR]
theorem eR.Mu{h:List az}{t:az}(hk:eR t h):∀c∈t.cells,c.st<=t.ever:=by
 cases h with
 |nil=>exact hk.2.2.1
 |cons s h=>exact hk.2.1
theorem eR.mark{h:List az}{t:az}(hk:eR t h):eR t.mark (t::h):=by
 have V:=hk.Mu;refine⟨hk,λc a=>Y7 (V c a) (Nat.le_succ _),⟨t.olds.length,t.cells.length,t.ever+1⟩,[],rfl,rfl,rfl,by show t.olds=_;grind,p9 _,?_,by grind,λc a=>Y7 (V c a) (Nat.le_succ _),λi c _ hi he=>?_,by grind,p9 _,Nat.le_succ _⟩
 .show t.cells.take t.cells.length=_
  grind
 .have:=V c (x6 hi)
  grind
theorem eR.grow{h:List az}{t:az}(hk:eR t h):eR (t.grow n) h:=by
 cases h with
 |nil=>
  refine⟨hk.1,hk.2.1,λc a=>?_,hk.2.2.2⟩;rcases j5.1 a with a|a
  .exact hk.2.2.1 c a
  grind
 |cons s h=>
  obtain⟨h1,f,m,new,j,q,a3,a4,a5,A,r,w,a9,x,y,z⟩:=hk;have e:∀{b:Nat},(∀c∈t.cells,c.st<=b)->∀c∈(t.grow n).cells,c.st<=b:=λB c a=>by
   rcases j5.1 a with a|a
   all_goals grind
  refine⟨h1,e f,m,new,j,q,a3,a4,by show m.cells<=(t.cells++_).length;grind,?_,r,e w,λi c hi a he=>?_,x,y,z⟩
  .show (back new (t.cells++_)).take m.cells=_
   grind [Cg]
  .have a:(t.cells++r9 n ⟨0,0⟩)[i]?=σ c:=a
   grind
theorem Mv{s:az}{m:pN}{l:List pN}(h:l=s.marks++[m]):l.getLast? =σ m:=by grind
theorem eR.set{h:List az}{t:az}{i:Nat}{x:Int}(hk:eR t h):eR (t.set i x) h:=by
 unfold az.set;cases y:t.cells[i]? with
 |none=>exact hk
 |some c=>
  have L:=(x5.1 y).1;have f:=x6 y;have e:∀{b st:Nat},(∀c∈t.cells,c.st<=b)->st<=b->∀d∈t.cells.set i ⟨x,st⟩,d.st<=b:=by grind
  cases h with
  |nil=>
   obtain⟨h1,a,z,G⟩:=hk;simp only[h1,List.getLast?_nil];exact⟨rfl,a,e z (z c f),G⟩
  |cons s h=>
   obtain⟨h1,a,m,new,q,A,a3,a4,a5,H,B,C,a9,I,r,E⟩:=hk;simp only[Mv q];by_cases F:c.st<m.st/\i<m.cells
   .rw[lw F];refine⟨h1,e a r,m,new++[⟨i,c⟩],q,A,a3,by grind,by grind,?_,B,by grind,λj d J w he=>?_,λo aE=>?_,r,E⟩
    .show (back (new++[⟨i,c⟩]) (t.cells.set i _)).take m.cells=_;rw[back_append];have:back [⟨i,c⟩] (t.cells.set i ⟨x,m.st⟩)=t.cells:=by
      show(t.cells.set i _).set i c=_;rw[List.set_set];refine Y5 λj=>?_
      grind
     grind
    .have w:(t.cells.set i ⟨x,m.st⟩)[j]?=σ d:=w;by_cases K:i=j
     .exact⟨⟨i,c⟩,Ξ,K⟩
     grind
    grind
   .rw[m1 F];refine⟨h1,e a (a c f),m,new,q,A,a3,a4,by grind,?_,B,e C (C c f),λj d J w he=>?_,I,r,E⟩
    .rw[<-H];show(back new (t.cells.set i _)).take m.cells=_;refine Y5 λj=>?_
     grind [Ch,Mt]
    grind
theorem eR.jh:∀{h:List az}{t:az}{m:Nat}{s:az},eR t h->h.reverse[m]?=σ s->t.jh m={s with ever:=t.ever}/\∃x,t.marks[m]?=σ x/\x.olds=s.olds.length/\x.cells=s.cells.length/\s.cells.length<=t.cells.length/\(∃new,t.olds=s.olds++new/\(back new t.cells).take s.cells.length=s.cells/\∀o∈new,o.i<t.cells.length)/\s.marks=t.marks.take m/\s.ever<=t.ever
 |[],t,m,s,_,V=>by simp at V
 |s1::h,t,m,s,hk,V=>by
  obtain⟨h1,e,mk,new,f,j,a3,a4,a5,q,r,w,a9,y,z,A⟩:=hk;have B:=h1.len;have key:∀{x:pN},t.marks[m]?=σ x->x.olds=s.olds.length->x.cells=s.cells.length->(∃a,t.olds=s.olds++a/\(back a t.cells).take s.cells.length=s.cells)->s.marks=t.marks.take m->t.jh m={s with ever:=t.ever}:=by grind [az.jh]
  rw[List.reverse_cons]at V;by_cases hm:m<h.length
  .rw[V3 (by grind)]at V;obtain⟨_,x,C,E,F,G,⟨a,H,I,K⟩,L,M⟩:=eR.jh h1 V;have J:t.marks[m]?=σ x:=by grind
   have N:t.olds=s.olds++(a++new):=by grind
   have O:(back (a++new) t.cells).take s.cells.length=s.cells:=by
    rw[back_append];have:((back a (back new t.cells)).take mk.cells).take s.cells.length=s.cells:=by
     grind [Cg]
    grind
   grind
  grind [List.take_left]
theorem az.r7{t:az}{i:Nat}{x:Int}:(t.set i x).bT=t.bT.set i x:=by
 grind [az.set,az.bT,List.set_eq_of_length_le,U4]
theorem az.Mw{t:az}:(t.grow n).bT=t.bT++r9 n 0:=by
 grind [az.grow,az.bT,List.map_replicate]
end Go.Proofs.YtlcdcbgoaljiiaaGreatDoor
namespace Go.Vc
open Go Go.RowKit
section
variable{P:W5}{w:x4}{m:Bool}{S R:ak}
theorem uz{b k l:Nat}{low high:Option x1}(j:P.underlying t=σ (.slice e))(hi:aS P e k b z)(ac:cn w k v n cs)(h1:nL low l)(q:nM high n h)(a:l<=h)(aw:h<=n)(r:∀f,cn w k f (h-l) ((cs.drop (l*k)).take ((h-l)*k))->K f):
  ad P (V5 t v low high ν) w K:=by
 have s:=ac;obtain⟨_,x,o,base,cap,rfl,y,_⟩:=ac;rw[gW j hi h1 q fc a Ω (p9 _)];exact r _ (cn.part s a aw Ω (p9 _))
theorem Mx{f:o5}{b i:Nat}(j:y=(i:Int))(q:P.underlying t=σ (.slice e))(hi:aS P e 1 b z)(h:aQ k w v l)(r:i<=l.length)(s:∀a,aQ k w a (l.drop i)->K a):ad P (V5 t v (σ (.int f y)) ν ν) w K:=by
 refine uz q hi h (pC i y j) kp r (p9 _) λa bg=>s a (aQ.of (n:=l.length-i) ?_);have x:((ints k l).drop (i*1)).take ((l.length-i)*1)=ints k (l.drop i):=by
  rw[j4 Ξ,T1,ints,<-List.map_drop]
 rw[x]at bg;exact bg
theorem My{f:o5}{b i:Nat}(j:y=(i:Int))(q:P.underlying t=σ (.slice e))(hi:aS P e 1 b z)(h:aQ k w v l)(r:i<=l.length)(s:∀a,aQ k w a (l.take i)->K a):ad P (V5 t v ν (σ (.int f y)) ν) w K:=by
 refine uz q hi h ko (pD i y j) (X9 _) r λa bg=>s a (aQ.of (n:=i) ?_);have x:((ints k l).drop (0*1)).take ((i-0)*1)=ints k (l.take i):=by
  simp[ints,List.map_take]
 rw[x]at bg;exact bg
theorem nR{b:Nat}{parts:Array (Nat×x1)}{K:x1->x4->Prop}(a:P.underlying t=σ (.slice e))(hi:aS P e 1 b (Δ 0))(s:n<=100000)(f:l.length=n)(ah:Instr.fill (λj=>σ (j*1,1)) ((Array.range (n*1)).map ((if n*1=0 then#[]else(V6 .i64 0).cells)[·% (if n*1=0 then#[]else(V6 .i64 0).cells).size]!)) parts.toList=σ (ints .i64 l).toArray)(h:∀v g I,g=w.heap.size->Ext w I->aH .i64 e I g v l->K v I):aM P (Y3 t n parts) w K:=
 lX a hi Ω ah λg I q J r=>h _ g I q J (aH.of (b7.full (by simpa using r) (by simp[f]) (by simp[maxLen];omega)))
end
section
variable{P:W5}{w:x4}
theorem Mz{h q:r8}{r kn:o5}{b k cap:Nat}{base:Option Addr}{K:x1->x4->Prop}(A:y=(k:Int))(B:P.underlying t=σ (.slice e))(C:P.underlying h=σ (.int kn))(hi:aS P e 1 b z)(E:z.cells= #[z])(V:cn w 1 (.slice base n cap) n xs)(F:0<k)(s:cap<n+k)(G:(n+k)*b<=140737488355328)(H:n+k<=9223372036854775807)(J:∀v g I,g=w.heap.size->Ext w I->b7 I g e 1 v (n+k) (xs++r9 k z)->K v I):aM P (c9 #[t,h] q #[.slice base n cap,.int r y]) w K:=by
 subst A;obtain⟨i,hi,L,rfl,M⟩:=hi;obtain⟨f,Y,o,Z,aa,he,N,ab,O,Q⟩:=V;cases he;have R:(Z0.firstCells i.size n (.slice base n cap)).run P w.drew= .ok xs.toArray w.drew:=by
  rcases Nat.eq_zero_or_pos n with rfl|S
  .have:xs=[]:=j6 (by simpa using f);subst this;cases base with
   |none=>exact run_firstCells_none w.drew i.size 0 0 cap
   |some a=>exact run_firstCells_some w.drew i.size 0 a 0 cap [] Ξ Ξ
  .have:=O S;subst this;refine run_firstCells_some w.drew i.size n _ n cap xs (by rw[L];exact f) λj u hu=>?_;rw[U6];exact Q j u hu
 have T:k*i.bytes<=281474976710656:=by
  have:k*i.bytes<=(n+k)*i.bytes:=X6 _ Ω;omega
 have U:=Lib.run_append_grow_zeros (P:=P) w t h q e i z r kn B C hi M base n cap xs R k F Ω s Ω T (growslice_fits s G);have W:n+k<=grownCap w (n+k) cap e:=grownCap_ge w _ _ _;have X:grownCap w (n+k) cap e<=maxLen:=grownCap_le_maxLen w (n+k) cap e (by simpa[maxLen]using H);have x:∀m,Z0.zeroCells z.cells m=(r9 m z).toArray:=λm=>by
  rw[E];apply Array.ext
  .simp[size_zeroCells]
  .intro j h1 N;simp[Z0.zeroCells,Nat.mod_one]
 refine .of U ((rG w _ (Nat.le_succ _)).F (rI _ _)) (J _ w.heap.size _ rfl ((tB w _).F (rH _ _)) ⟨by simp at f;simp[f],.inr ⟨_,xs++r9 k z++r9 (grownCap w (n+k) cap e-(n+k)) z,rfl,?_,W,X,?_,?_⟩⟩)
 .rw[x,x];have:=heap_alloc_new w.drew (.cells (xs.toArray++(r9 k z).toArray++(r9 (grownCap w (n+k) cap e-(n+k)) z).toArray) e);rw[List.append_toArray,List.append_toArray]at this ⊢;exact this
 .simp at f;simp[f];omega
 .simp at f;rw[List.take_append_of_le_length (by simp[f]),j4 (by simp[f])]
theorem Ci{a:r8}{base:Option Addr}(f:P.underlying t=σ (.slice e)):
  ad P (Z0.cap_ #[t] a #[.slice base n c]) w K=K (Δ c):=ad.of λI _=>by simp[Z0.cap_,run_underlying f,goInt]
theorem MA{g o k:Nat}(h:ai w g e cs)(hk:o+k<=cs.length)(a:k<=c)(f:c<=maxLen):cn w 1 (.slice (σ ⟨g,o,ν⟩) k c) k ((cs.drop o).take k):=by
 refine⟨Θ,g,o,_,c,rfl,a,f,λ_=>rfl,λj v ac=>?_⟩;have q:=(x5.1 ac).1;simp at q;rw[W3 Ω,List.getElem?_drop]at ac;exact h.cell ac
theorem Cj{h q:r8}{s g o cap:Nat}{K:x1->x4->Prop}(x:P.underlying t=σ (.slice e))(hi:aS P e 1 s z)(y:z.cells= #[z])(h1:z.oneCell'=ms)(a:ai w g q cs)(A:0<n)(G:o+n<=cs.length)(B:∀I,aj (λr=>r=g) w I->I.heap.size=w.heap.size->ai I g q (over cs o (r9 n z))->K (.tuple #[]) I):aM P (Z0.clear_ #[t] h #[.slice (σ ⟨g,o,ν⟩) n cap]) w K:=by
 obtain⟨i,hi,H,rfl,C⟩:=hi;have E:=Lib.run_clear_slice (P:=P) w t e h z x (λw=>by simp[zeroValue,typeInfo,hi,C]) y h1 g o n cap A
  (λj J=>by rw[a.cell (x8 (show o+j<cs.length by omega))];rfl) (λj _=>a.frozen _ _)
 obtain⟨F,f⟩:=pF (r9 n z) cs o w a;exact .of E (f.cO a) (B _ f.aa f.size F)
end
section
variable{P:W5}{w:x4}
theorem jV{a:r8}{f:o5}{i b g:Nat}(j:y=(i:Int))(q:P.underlying t=σ (.slice e))(hi:aS P e 1 b z)(h:aH k a w g v l)(r:i<l.length):ad P (n9 t v (.int f y)) w K=K (.pointer (σ ⟨g,i,ν⟩)):=by
 subst j;obtain⟨_,⟨_,s⟩|⟨cap,cs,rfl,_⟩⟩:=h
 .omega
 .rw[fq q hi r (λ_=>rfl)];simp
theorem mN{a:o5}{i b:Nat}{x:Int}(f:y=(i:Int))(j:P.underlying t=σ (.slice e))(hi:aS P e 1 b z)(h:aQ k w v l)(J:l[i]?=σ x)(q:∀b o,w.cell? ⟨b,o,ν⟩=σ (.int k x)->K (.pointer (σ ⟨b,o,ν⟩))):ad P (n9 t v (.int a y)) w K:=by
 subst f;have r:=(x5.1 J).1;obtain⟨_,_,_,_,_,rfl,_,_,s,A⟩:=h;rw[fq j hi r s,T1];exact q _ _ (A i _ (mJ J))
theorem jW{a:r8}{i b g:Nat}{x:Int}{K:Unit->x4->Prop}(hi:aS P e 1 b z)(h:aH k a w g v l)(B:i<l.length)(f:∀I,aj (λr=>r=g) w I->I.heap.size=w.heap.size->aH k a I g v (l.set i x)->K () I):aM P (o7 e (.pointer (σ ⟨g,i,ν⟩)) (.int k x)) w K:=by
 obtain⟨C,⟨_,E⟩|⟨cap,full,rfl,j,F,q,G,H⟩⟩:=h
 .omega
 .have s:i<full.length:=Ω
  refine bs hi rfl rfl j s λI y V A=>f I y V ⟨Ξ,.inr ⟨cap,full.set i (.int k x),Ξ,A,by grind,q,by grind,?_⟩⟩
  grind [List.take_set,U4]
theorem kS{b o:Nat}(a:lj P t=ms)(h:w.cell? ⟨b,o,ν⟩=σ v):cK P (u4 t (.pointer (σ ⟨b,o,ν⟩))) v w:=λI J=>by
 have bg:=km J h;unfold lj at a;cases hu:P.underlying t with
 |none=>grind
 |some d=>
  rw[hu]at a;cases d<;>first|(cases a;done)|simp[u4,Instr.sureAddr,loadVar,isAgg,run_underlying hu,bg]
theorem jC{S:ak}(h:aQ k w v l)(J:aj S w I)(y:∀r,S r->∀a n c,v= .slice (σ a) n c->a.block≠r):aQ k I v l:=by
 obtain⟨h1,b,o,base,cap,rfl,q,s,e,z⟩:=h;refine⟨h1,b,o,base,cap,rfl,q,s,e,?_⟩;rcases Nat.eq_zero_or_pos l.length with f|f
 .intro j u hu
  grind
 .have x:=e f;subst x
  grind [iu]
end
end Go.Vc
namespace Go.Vc
open Go Go.RowKit Go.ChangeShapes Go.WideShapes
structure oE(P:W5)(t:r8)(α:Type)[ay α](G:α->Prop):Prop where
 op:∀{H:Type}{enc:r8×x1->H}{w:x4}{base:Nat}{spare:Nat->Bool}{held:Bool}{fuel:Nat}{cs:List x1}{x:DataW H×List MemPlace},
  DataW.trod enc P w base spare held fuel t cs=σ x->∃a:α,Seen e3 w cs a/\G a
section
variable{P:W5}{α β:Type}[ay α][ay β]
theorem Ck{n:Int}(h:(Lit.int k n).wf=ms):k.min<=n/\n<=k.max:=by grind [Lit.wf]
theorem MB(a:P.underlying t=σ (.int k)):oE P t (nO k) λn=>k.min<=n.val/\n.val<=k.max:=⟨λh=>by
 obtain⟨n,rfl,_,hw⟩:=DataW.trod_int a h;exact⟨(n:Int),rfl,Ck hw⟩⟩
theorem uA(a:P.underlying t=σ (.int .i64)):oE P t Int λn=>X3.min<=n/\n<=X3.max:=⟨λh=>by
 obtain⟨n,rfl,_,hw⟩:=DataW.trod_int a h;exact⟨n,rfl,Ck hw⟩⟩
theorem MC(a:Addr)(m n:Nat):(a.add m).add n=a.add (m+n):=by
 grind [Addr.add]
theorem MD{base:Nat}{a:Addr}(h:w.cells? base a n=σ cs):cs.length=n/\∀j v,cs[j]?=σ v->w.cell? (a.add j)=σ v:=by
 unfold x4.cells? at h;split at h
 .have e:cs.length=n:=by
   have:=mapM_some_length h
   grind
  refine⟨e,λj v ac=>?_⟩;have f:=(x5.1 ac).1;have:=mapM_some_get h j j (List.getElem?_range Ω)
  grind
 .cases h
theorem ME{G:α->Prop}(F:P.underlying t=σ (.slice e))(he:oE P e α G)(I:P.cellsOf e=ay.n α)(N:0<ay.n α):oE P t (List α) λl=>∀a∈l,G a:=by
 constructor;intro H enc w base O Q fuel cs x h;rcases DataW.trod_slice F h with⟨rfl,_⟩|⟨a,len,cap,R,rest,n,_,rfl,rfl,S,T,hm,U,J,_,_⟩
 .exact⟨[],jf,by grind⟩
 .
  have B:∀i,i<len->∃(c:List x1)(y:α),c.length=ay.n α/\(∀j v,c[j]?=σ v->w.cell? (a.add (i*ay.n α+j))=σ v)/\Seen e3 w c y/\G y:=by
   intro i hi;have h1:=J i hi;rw[x8 Ω,I,Option.bind_eq_some_iff]at h1;obtain⟨c,f,q⟩:=h1;obtain⟨C,r⟩:=MD f;obtain⟨y,s,V⟩:=he.op q
   grind [MC]
  have all:∀m,m<=len->∃(vs:List (List x1))(l:List α),vs.length=m/\l.length=m/\(∀c∈vs,c.length=ay.n α)/\(∀(j:Nat)(v:x1),vs.flatten[j]?=σ v->w.cell? (a.add j)=σ v)/\
    (∀(i:Nat)(c:List x1)(y:α),vs[i]?=σ c->l[i]?=σ y->Seen e3 w c y)/\∀y∈l,G y:=by
   intro m;induction m with
   |zero=>exact λ_=>⟨[],[],rfl,rfl,by grind,by grind,by grind,by grind⟩
   |succ m K=>
    intro hm;obtain⟨vs,l,h1,f,q,C,r,s⟩:=K Ω;obtain⟨c,y,g1,E,W,X⟩:=B m Ω;refine⟨vs++[c],l++[y],by simp[h1],by simp[f],λd L=>?_,λj v ac=>?_,λi d z L M=>?_,λz M=>?_⟩
    .grind
    .have A:=ll q
     grind
    all_goals grind
  obtain⟨vs,l,h1,f,q,C,r,s⟩:=all len (p9 _);have A:=ll q;rw[h1]at A;have Y:0<len->a=⟨a.block,a.off,ν⟩:=λZ=>by
   obtain⟨c,y,g1,E,_⟩:=B 0 Ω;have:=E 0 c[0] (x8 Ω);rw[Nat.zero_mul]at this;exact xq this
  refine⟨l,⟨_,rfl,vs,0,λ_ _=>False,⟨by grind,by grind,by grind⟩,⟨Ω,r⟩,⟨by rw[A,f],a.block,a.off,σ a,cap,by rw[f],Ω,hm,by grind,by grind,λj v ac=>?_⟩,by grind⟩,s⟩
  grind [U6]
structure uB(P:W5)(fs:List Field)(off:Nat)(α:Type)[ay α](G:α->Prop):Prop where
 op:∀{H:Type}{enc:r8×x1->H}{w:x4}{base:Nat}{spare:Nat->Bool}{held:Bool}{n:Nat}{cs:List x1},cs.length=off+ay.n α->
  (∀f∈fs,∃x,DataW.trod enc P w base spare held n f.type ((cs.drop f.offset).take (P.cellsOf f.type))=σ x)->∃a:α,Seen e3 w (cs.drop off) a/\G a
theorem MF{f:Field}{G:α->Prop}(h:oE P f.type α G)(aE:f.offset=off)(e:P.cellsOf f.type=ay.n α):uB P [f] off α G:=by
 constructor;intro H enc w base j q n cs r ah;obtain⟨x,J⟩:=ah f (.head _);obtain⟨a,h1,s⟩:=h.op J
 grind [j4]
theorem uC{f:Field}{e:List Field}{G:α->Prop}{j:β->Prop}(h:oE P f.type α G)(aE:f.offset=off)(q:P.cellsOf f.type=ay.n α)(r:uB P e (off+ay.n α) β j):
  uB P (f::e) off (α×β) λp=>G p.1/\j p.2:=by
 constructor;intro H enc w base B C n cs E ah;obtain⟨x,J⟩:=ah f (.head _);obtain⟨a,h1,s⟩:=h.op J;rw[aE,q]at h1;have F:ay.n (α×β)=ay.n α+ay.n β:=rfl;obtain⟨b,y,z⟩:=r.op Ω λg A=>ah g (.tail _ A);refine⟨(a,b),⟨(cs.drop off).take (ay.n α),cs.drop (off+ay.n α),λ_=>False,λ_=>False,?_,λ_ h=>h,λ_ h=>h,by grind,h1,y⟩,s,z⟩;rw[<-List.drop_drop,List.take_append_drop]
theorem MG{a:List Field}{G:α->Prop}(e:P.underlying t=σ (.struct a.toArray))(ah:uB P a 0 α G)(s:P.cellsOf t=ay.n α):oE P t α G:=by
 constructor;intro H enc w base y z fuel cs x h;obtain⟨xs,n,_,rfl,A,B,j⟩:=DataW.trod_struct e h;have:=ah.op (cs:=cs) Ω λf q=>by
  obtain⟨i,hi,rfl⟩:=List.mem_iff_getElem.1 q;have r:i<xs.length:=by grind
  have:=j i a[i] (by simp[hi]);rw[x8 r]at this;exact⟨_,this⟩
 grind
end
end Go.Vc
namespace Go.Vc
open Go Go.RowKit
set_option maxRecDepth 100000
theorem MH:(⟨#[]⟩:ByteArray)=strOfNums []:=rfl
theorem Cl{aA:x1->x1->x1->x4->Prop}{B:(x1->x1->x1->x4->Prop)->Prop}(G:x1->x1->x1->x4->Prop)(h1:∀t u v w,G t u v w->aA t u v w)(e:∀a:x1->x1->x1->x4->Prop,(∀t u v w,G t u v w->a t u v w)->B a):cC aA B:=e aA h1
theorem Cm{aA:x1->x1->x1->x1->x4->Prop}{B:(x1->x1->x1->x1->x4->Prop)->Prop}(G:x1->x1->x1->x1->x4->Prop)(h1:∀s t u v w,G s t u v w->aA s t u v w)(e:∀a:x1->x1->x1->x1->x4->Prop,(∀s t u v w,G s t u v w->a s t u v w)->B a):cC aA B:=e aA h1
abbrev ce(l:Λ):x1:=.string (strOfNums l)
def Bytes(l:Λ):Prop:=∀b∈l,0<=b/\b<256
theorem oF(l:Λ):(strOfNums l).size=l.length:=strOfNums_size l
theorem MI(h:Bytes l){i:Nat}{b:Int}(hi:l[i]?=σ b):(strOfNums l)[i]?=σ (UInt8.ofNat b.toNat)/\((UInt8.ofNat b.toNat).toNat:Int)=b:=by
 have f:=h b (x6 hi);have e:=x5.1 hi;refine⟨?_,by rw[UInt8.toNat_ofNat'];omega⟩;have V:i<(strOfNums l).size:=by rw[oF];exact e.1
 rw[getElem?_pos (strOfNums l) i V];congr 1;show(strOfNums l).data[i]=_;have a:(strOfNums l).data.toList[i]?=σ (UInt8.ofNat b.toNat):=by rw[strOfNums_data,v8,hi];rfl
 rw[Array.getElem?_toList]at a;exact(Z6.1 a).2
theorem str_inj{a b:Λ}(e:Bytes a)(f:Bytes b)(h:strOfNums a=strOfNums b):a=b:=by
 have h1:(strOfNums a).data.toList=(strOfNums b).data.toList:=by rw[h]
 rw[strOfNums_data,strOfNums_data]at h1;have key:∀{l:Λ},Bytes l->(l.map λn=>UInt8.ofNat n.toNat).map (λu=>((u.toNat:Nat):Int))=l:=λ{l}j=>by
  rw[T7]
  conv=>rhs;rw[<-List.map_id l]
  refine List.map_congr_left λx J=>?_;have:=j x J;show(((UInt8.ofNat x.toNat).toNat:Nat):Int)=x;rw[UInt8.toNat_ofNat'];omega
 rw[<-key e,<-key f,h1]
theorem MJ(a b:Λ):strOfNums a++strOfNums b=strOfNums (a++b):=by
 apply ByteArray.ext;rw[ByteArray.data_append];simp[strOfNums]
theorem MK(l:Λ)(i j:Nat):(strOfNums l).extract i j=strOfNums ((l.take j).drop i):=by
 apply ByteArray.ext;rw[ByteArray.data_extract];apply Array.toList_inj.1;rw[Array.toList_extract];simp[strOfNums,List.extract_eq_take_drop,List.map_drop,List.map_take,List.drop_take]
theorem Cn(l:Λ):(strOfNums l).toList=l.map λn=>UInt8.ofNat n.toNat:=by
 rw[ByteArray.toList_eq];exact strOfNums_data l
theorem Co{a b:Λ}(e:Bytes a)(f:Bytes b):((strOfNums a).toList == (strOfNums b).toList)=decide (a=b):=by
 rw[U1,beq_iff_eq,m6,Cn,Cn];refine⟨λh=>str_inj e f ?_,λh=>by rw[h]⟩;unfold strOfNums;rw[h]
section
variable{P:W5}{w:x4}
theorem pO{a:r8}(e:P.underlying t=σ .string):ad P (W7 #[t] a #[ce l]) w K=K (Δ l.length):=ad.of λI _=>by
 simp[W7,run_underlying e,goInt,oF]
theorem sa{b:Int}{i:Nat}(a:y=(i:Int))(f:P.underlying t=σ .string)(h:Bytes l)(hi:l[i]?=σ b):ad P (Instr.index t (ce l) (.int k y)) w K=K (.int .u8 b):=ad.of λI _=>by
 subst a;obtain⟨h1,j⟩:=MI h hi;have e:(0:Int)<=(i:Int):=Ω
 simp only[Instr.index,asIntOf,W8,V4,V1,run_underlying f];rw[lw e,u5,h1];simp only[V4,j]
theorem xz{a b:Λ}(h:a.length+b.length<=9223372036854775807):ad P (aU .add t cx cy (ce a) (ce b)) w K=K (ce (a++b)):=ad.of λI _=>by
 have:=run_string_add_sum (P:=P) (w:=I) (strOfNums a) (strOfNums b) (by rw[oF,oF];exact h);simp only[aU,eqGuard,binOp];simp[this,MJ]
theorem Cp{a b:Λ}(e:Bytes a)(f:Bytes b):ad P (aU .eql t cx cy (ce a) (ce b)) w K=K (.bool (decide (a=b))):=ad.of λI _=>by
 simp[aU,eqGuard,binOp,Op.stringOp,Co e f]
theorem ML{a b:Λ}(e:Bytes a)(f:Bytes b):ad P (aU .neq t cx cy (ce a) (ce b)) w K=K (.bool (decide (a≠b))):=ad.of λI _=>by
 simp[aU,eqGuard,binOp,Op.stringOp,Co e f]
theorem Cq{i:Nat}(a:y=(i:Int))(f:P.underlying t=σ .string)(hi:i<=l.length):ad P (V5 t (ce l) (σ (.int k y)) ν ν) w K=K (ce (l.drop i)):=ad.of λI _=>by
 have j:=uk (P:=P) I (sl:=ne) (n:=(strOfNums l).size) (c:=(strOfNums l).size) (low:=σ (.int k y)) (high:=ν) (mx:=ν) (l:=i) (h:=(strOfNums l).size) (m:=(strOfNums l).size) (pC i y a) kp fc (by rw[oF];exact hi) (p9 _) (p9 _);have e:(strOfNums l).extract i (strOfNums l).size=strOfNums (l.drop i):=by rw[MK,oF,o6]
 simp[V5,Instr.slice,run_underlying f,j,e]
theorem xA{s:r8}(V:P.underlying s=σ (.slice e))(he:P.underlying e=σ (.int .u8))(f:P.underlying t=σ .string)(h:aQ .u8 w v l):ad P (convert s t v) w K=K (ce l):=ad.of λI J=>by
 obtain⟨q,b,o,base,cap,rfl,_,_,x,y⟩:=h.W J;have q:l.length=l.length*1:=by simpa using q
 by_cases z:0<l.length
 .rw[x z];refine run_convert_bytes_arg I s e V he b o l.length cap l rfl (λi hi=>?_) t f;have r:l[i]?=σ l[i]:=x8 hi;rw[p8,r];exact y i _ (mJ r)
 .have A:l=[]:=j6 Ω;subst A;cases base with
  |none=>
   rw[run_convert_bytes_nil I s e V he _ _ t f];rfl
  |some a=>
   rw[run_convert_bytes_string I s t e _ _ _ V he f];have:=run_bytesToString (P:=P) I a 0 cap [] (by have:=run_loadCells_list (P:=P) I a [] (λj v B=>by simp at B);simpa using this);simp only[List.length_nil];rw[this];rfl
theorem xB{s:r8}{u:TypeDesc}{K:x1->x4->Prop}(V:P.underlying s=σ u)(y:P.underlying t=σ (.slice e))(he:P.underlying e=σ (.int .u8))(z:Bytes l)(hm:l.length<=1000000000)(A:∀v I,Ext w I->aQ .u8 I v l->(∀r,(∃a n c,v= .slice (σ a) n c/\a.block=r)->w.heap.size<=r)->K v I):aM P (convert s t (ce l)) w K:=by
 have B:=Lib.bytesWorld_at_new w e (strOfNums l);have q:=λj f=>Lib.bytesWorld_at_old w e (strOfNums l) j f;have C:=Lib.bytesWorld_size w e (strOfNums l);refine .of (Lib.run_convert_string_bytes w s t e (strOfNums l) V y he) ⟨rfl,⟨rfl,Nat.le_succ _⟩,rfl,Ω,λr o h _=>?_⟩ (A _ _ ⟨Ω,λr o h _=>?_⟩ ?_ ?_)
 .rw[q r (Z6.1 h).1];exact h
 .rw[q r (Z6.1 h).1];exact h
 .rw[oF];refine⟨Ξ,w.heap.size,0,_,_,rfl,?_,?_,λ_=>rfl,λj v ac=>?_⟩
  .exact grownCap_ge w _ _ _
  .exact grownCap_le_maxLen w _ _ _ (by simp[maxLen];omega)
  .have f:j<l.length:=by have:=(x5.1 ac).1;simpa using this
   have x:l[j]?=σ l[j]:=x8 f;rw[V7,Lib.bytesWorld_cell w e (strOfNums l) j (by rw[oF];exact f)];rw[mJ x]at ac;rw[<-Z4 ac,strOfNums_data,p8,v8,x];have:=z l[j] (T9 f);simp only[Y9,Option.getD_some];congr 2;rw[UInt8.toNat_ofNat'];omega
 .rintro r ⟨a,n,c,h1,rfl⟩;cases h1;exact p9 _
end
end Go.Vc
namespace Go.Proofs.YtlcdcbgoaljiiaaGreatDoor
open Go Go.Vc Go.RowKit Go.Proofs Go.Proofs.Tryz
set_option maxRecDepth 100000
theorem Cr{b:Int}(h:cW b=ms):ca b=ne:=by
 have h:=m7 h
 grind [ca]
theorem Cs{b:Int}{p:Λ}(h:cW b=ms):lex (b::p)=lex p:=by
 grind [mM,List.dropWhile_cons]
theorem MM{b:Int}{p:Λ}(h:cW b=ne)(a:ca b=ne):lex (b::p)=([],ne):=by
 grind [mM,List.dropWhile_cons]
theorem Ct{b:Int}{p:Λ}(h:ca b=ms):lex (b::p)=match p.dropWhile ca with
  |[]=>([b::p.takeWhile ca],ms)
  |c::r=>if cW c then((b::p.takeWhile ca)::(lex (c::r)).1,(lex (c::r)).2)else([],ne):=by
 grind [Cr,mM,List.takeWhile_cons,List.dropWhile]
def kq:Λ->List (Λ)->Λ->Bool->List (Λ)×Bool
 |[],out,w,op=>(if op then out++[w]else out,ms)
 |b::p,out,w,op=>
  if cW b then kq p (if op then out++[w]else out) [] ne
  else if ca b then kq p out (if op then w++[b]else[b]) ms
  else(out,ne)
theorem sb:∀(p:Λ)(out:List (Λ))(w:Λ),kq p out w ne=(out++(lex p).1,(lex p).2)/\
  kq p out w ms=match p.dropWhile ca with
   |[]=>(out++[w++p.takeWhile ca],ms)
   |c::r=>if cW c then(out++[w++p.takeWhile ca]++(lex (c::r)).1,(lex (c::r)).2)else(out,ne)
 |[],out,w=>by simp[kq,mM []]
 |b::p,out,w=>by
  by_cases V:cW b=ms
  .have hw:=Cr V;refine⟨?_,?_⟩
   .rw[kq,lw V,(sb p _ _).1,Cs V];simp
   .rw[kq,lw V,lw rfl,(sb p _ _).1,List.dropWhile_cons,m1 (by simp[hw])]
    grind [List.takeWhile_cons,Cs]
  .have a:cW b=ne:=by grind
   by_cases hw:ca b=ms
   .refine⟨?_,?_⟩
    .rw[kq,m1 V,lw hw,m1 Ξ,(sb p _ _).2,Ct hw];cases p.dropWhile ca<;>grind
    .rw[kq,m1 V,lw hw,lw rfl,(sb p _ _).2,List.dropWhile_cons,lw hw,List.takeWhile_cons,lw hw]
     grind
   grind [kq,MM,List.dropWhile_cons]
theorem MN(p:Λ):kq p [] [] ne=lex p:=by grind [sb]
def qV:Nat->Nat->Λ
 |0,_=>[]
 |k+1,n=>(if n<10 then[]else qV k (n / 10))++[48+((n % 10:Nat):Int)]
def gC(n:Nat):Λ:=qV (n+1) n
theorem Cu:∀{k m n:Nat},n<k->n<m->qV k n=qV m n
 |k+1,m+1,n,h1,a=>by
  unfold qV;by_cases h:n<10
  .grind
  .rw[m1 h,m1 h,Cu (k:=k) (m:=m) (n:=n / 10) Ω Ω]
theorem pP(n:Nat):gC n=(if n<10 then[]else gC (n / 10))++[48+((n % 10:Nat):Int)]:=by
 grind [gC,qV,Cu]
theorem Cv:∀(k n:Nat),n<k->∀b∈gC n,48<=b/\b<=57
 |k+1,n,hk,b,a=>by
  rw[pP]at a;rcases j5.1 a with a|a
  .by_cases h:n<10
   .grind
   .rw[m1 h]at a;exact Cv k (n / 10) Ω b a
  grind
theorem Cw(n:Nat):∀b∈gC n,48<=b/\b<=57:=Cv (n+1) n Ω
def sd(l:Λ):Int:=l.foldl (λn b=>10*n+(b-48)) 0
theorem MO(l:Λ)(b:Int):sd (l++[b])=10*sd l+(b-48):=by simp[sd]
theorem xC:∀(k n:Nat),n<k->sd (gC n)=n
 |k+1,n,hk=>by
  rw[pP,MO];by_cases h:n<10
  .grind [sd]
  .rw[m1 h,xC k (n / 10) Ω];omega
theorem MP{a b:Nat}(h:gC a=gC b):a=b:=by
 have h1:=xC (a+1) a Ω;have e:=xC (b+1) b Ω
 grind
theorem xD:∀(k n:Nat),n<10 ^ k->1<=k->(gC n).length<=k
 |k+1,n,h,_=>by
  rw[pP,o4];by_cases a:n<10
  .grind
  .rw[m1 a];have hk:1<=k:=by
    grind
   have ae:(10:Nat) ^ (k+1)=10*10 ^ k:=Ω
   have:=xD k (n / 10) Ω hk
   grind
def eY(t:Λ):Λ:=t.flatMap λv=>gC v.toNat++[32]
theorem MQ(t:Λ)(v:Int):eY (t++[v])=eY t++(gC v.toNat++[32]):=by simp[eY]
theorem Cx{r:Λ}(a:∀b∈l,b≠32):(l++32::r).takeWhile (λb=>decide (b≠32))=l/\(l++32::r).dropWhile (λb=>decide (b≠32))=32::r:=by
 induction l<;>grind [List.takeWhile_cons,List.dropWhile_cons]
theorem Cy:∀{a b:Λ},(∀x∈a,0<=x)->(∀x∈b,0<=x)->eY a=eY b->a=b
 |[],[],_,_,_=>rfl
 |[],y::b,_,_,h=>by simp[eY]at h
 |x::a,[],_,_,h=>by simp[eY]at h
 |x::a,y::b,j,q,h=>by
  have e:∀(z:Int)(l:Λ),eY (z::l)=gC z.toNat++32::eY l:=by grind [eY]
  rw[e,e]at h;have d:∀z:Int,∀c∈gC z.toNat,c≠32:=λz c s=>by have:=Cw _ c s;omega
  have s1:=Cx (r:=eY a) (d x);have f:=Cx (r:=eY b) (d y);rw[h]at s1;have w:=s1.1.symm.F f.1;have A:=s1.2.symm.F f.2;have J:=j x (.head _);have C:=q y (.head _);have:=MP w;have B:x=y:=Ω
  subst B;rw[Cy (by grind) (by grind) (List.cons.inj A).2]
theorem Cz(t:Λ):Bytes (eY t):=λb a=>by
 obtain⟨v,_,a⟩:=List.mem_flatMap.1 a;rcases j5.1 a with a|a
 .have:=Cw _ b a;omega
 grind
end Go.Proofs.YtlcdcbgoaljiiaaGreatDoor
