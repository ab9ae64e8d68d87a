/- own texts, made small by a tool (wip/ holds them as they were written): no statement of the seat. -/
import Derived.RangeFuncNested
import Derived.RangeFuncLeaves
import Derived.OrdersIn
import Derived.KernelRfl
import Derived.Deep.Upon
import Derived.RangeFuncBound
import Derived.Deep.MidRow
import Derived.Laws.Cover3
import Derived.Laws.Pointers
import Derived.Laws.StructEq
import Derived.Laws.Tables
import Derived.Below
import Derived.Laws.MakeOwn
import Derived.Lib.Overlaps
import Derived.Lib.AppendZerosOnto
import Derived.Lib.SliceRun
import Derived.OpenShut
import Derived.Lib.ConvBytes
import Derived.Laws.BytesArg
import Derived.Laws.Concat
import Derived.MapKept
import Derived.Carry
import Derived.WideKeyArr
import Derived.WideKeyMaps
import Derived.Laws.IdiomRangeMap
import Derived.Shelf.SlSortCmp.NoneTotal
import Derived.Shelf.SlSortCmp.WholeK
import Derived.Ground.SlsfProg
import Derived.WideKeyEntry
import Derived.WalkKit
import Derived.Test.YtmgflbkdggdhoaaGreatDoorProg
import Derived.Test.YtmgflbkdggdhoaaGreatDoorChecked
set_option linter.unusedVariables false
set_option linter.unusedSimpArgs false
set_option linter.unnecessarySimpa false
open Array renaming getElem?_eq_some_iff→n9,getElem?_toList→S4
open BitVec renaming ofInt→U5
open Bool renaming not_true→Y6,not_false→X9,and_eq_true→V1,or_eq_false_iff→S3
open Decidable renaming not_not→Z9
open Go renaming Value→x1,World→x3,TypeId→r9,IntKind→o5,Builtin→Z2,Program→W5,Oper→U9,Operand→S0,FuncId→R3
open Go.Addr renaming add_mid→T0
open Go.Builtin renaming append_→b9,len_→W8
open Go.Instr renaming loadAt→u4,fieldAt→u5,storeAt→o6,indexAt→j4,extract→Z7,buildSlice→Y4,sliceAt→V4,alloc→S7
open Go.IntKind renaming i64→X2,u64→U3
open Go.Proofs.Tryz renaming prog→x7
open Go.Result renaming andThen→W3
open Go.Sem renaming run_bind→W0,run_pure→V0
open Go.Sort renaming Holds→S2
open Go.Value renaming int→V2
open Go.World renaming putObj_heap_other→R4
open Int renaming toNat_natCast→u6,eq_ofNat_of_zero_le→W6
open List renaming getElem?_eq_some_iff→x4,mem_of_getElem?→x5,getElem?_eq_getElem→x6,getElem?_map→x8,getD_eq_getElem?_getD→v8,length_map→u7,take_add_one→u9,replicate→r8,take_length→p9,length_append→o4,mem_append→o7,mem_singleton→o8,mem_map→l9,eq_nil_of_length_eq_zero→j5,length_take→j6,getElem?_set_self→c7,length_set→c8,length_cons→c9,take_of_length_le→b8,map_append→Z0,getElem?_eq_none→Z6,getElem?_take_of_lt→Z8,getElem?_set_ne→Y0,getElem?_append_left→Y1,getElem?_append_right→Y2,ext_getElem?→Y3,getElem?_set→Y7,range→X4,drop_eq_getElem_cons→X5,mem_or_eq_of_mem_set→X8,length_eq_one_iff→W7,mem_cons→W9,map_set→V8,append_nil→U4,append_assoc→U6,map_cons→U7,foldl_cons→U8,set_append_right→T2,mem_of_mem_take→T4,getElem_mem→R8
open Nat renaming le_refl→p8,le_trans→Y9,zero_add→X0,zero_le→X3,mul_le_mul_right→X6,sub_self→V7,mul_one→U1,add_mul→U2,beq→T5,add_assoc→S8,lt_of_lt_of_le→R6,eq_zero_or_pos→R7
open Option renaming toList_some→o9,map_some→Z3,isNone_some→Z4,map→V5,getD_some→V9
open Option.some renaming inj→b6,injEq→Y8
open Prod.mk renaming injEq→T9
set_option maxHeartbeats 16000000
open Option renaming some→σ,none→ν
abbrev Λ:=List Int
namespace Go
theorem Ω{p:Prop}(h:p:=by omega):p:=h
theorem Ψ{p:Prop}(h:p:=by kernel_rfl):p:=h
theorem Φ{p:Prop}(h:p:=by decide):p:=h
theorem Ξ{p:Prop}(h:p:=by simp):p:=h
theorem Θ{p:Prop}(h:p:=by simp;omega):p:=h
abbrev Γ(n:Nat):Value:=.pointer (some ⟨n,0,none⟩)
abbrev Δ:Int→Value:=Value.int .i64
end Go
variable {a y:Int}{c w w':x3}{S:Nat->Prop}{h j m n:Nat}{aI f sv v z:x1}{args cs vs xs:List x1}{K:x1->Prop}{aj l:Λ}{D:List Nat}{k:o5}{e t:r9}{cx cy:Bool}
namespace Go.Vc
open Go Go.RowKit
def fq:Obj->Bool
 | .loop _=>false
 | .deferred _=>false
 | .mapIter ..=>false
 |_=>true
def book:Obj->Bool
 | .loop _=>true
 | .deferred _=>true
 |_=>false
theorem xH {o:Obj} (h:book o=true):fq o=false:=by cases o<;>first|rfl|cases h
def q7:Obj->Bool
 | .mapIter ..=>true
 |_=>false
theorem EZ {o:Obj} (h:q7 o=true):fq o=false:=by cases o<;>first|rfl|cases h
structure Ext (w w':x3):Prop where
 size:w.heap.size<=w'.heap.size
 aZ:∀ (r:Nat) (o:Obj),w.heap[r]? =σ o->fq o=true->w'.heap[r]? =σ o
theorem Ext.refl (w:x3):Ext w w:=⟨p8 _,λ_ _ h _=>h⟩
theorem Ext.trans {a b:x3} (h:Ext a b) (k:Ext b c):Ext a c:=
 ⟨Y9 h.size k.size,λr o e U=>k.aZ r o (h.aZ r o e U) U⟩
structure ah (S:Nat->Prop) (w w':x3):Prop where
 size:w.heap.size<=w'.heap.size
 aZ:∀ (r:Nat) (o:Obj),w.heap[r]? =σ o->fq o=true->¬S r->w'.heap[r]? =σ o
theorem Ext.ab (S:Nat->Prop) (h:Ext w w'):ah S w w':=⟨h.size,λr o a U _=>h.aZ r o a U⟩
theorem ah.ext (h:ah S w w') (e:∀r,r<w.heap.size->¬S r):Ext w w':=
 ⟨h.size,λr o a U=>h.aZ r o a U (e r (n9.1 a).1)⟩
theorem ah.refl (S:Nat->Prop) (w:x3):ah S w w:=⟨p8 _,λ_ _ h _ _=>h⟩
theorem ah.trans {a b:x3} (h:ah S a b) (k:ah S b c):ah S a c:=
 ⟨Y9 h.size k.size,λr o f U e=>k.aZ r o (h.aZ r o f U e) U e⟩
theorem ah.mono {T:Nat->Prop} {a b:x3} (h:ah S a b) (f:∀r,r<a.heap.size->S r->T r):ah T a b:=
 ⟨h.size,λr o e U j=>h.aZ r o e U λm=>j (f r (n9.1 e).1 m)⟩
theorem Ext.then {a b:x3} (h:Ext a b) (k:ah S b c) (f:∀r,r<a.heap.size->¬S r):Ext a c:=
 ⟨Y9 h.size k.size,λr o e U=>k.aZ r o (h.aZ r o e U) U (f r (n9.1 e).1)⟩
def jn (w w':x3):Prop:=w'.tape=w.tape/\w.drawn<=w'.drawn
theorem jn.jV (h:w'.tape=w.tape:=by rfl) (k:w'.drawn=w.drawn:=by rfl):jn w w':=⟨h,Nat.le_of_eq k.symm⟩
theorem jn.trans {a b:x3} (k:jn b c) (h:jn a b):jn a c:=⟨k.1.trans h.1,Y9 h.2 k.2⟩
structure cM (w w':x3):Prop where
 os:w'.os=w.os
 tape:jn w w'
 output:w'.output=w.output
 size:w.heap.size<=w'.heap.size
 aZ:∀ (r:Nat) (o:Obj),w.heap[r]? =σ o->fq o=false->w'.heap[r]? =σ o
structure cC (n:Nat) (w w':x3):Prop where
 os:w'.os=w.os
 tape:jn w w'
 output:w'.output=w.output
 size:w.heap.size<=w'.heap.size
 aZ:∀ (r:Nat) (o:Obj),w.heap[r]? =σ o->book o=true->w'.heap[r]? =σ o
 old:∀ (r:Nat) (o:Obj),r<n->w.heap[r]? =σ o->fq o=false->w'.heap[r]? =σ o
theorem cM.b (h:cM w w'):cC n w w':=⟨h.os,h.tape,h.output,h.size,λr o a U=>h.aZ r o a (xH U),λr o _ a U=>h.aZ r o a U⟩
theorem cC.refl (n:Nat) (w:x3):cC n w w:=⟨rfl,.jV,rfl,p8 _,λ_ _ h _=>h,λ_ _ _ h _=>h⟩
theorem cC.trans {a b:x3} (h:cC n a b) (k:cC n b c):cC n a c:=
 ⟨k.os.trans h.os,k.tape.trans h.tape,k.output.trans h.output,Y9 h.size k.size,λr o e U=>k.aZ r o (h.aZ r o e U) U,λr o f e U=>k.old r o f (h.old r o f e U) U⟩
theorem cC.cu (h:cC n w w') (e:w.heap.size<=n):cM w w':=
 ⟨h.os,h.tape,h.output,h.size,λr o a U=>h.old r o (R6 (n9.1 a).1 e) a U⟩
structure fs (n:Nat) (w w':x3):Prop where
 os:w'.os=w.os
 tape:jn w w'
 output:w'.output=w.output
 size:w.heap.size<=w'.heap.size
 old:∀ (r:Nat) (o:Obj),r<n->w.heap[r]? =σ o->fq o=false->w'.heap[r]? =σ o
theorem cC.o (h:cC n w w'):fs n w w':=⟨h.os,h.tape,h.output,h.size,h.old⟩
theorem cM.o (h:cM w w'):fs n w w':=⟨h.os,h.tape,h.output,h.size,λr o _ a U=>h.aZ r o a U⟩
theorem fs.mono (h:fs n w w') (hm:m<=n):fs m w w':=⟨h.os,h.tape,h.output,h.size,λr o a=>h.old r o (R6 a hm)⟩
theorem cC.xI {a b:x3} (h:cC n a b) (k:fs m b c) (hm:a.heap.size<=m):cC n a c:=
 ⟨k.os.trans h.os,k.tape.trans h.tape,k.output.trans h.output,Y9 h.size k.size,
  λr o e U=>k.old r o (R6 (n9.1 e).1 hm) (h.aZ r o e U) (xH U),
  λr o f e U=>k.old r o (R6 (n9.1 e).1 hm) (h.old r o f e U) U⟩
def eW (w w':x3):Prop:=∀ (r:Nat) (o:Obj),w.heap[r]? =σ o->q7 o=true->w'.heap[r]? =σ o
theorem eW.refl (w:x3):eW w w:=λ_ _ h _=>h
theorem eW.trans {a b:x3} (h:eW a b) (k:eW b c):eW a c:=λr o e U=>k r o (h r o e U) U
theorem cM.jW (h:cM w w'):eW w w':=λr o a U=>h.aZ r o a (EZ U)
abbrev ft:=Bool×Nat
theorem cM.refl (w:x3):cM w w:=⟨rfl,.jV,rfl,p8 _,λ_ _ h _=>h⟩
theorem cM.trans {a b:x3} (h:cM a b) (k:cM b c):cM a c:=
 ⟨k.os.trans h.os,k.tape.trans h.tape,k.output.trans h.output,Y9 h.size k.size,λr o e U=>k.aZ r o (h.aZ r o e U) U⟩
theorem q8 (w:x3) (n:Nat):Ext w {w with drawn:=n}:=⟨p8 _,λ_ _ h _=>h⟩
theorem ps (w:x3) (n:Nat) (h:w.drawn<=n):cM w {w with drawn:=n}:=⟨rfl,⟨rfl,h⟩,rfl,p8 _,λ_ _ h _=>h⟩
theorem pt (w:x3) (o:Obj):Ext w {w with heap:=w.heap.push o}:=
 ⟨Ξ,λr o' h _=>by
  have a:=(n9.1 h).1;simp only[Array.getElem?_push];rw[if_neg Ω];exact h⟩
theorem pu (w:x3) (o:Obj):cM w {w with heap:=w.heap.push o}:=
 ⟨rfl,.jV,rfl,Ξ,λr o' h _=>by
  have a:=(n9.1 h).1;simp only[Array.getElem?_push];rw[if_neg Ω];exact h⟩
inductive eu where
 |v (x:x1)
 |b (c:Bool)
 |u
def eu.val:eu->x1
 | .v x=>x
 | .b c=>.bool c
 | .u=>undef
def eu.ofConst:x1->eu
 | .bool c=>.b c
 |x=>.v x
theorem eu.E0 (x:x1):(eu.ofConst x).val=x:=by cases x<;>rfl
abbrev Env:=List (Nat×eu)
def look:Env->Nat->Option eu
 |[],_=>ν
 |(s,x)::r,t=>bif T5 s t then σ x else look r t
def eG (e:Env):S0->Option eu
 | .tmp t=>look e t
 | .const x=>σ (eu.ofConst x)
 | .global g=>σ (.v (Γ g))
 | .func f=>σ (.v (.func (.func f) #[] #[]))
def cT (e:Env) (x:S0):x1:=
 match eG e x with
 |some y=>y.val
 |none=>undef
def known (e:Env):List S0->Bool
 |[]=>true
 |x::r=>(eG e x).isSome&&known e r
def S2 (N:Nat) (e:Env) (a:Act):Prop:=
 a.tmps.size=N/\ ∀t x,look e t=σ x->a.tmps.getD t undef=x.val
theorem S2.eG {N:Nat} {e:Env} {a:Act} (h:S2 N e a) {x:S0} {y:eu} (J:Vc.eG e x=σ y):a.eval x=y.val:=by
 cases x with
 |tmp t=>exact h.2 t y J
 |const v=>simp[Vc.eG] at J;subst J;simp[Act.eval,eu.E0]
 |global g=>simp[Vc.eG] at J;subst J;rfl
 |func f=>simp[Vc.eG] at J;subst J;rfl
theorem S2.eval {N:Nat} {e:Env} {a:Act} (h:S2 N e a) {x:S0} (J:(Vc.eG e x).isSome=true):a.eval x=cT e x:=by
 obtain⟨y,f⟩:=Option.isSome_iff_exists.1 J;rw[h.eG f];simp[cT,f]
theorem tK {e:Env}:∀ {l:List S0},known e l=true-> ∀x∈l,(eG e x).isSome=true
 |[],_,_,J=>by cases J
 |y::r,h,x,J=>by
  simp only[known,V1] at h;cases J with
  |head=>exact h.1
  |tail _ J=>exact tK h.2 x J
def dT (e:Env) (d:Option Tmp) (x:eu):Env:=
 match d with
 |some t=>(t,x)::e
 |none=>e
def jo (N:Nat) (d:Option Tmp):Bool:=
 match d with
 |some t=>Nat.blt t N
 |none=>true
theorem S2.put {N:Nat} {e:Env} {a:Act} (h:S2 N e a) {d:Option Tmp} (m:jo N d=true) {x:eu} (ad:x.val=v):
  S2 N (dT e d x) (a.put d v):=by
 cases d with
 |none=>exact h
 |some t=>
  have p:t<N:=by simpa[jo,Nat.blt_eq] using m
  refine⟨by simp[Act.put,h.1],λs y U=>?_⟩;simp only[dT,look] at U;cases f:T5 t s with
  |true=>
   have j:t=s:=Nat.eq_of_beq_eq_true f;subst j;simp only[f,cond_true,Y8] at U;subst U;simp[Act.put,h.1,p,ad]
  |false=>
   have j:t≠s:=Nat.ne_of_beq_eq_false f;simp only[f,cond_false] at U;have:=h.2 s y U;simp only[Act.put,Array.getD_eq_getD_getElem?] at this ⊢;rw[Array.getElem?_setIfInBounds_ne j];exact this
def ep (r:Option Nat):Fence:={Fence.wide with round:=r}
theorem tL (r:Option Nat) (n:Nat):(ep r).depth.isSome=true->1<=n:=λh=>by simp[ep,Fence.wide] at h
theorem xJ {r:Option Nat} {P:W5} {f:R3} {args:Array x1} {R:Ending->x3->Prop}
  (h:Calls P f args w R):CallsIn (ep r) n P f args w R:=by
 have:=(callsIn_wide (n:=n)).2 h;exact this
section
variable (P:W5)
def aD {α:Type} (s:Sem α) (w:x3) (K:α->x3->Prop):Prop:=∃v w',s.run P w= .ok v w'/\cM w w'/\K v w'
def q9 {α:Type} (free:ft) (s:Sem α) (w:x3) (K:α->x3->Prop):Prop:=∃v w',s.run P w= .ok v w'/\(free.1=false->cC free.2 w w')/\K v w'
def Split (x:x1) (A B:Prop):Prop:=∃c,x= .bool c/\(c=true->A)/\(c=false->B)
def a6:Bool->S0
 |true=>.const (.bool true)
 |false=>.tmp 0
def n7:S0->Bool
 | .const _=>true
 |_=>false
theorem E1 (op:BinOp) (t:r9) (x y:S0) (a b:x1):eqGuard op t x y a b=eqGuard op t (a6 (n7 x)) (a6 (n7 y)) a b:=by
 cases x<;>cases y<;>rfl
def aL (op:BinOp) (t:r9) (cx cy:Bool) (a b:x1):Sem x1:=do eqGuard op t (a6 cx) (a6 cy) a b;binOp op t a b
def ra (s:Sem Next):Sem x1:=do
 match <-s with
 | .value v=>pure v
 |_=>stuck "no value"
def bM (x:x1):Sem x1:=ra (execOp (λ_=>x) {dst:=ν,op:=.nilCheck (.tmp 0),type:=0,pos:= "",after:=#[],guard:=ν})
def bT (a:S0->x1):List S0->List x1
 |[]=>[]
 |x::r=>a x::bT a r
theorem rb (a:S0->x1):∀l,bT a l=l.map a
 |[]=>rfl
 |x::r=>by simp[bT,rb a r]
theorem tM (a:S0->x1) (l:Array S0):(bT a l.toList).toArray=l.map a:=by
 apply Array.toList_inj.1;simp[rb]
def partsOf (a:S0->x1):List (Nat×S0)->List (Nat×x1)
 |[]=>[]
 |x::r=>(x.1,a x.2)::partsOf a r
theorem xK (a:S0->x1):∀l,partsOf a l=l.map λ(i,x)=>(i,a x)
 |[]=>rfl
 |x::r=>by simp[partsOf,xK a r]
theorem E2 (a:S0->x1) (l:Array (Nat×S0)):(partsOf a l.toList).toArray=l.map λ(i,x)=>(i,a x):=by
 apply Array.toList_inj.1;simp[xK]
def opsOf:Op->List S0
 | .alloc _| .ready _| .waits _=>[]
 | .move x| .assign x| .box _ x| .load _ x| .nilCheck x| .unOp _ _ x| .convert _ _ x| .sliceToArrayPointer _ x| .makeInterface _ x
 | .makeChan _ x| .fieldAddr _ x _| .field _ x _| .range _ x| .next x _| .entry x| .typeAssert x _ _ _| .extract x _| .panic x| .recv _ x _=>[x]
 | .pick c a b=>[c,a,b]
 | .build _ e| .buildSlice _ _ e=>e.toList.map (·.2)
 | .store _ a v| .binOp _ _ a v _| .makeSlice _ a v| .indexAddr _ a v| .index _ a v| .lookup _ a v _| .mapEntry _ a v| .send a v=>[a,v]
 | .makeFunc _ first j=>first.toList++j.toList
 | .makeMap _ r=>match r with
  |some x=>[x]
  |none=>[]
 | .slice _ x l h m=>x::((match l with
  |some y=>[y]
  |none=>[])++((match h with
  |some y=>[y]
  |none=>[])++(match m with
  |some y=>[y]
  |none=>[])))
 | .mapUpdate _ m k v| .entryStore _ m k v| .insert _ m k v=>[m,k,v]
 | .call c=>match c.callee with
  | .value f=>f::c.args.toList
  | .invoke r _=>r::c.args.toList
  | .builtin _=>c.args.toList
 | .go _| .defer _| .select ..=>[]
theorem E3 {op:Op} (h1:∀c,op≠ .go c) (a:∀c,op≠ .defer c) (e:∀cs b,op≠ .select cs b):∀x∈op.operands,x∈opsOf op:=by
 intro x J;cases op<;>simp only[Op.operands,opsOf] at J ⊢<;>try (first|(simp at J;done)|(simp at J ⊢;exact J))
 case go c=>exact absurd rfl (h1 c)
 case defer c=>exact absurd rfl (a c)
 case select cs b=>exact absurd rfl (e cs b)
 case makeMap t r=>cases r<;>simp at J ⊢<;>exact J
 case slice t y l h m=>cases l<;>cases h<;>cases m<;>simpa[or_assoc] using J
 case call c=>cases f:c.callee<;>simpa[Call.operands,f] using J
def pv (e:S0->x1):Op->Option (Sem x1)
 | .pick c a b=>σ (do pure (if <-asBool (e c) then e a else e b))
 | .alloc j=>σ (S7 j true (.tuple #[]))
 | .box j x=>σ (Instr.box j (e x))
 | .build t parts=>σ (Instr.build t (partsOf e parts.toList).toArray)
 | .buildSlice t len parts=>σ (Y4 t len (partsOf e parts.toList).toArray)
 | .load t a=>σ (u4 t (e a))
 | .nilCheck x=>σ (bM (e x))
 | .binOp op hX x y _=>σ (aL op hX (n7 x) (n7 y) (e x) (e y))
 | .unOp op _ x=>σ (Op.unary op (e x))
 | .convert src dst x=>σ (convert src dst (e x))
 | .makeInterface hX x=>σ (Instr.makeInterface hX (e x))
 | .makeFunc fn first p=>σ (Instr.makeFunc fn (bT e first.toList).toArray (bT e p.toList).toArray)
 | .makeMap t r=>σ (Instr.makeMap t (r.map e))
 | .makeSlice t l c=>σ (Instr.makeSlice t (e l) (e c))
 | .slice t x lo hi mx=>σ (V4 t (e x) (lo.map e) (hi.map e) (mx.map e))
 | .fieldAddr s x f=>σ (u5 s (e x) f)
 | .field hX x f=>σ (Instr.field hX (e x) f)
 | .indexAddr t x h=>σ (j4 t (e x) (e h))
 | .index hX x h=>σ (Instr.index hX (e x) (e h))
 | .lookup hX x h ok=>σ (Instr.lookup hX (e x) (e h) ok)
 | .mapEntry t m k=>σ (Instr.mapEntry t (e m) (e k))
 | .range hX x=>σ (Instr.range hX (e x))
 | .entry q=>σ (Instr.entry (e q))
 | .typeAssert x hX w ok=>σ (Instr.typeAssert (e x) hX w ok)
 | .extract t h=>σ (Z7 (e t) h)
 |_=>ν
def tN (e:S0->x1):Op->Option (Sem Unit)
 | .store t a x=>σ (o6 t (e a) (e x))
 | .mapUpdate t m k x=>σ (Instr.mapUpdate t (e m) (e k) (e x))
 | .insert t m k x=>σ (Instr.mapUpdate t (e m) (e k) (e x))
 | .entryStore t m s x=>σ (Instr.entryStore t (e m) (e s) (e x))
 |_=>ν
def n8 (b:Z2) (ats:Array r9) (a:r9) (args:Array x1):Option (Sem x1):=
 match b with
 | .append=>σ (b9 ats a args)
 | .cap=>σ (Z2.cap_ ats a args)
 | .clear=>σ (Z2.clear_ ats a args)
 | .copy=>σ (Z2.copy_ ats a args)
 | .delete=>σ (Z2.delete_ ats a args)
 | .len=>σ (W8 ats a args)
 | .max=>σ (Z2.max_ ats a args)
 | .min=>σ (Z2.min_ ats a args)
 |_=>ν
theorem E4 {s:Sem Next} (h:(ra s).run P w= .ok v w'):s.run P w= .ok (.value v) w':=by
 unfold ra at h;rw[W0] at h;cases U:s.run P w with
 |halt x V=>rw[U] at h;simp[W3] at h
 |ok x V=>
  rw[U] at h;cases x<;>simp_all [W3,stuck,V0]
theorem E5 (x:x1) (b:Bool) (t:r9):Instr.next x b 0=Instr.next x b t:=rfl
theorem tO {f:S0->x1} {o:U9} {s:Sem x1} (h:pv f o.op=σ s) (a:s.run P w= .ok v w'):
  (execOp f o).run P w= .ok (.value v) w':=by
 cases e:o.op with
 |nilCheck x=>
  rw[e] at h;cases h;have:=E4 P a;unfold execOp at this ⊢;simpa[e] using this
 |pick c x y=>
  rw[e] at h;cases h;unfold execOp;simp only[e,W0,V0] at a ⊢;cases j:(asBool (f c)).run P w with
  |halt x V=>rw[j] at a;simp[W3] at a
  |ok x V=>rw[j] at a;simp only[W3,Result.ok.injEq] at a ⊢;simp[a]
 |binOp op hX x y m=>
  rw[e] at h;cases h;unfold execOp;simp only[e];unfold aL at a;rw[<-E1] at a;simp only[W0,V0] at a ⊢;rw[a];rfl
 |_=>
  rw[e] at h
  first
   |(cases h;done)
   |(cases h;simp only[tM,E2] at a;unfold execOp;simp only[e,W0,a,W3,V0])
   |(cases h;unfold execOp;simp only[e,W0,a,W3,V0])
theorem E6 {a:S0->x1} {o:U9} {s:Sem Unit} (h:tN a o.op=σ s) {v:Unit} (f:s.run P w= .ok v w'):
  (execOp a o).run P w= .ok .skip w':=by
 cases e:o.op with
 |_=>
  rw[e] at h
  first
   |(cases h;done)
   |(cases h;unfold execOp;simp only[e,W0,f,W3,V0])
def Enters (f:R3):Prop:=∀args w,(callFunc f args).run P w= .ok (.enter f args) w
inductive am (f:R3) (args:List x1) (w:x3) (K:x1->x3->Prop):Prop
 |code (h1:Enters P f) (h2:Calls P f args.toArray w λe w'=>∃v,e= .returned v/\cM w w'/\K v w')
 |ext (v:x1) (w':x3) (h1:(callFunc f args.toArray).run P w= .ok (.value v) w') (h2:cM w w') (h3:K v w')
inductive gx (f:R3) (args:List x1) (w:x3) (K:x1->x3->Prop):Prop
 |code (h1:Enters P f) (h2:Calls P f args.toArray w λe w'=>∃v,e= .returned v/\K v w')
 |ext (v:x1) (w':x3) (h1:(callFunc f args.toArray).run P w= .ok (.value v) w') (h3:K v w')
theorem gx.calls {f:R3} {K:x1->x3->Prop} (h:gx P f args w K) (a:Enters P f):Calls P f args.toArray w λe w'=>∃v,e= .returned v/\K v w':=by
 cases h with
 |code _ h=>exact h
 |ext v w' h1=>rw[a] at h1;cases h1
def hD (l:Nat) (args:List x1) (w:x3) (K:x1->x3->Prop):Prop:=
 YieldAt Fence.wide 0 P l args.toArray w λe w'=>∃v,e= .returned v/\K v w'
theorem hD.mono {P:W5} {l:Nat} {K a:x1->x3->Prop} (h:hD P l args w K) (e:∀v w',K v w'->a v w'):hD P l args w a:=by
 obtain⟨fn,tmps,f,body,j,m⟩:=h;exact⟨fn,tmps,f,body,j,RoundIn.mono m λ_ w' ⟨v,h1,p⟩=>⟨v,h1,e v w' p⟩⟩
def re (free:Bool) (f:x1) (args:List x1) (w:x3) (K:x1->x3->Prop):Prop:=
 match f with
 | .func (.func g) first cap=>bif free then gx P g (first.toList++args++cap.toList) w K else am P g (first.toList++args++cap.toList) w K
 | .func (.yield l) first _=>bif free then free=true/\hD P l (first.toList++args) w K else hD P l (first.toList++args) w λv w'=>cM w w'/\K v w'
 |_=>False
def ac (s:Sem x1) (w:x3) (K:x1->Prop):Prop:=∃v,(∀w',Ext w w'->s.run P w'= .ok v w')/\K v
def E7:List (Nat×Nat):=[(9,22),(22,22)]
def E8 (s d:Nat):Bool:=E7.any λp=>T5 p.1 s&&T5 p.2 d
def iR (o:U9):Bool:=
 match o.op with
 | .convert s d _=>!E8 s d
 | .move _| .assign _| .pick .. | .load .. | .nilCheck _| .binOp .. | .unOp .. | .makeInterface .. | .makeFunc .. | .slice .. | .fieldAddr .. | .field ..
 | .indexAddr .. | .index .. | .lookup .. | .extract .. | .build .. | .typeAssert ..=>true
 | .call c=>
  match c.callee with
  | .builtin .len| .builtin .cap| .builtin .min| .builtin .max=>true
  |_=>false
 |_=>false
def cD (s:Sem x1) (v:x1) (w':x3):Prop:=∀a,Ext w' a->s.run P a= .ok v a
def li (o:U9) (e:Env) (w:x3) (K:Env->(x3->Prop)->Prop):Prop:=
 bif known e (opsOf o.op) then
  match o.op with
  | .move x| .assign x=>
   match eG e x with
   |some y=>K (dT e o.dst y) (λ_=>True)
   |none=>False
  | .pick c a b=>
   match eG e c with
   |some (.b true)=>(match eG e a with|some y=>K (dT e o.dst y) (λ_=>True)|none=>False)
   |some (.b false)=>(match eG e b with|some y=>K (dT e o.dst y) (λ_=>True)|none=>False)
   |some (.v x)=>Split x (K (dT e o.dst (.v (cT e a))) (λ_=>True)) (K (dT e o.dst (.v (cT e b))) (λ_=>True))
   |some .u=>False
   |none=>False
  | .call c=>
   match c.callee with
   | .builtin b=>
    match n8 b c.argTypes o.type (bT (cT e) c.args.toList).toArray with
    |some s=>ac P s w λv=>K (dT e o.dst (.v v)) (cD P s v)
    |none=>False
   |_=>False
  |op=>
   match pv (cT e) op with
   |some s=>ac P s w λv=>K (dT e o.dst (.v v)) (cD P s v)
   |none=>False
 else False
def tP (free:ft) (o:U9) (e:Env) (w:x3) (K:Env->x3->Prop):Prop:=
 bif known e (opsOf o.op) then
  match o.op with
  | .call c=>
   match c.callee with
   | .builtin b=>
    match n8 b c.argTypes o.type (bT (cT e) c.args.toList).toArray with
    |some s=>aD P s w λv w'=>K (dT e o.dst (.v v)) w'
    |none=>False
   | .value (.func f)=>
    bif free.1 then gx P f (bT (cT e) c.args.toList) w λv w'=>K (dT e o.dst (.v v)) w'
    else am P f (bT (cT e) c.args.toList) w λv w'=>K (dT e o.dst (.v v)) w'
   | .value x=>re P free.1 (cT e x) (bT (cT e) c.args.toList) w λv w'=>K (dT e o.dst (.v v)) w'
   | .invoke _ _=>False
  | .next x str=>q9 P free (Instr.next (cT e x) str 0) w λv w'=>K (dT e o.dst (.v v)) w'
  |op=>
   match pv (cT e) op with
   |some s=>aD P s w λv w'=>K (dT e o.dst (.v v)) w'
   |none=>
    match tN (cT e) op with
    |some s=>aD P s w λ_ w'=>K (dT e o.dst (.v undef)) w'
    |none=>False
 else False
def oa (free:ft) (o:U9) (e:Env) (w:x3) (K:Env->x3->Prop):Prop:=
 bif iR o then li P o e w (λa _=>K a w) else tP P free o e w K
theorem Enters.of {f:R3} {fn:Func} {c:Code} (af:P.funcs[f]? =σ fn) (a:fn.body=σ c) (e:(fn.name == "runtime.NumGoroutine")=false):Enters P f:=by
 intro args w;have h:fn.name≠ "runtime.NumGoroutine":=by simpa using e
 unfold callFunc;simp[W0,program,Sem.run,W3,af,h,a,V0]
variable {P}
variable {N:Nat} {r:Option Nat} {o:U9} {e:Env} {a:Act} {w:x3}
theorem jX (f:S2 N e a) (hk:known e (opsOf o.op)=true) (U:∀cs b,o.op≠ .select cs b) (h:∀c,o.op≠ .go c:=by simp_all) (j:∀c,o.op≠ .defer c:=by simp_all):
  execOp a.eval o=execOp (cT e) o:=
 execOp_congr o U λx J=>f.eval (tK hk x (E3 h j U x J))
theorem pw {next:Act->x3->Prop} {Q:Exit->Act->x3->Prop} (j:S2 N e a) (hk:known e (opsOf o.op)=true) (U:∀cs b,o.op≠ .select cs b)
  (f:∀c,o.op≠ .defer c) {v:x1} {w':x3} (m:(execOp (cT e) o).run P w= .ok (.value v) w') (h:next (a.put o.dst v) w') (p:∀c,o.op≠ .go c:=by simp_all):o.wpIn (ep r) 0 P a w next Q:=by
 refine⟨λ_ _=>trivial,?_⟩;rw[U9.semAt_eq _ _ _ f,jX j hk U p f,m,U9.uponIn_value];exact h
theorem E9 {next:Act->x3->Prop} {Q:Exit->Act->x3->Prop} (j:S2 N e a) (hk:known e (opsOf o.op)=true) (U:∀cs b,o.op≠ .select cs b)
  (f:∀c,o.op≠ .defer c) {w':x3} (m:(execOp (cT e) o).run P w= .ok .skip w') (h:next (a.put o.dst undef) w') (p:∀c,o.op≠ .go c:=by simp_all):o.wpIn (ep r) 0 P a w next Q:=by
 refine⟨λ_ _=>trivial,?_⟩;rw[U9.semAt_eq _ _ _ f,jX j hk U p f,m,U9.uponIn_skip];exact h
def e9 (N:Nat) (free:ft) (K:Env->x3->Prop) (o:U9) (a:Act) (w:x3) (a':Act) (w':x3):Prop:=
 ∃e v,K e w'/\S2 N e a'/\a'=a.put o.dst v/\(free.1=false->cC free.2 w w')
theorem e9.of {free:ft} {K:Env->x3->Prop} {x:eu} (f:K (dT e o.dst x) w') (h:S2 N e a) (j:jo N o.dst=true) (J:x.val=v)
  (m:free.1=false->cC free.2 w w'):e9 N free K o a w (a.put o.dst v) w':=⟨_,v,f,h.put j J,rfl,m⟩
theorem xL {free:ft} {K:Env->x3->Prop} {Q:Exit->Act->x3->Prop} {f:R3} {args:Array x1} (m:S2 N e a) (p:jo N o.dst=true)
  (h:Calls P f args w λj w'=>∃v,j= .returned v/\(free.1=false->cC free.2 w w')/\K (dT e o.dst (.v v)) w'):
  o.uponIn (ep r) 0 P a (e9 N free K o a w) Q (.ok (.enter f args) w):=by
 rw[U9.uponIn_enter];refine⟨tL _ _,CallsIn.mono (xJ h) ?_⟩;rintro j w' ⟨v,rfl,q,s⟩;exact e9.of s m p rfl q
theorem lj {x:S0} {y:eu} (h:eG e x=σ y):cT e x=y.val:=by simp[cT,h]
theorem xM {l:List S0} {x:S0} (hk:known e l=true) (J:x∈l):∃y,eG e x=σ y:=Option.isSome_iff_exists.1 (tK hk x J)
theorem xN {K:Env->(x3->Prop)->Prop} (h:li P o e w K) (r:S2 N e a) (I:jo N o.dst=true):
  ∃v,∃st:x3->Prop,(∀w',Ext w w'->(execOp a.eval o).run P w'= .ok (.value v) w')/\(∃A,K A st/\S2 N A (a.put o.dst v))/\(∀c,o.op≠ .defer c)/\
   (∀w',st w'-> ∀j,Ext w' j->(execOp a.eval o).run P j= .ok (.value v) j):=by
 unfold li at h;cases hk:known e (opsOf o.op) with
 |false=>rw[hk] at h;exact h.elim
 |true=>
  rw[hk] at h;simp only[cond_true] at h;have put:∀ {x:eu} {v:x1} {st:x3->Prop},K (dT e o.dst x) st->x.val=v-> ∃A,K A st/\S2 N A (a.put o.dst v):=λh1 B=>⟨_,h1,r.put I B⟩;cases f:o.op with
  |move x=>
   rw[f] at h;simp only at h;cases J:eG e x with
   |none=>rw[J] at h;exact h.elim
   |some y=>
    rw[J] at h;have all:∀w':x3,(execOp a.eval o).run P w'= .ok (.value y.val) w':=λw'=>by
     rw[jX r hk (by simp[f])];unfold execOp;simp only[f,V0,lj J]
    exact⟨y.val,_,λw' _=>all w',put h rfl,Ξ,λ_ _ j _=>all j⟩
  |assign x=>
   rw[f] at h;simp only at h;cases J:eG e x with
   |none=>rw[J] at h;exact h.elim
   |some y=>
    rw[J] at h;have all:∀w':x3,(execOp a.eval o).run P w'= .ok (.value y.val) w':=λw'=>by
     rw[jX r hk (by simp[f])];unfold execOp;simp only[f,V0,lj J]
    exact⟨y.val,_,λw' _=>all w',put h rfl,Ξ,λ_ _ j _=>all j⟩
  |pick c x y=>
   rw[f] at h;simp only at h;have E:=hk;rw[f] at E;obtain⟨O,J⟩:=xM E (x:=x) (by simp[opsOf]);obtain⟨Q,H⟩:=xM E (x:=y) (by simp[opsOf]);have C:∀ (t:Bool) (w':x3),cT e c= .bool t->(execOp a.eval o).run P w'= .ok (.value (if t=true then cT e x else cT e y)) w':=by
    intro t w' F;rw[jX r hk (by simp[f])];unfold execOp;simp[f,F,asBool,V0]
   cases p:eG e c with
   |none=>rw[p] at h;exact h.elim
   |some L=>
    rw[p] at h;cases L with
    |b t=>
     cases t with
     |true=>
      simp only[J] at h;exact⟨_,_,λw' _=>C true w' (lj p),put h (by simp[lj J]),Ξ,λ_ _ w' _=>C true w' (lj p)⟩
     |false=>
      simp only[H] at h;exact⟨_,_,λw' _=>C false w' (lj p),put h (by simp[lj H]),Ξ,λ_ _ w' _=>C false w' (lj p)⟩
    |v z=>
     obtain⟨t,M,F,af⟩:=h;have q:=λw'=>C t w' (by rw[lj p];exact M);cases t with
     |true=>exact⟨_,_,λw' _=>q w',put (F rfl) rfl,Ξ,λ_ _ w' _=>q w'⟩
     |false=>exact⟨_,_,λw' _=>q w',put (af rfl) rfl,Ξ,λ_ _ w' _=>q w'⟩
    |u=>exact h.elim
  |call c=>
   rw[f] at h;simp only at h;cases p:c.callee with
   |builtin b=>
    rw[p] at h;simp only at h;rw[tM] at h;cases U:n8 b c.argTypes o.type (c.args.map (cT e)) with
    |none=>rw[U] at h;exact h.elim
    |some s=>
     rw[U] at h;obtain⟨v,q,G⟩:=h;have all:∀w':x3,s.run P w'= .ok v w'->(execOp a.eval o).run P w'= .ok (.value v) w':=λw' q=>by
      rw[jX r hk (by simp[f])];unfold execOp;cases b<;>simp only[n8] at U<;>first|(cases U;done)|(cases U;simp[f,p,resolve,invoke,builtin,q,W3])
     exact⟨v,_,λw' hw=>all w' (q w' hw),put G rfl,Ξ,λw' h1 j B=>all j (h1 j B)⟩
   |value x=>rw[p] at h;exact h.elim
   |invoke x m=>rw[p] at h;exact h.elim
  |_=>
   rw[f] at h
   first
    |(simp only[pv] at h;done)
    |(obtain⟨v,q,G⟩:=h
      refine⟨v,_,λw' hw=>?_,put G rfl,Ξ,λw' h1 j B=>?_⟩
      .rw[jX r hk (by simp[f])];exact tO P (by rw[f];rfl) (q w' hw)
      .rw[jX r hk (by simp[f])];exact tO P (by rw[f];rfl) (h1 j B))
theorem Fa {free:ft} {K:Env->x3->Prop} {Q:Exit->Act->x3->Prop} (h:tP P free o e w K) (p:S2 N e a) (C:jo N o.dst=true):
  o.wpIn (ep r) 0 P a w (e9 N free K o a w) Q:=by
 unfold tP at h;cases hk:known e (opsOf o.op) with
 |false=>rw[hk] at h;exact h.elim
 |true=>
  rw[hk] at h;simp only[cond_true] at h;cases j:o.op with
  |call c=>
   rw[j] at h;simp only at h;cases E:c.callee with
   |builtin b=>
    rw[E] at h;simp only at h;rw[tM] at h;cases U:n8 b c.argTypes o.type (c.args.map (cT e)) with
    |none=>rw[U] at h;exact h.elim
    |some s=>
     rw[U] at h;obtain⟨v,w',q,A,B⟩:=h;refine pw p hk (by simp[j]) (by simp[j]) (v:=v) (w':=w') ?_ (e9.of B p C rfl λ_=>A.b);unfold execOp;cases b<;>simp only[n8] at U<;>first|(cases U;done)|(cases U;simp[j,E,resolve,invoke,builtin,q,W3])
   |value x=>
    rw[E] at h;have step:∀ (d:Deferred) (y:x1),cT e x=y->Deferred.ofValue y (c.args.map (cT e))=pure d->
      (invoke d.target d.args).run P w=(execOp (cT e) o).run P w:=by
     intro d y z R;unfold execOp;simp only[j,E,resolve,z,R,W0,V0,W3]
    have H:∀ (g:R3) (first cap:Array x1),cT e x= .func (.func g) first cap->
      (execOp (cT e) o).run P w=(callFunc g (first.toList++bT (cT e) c.args.toList++cap.toList).toArray).run P w:=by
     intro g first cap z
     rw[<-step {target:=.fn (.func g) cap,args:=first++c.args.map (cT e)} _ z rfl];simp only[invoke];have I:first++c.args.map (cT e)++cap=(first.toList++bT (cT e) c.args.toList++cap.toList).toArray:=by apply Array.toList_inj.1;simp[rb]
     rw[I]
    have enter:∀ (g:R3) (first cap:Array x1),cT e x= .func (.func g) first cap->Enters P g->
      (execOp (cT e) o).run P w= .ok (.enter g (first.toList++bT (cT e) c.args.toList++cap.toList).toArray) w:=by
     intro g first cap z F
     rw[H g first cap z,F]
    have go:∀ (g:R3) (first cap:Array x1),cT e x= .func (.func g) first cap->
      (bif free.1 then gx P g (first.toList++bT (cT e) c.args.toList++cap.toList) w λv w'=>K (dT e o.dst (.v v)) w'
       else am P g (first.toList++bT (cT e) c.args.toList++cap.toList) w λv w'=>K (dT e o.dst (.v v)) w')->
      o.wpIn (ep r) 0 P a w (e9 N free K o a w) Q:=by
     intro g first cap z h
     obtain⟨fr,S⟩:=free;cases fr with
     |true=>
      rcases h with⟨F,J⟩|⟨v,w',q,B⟩
      .refine⟨λ_ _=>trivial,?_⟩;rw[U9.semAt_eq _ _ _ (by simp[j]),jX p hk (by simp[j])];rw[enter g first cap z F];exact xL p C (J.mono λG w' ⟨v,h1,L⟩=>⟨v,h1,(λh=>by cases h),L⟩)
      .rw[<-H g first cap z] at q;exact pw p hk (by simp[j]) (by simp[j]) q (e9.of B p C rfl λh=>by cases h)
     |false=>
      rcases h with⟨F,J⟩|⟨v,w',q,A,B⟩
      .refine⟨λ_ _=>trivial,?_⟩;rw[U9.semAt_eq _ _ _ (by simp[j]),jX p hk (by simp[j])];rw[enter g first cap z F];exact xL p C (J.mono λG w' ⟨v,h1,A,L⟩=>⟨v,h1,λ_=>A.b,L⟩)
      .rw[<-H g first cap z] at q;exact pw p hk (by simp[j]) (by simp[j]) q (e9.of B p C rfl λ_=>A.b)
    have M:re P free.1 (cT e x) (bT (cT e) c.args.toList) w (λv w'=>K (dT e o.dst (.v v)) w')->
      o.wpIn (ep r) 0 P a w (e9 N free K o a w) Q:=by
     intro h;unfold re at h;split at h
     .rename_i g first cap z
      exact go g first cap z h
     .rename_i l first cap z
      obtain⟨fn,tmps,O,body,T,V⟩:hD P l (first.toList++bT (cT e) c.args.toList) w λv w'=>(free.1=false->cC free.2 w w')/\K (dT e o.dst (.v v)) w':=by
       obtain⟨fr,S⟩:=free;cases fr with
       |true=>exact hD.mono h.2 λv w' hk=>⟨(λh=>by cases h),hk⟩
       |false=>exact hD.mono h λv w' hk=>⟨λ_=>hk.1.b,hk.2⟩
      refine⟨λ_ _=>trivial,?_⟩;rw[U9.semAt_eq _ _ _ (by simp[j]),jX p hk (by simp[j])];have:(execOp (cT e) o).run P w= .ok (.round l fn tmps O body) w:=by
       rw[<-step {target:=.fn (.yield l) cap,args:=first++c.args.map (cT e)} _ z rfl,<-T];have I:(first.toList++bT (cT e) c.args.toList).toArray=first++c.args.map (cT e):=by apply Array.toList_inj.1;simp[rb]
       rw[I];rfl
      rw[this,U9.uponIn_round];refine⟨tL _ _,?_⟩;have W:RoundIn (ep r) (0-1) P l fn tmps O body w λG w'=>∃v,G= .returned v/\(free.1=false->cC free.2 w w')/\K (dT e o.dst (.v v)) w':=V;refine RoundIn.mono W ?_;rintro G w' ⟨v,rfl,A,B⟩;exact e9.of B p C rfl A
     .exact h.elim
    cases x with
    |func f=>exact go f #[] #[] rfl (by simpa using h)
    |tmp t=>exact M h
    |const v=>exact M h
    |global g=>exact M h
   |invoke x m=>rw[E] at h;exact h.elim
  |next x str=>
   rw[j] at h;obtain⟨v,w',q,A,B⟩:=h;refine pw p hk (by simp[j]) (by simp[j]) (v:=v) (w':=w') ?_ (e9.of B p C rfl A);rw[E5 _ _ o.type] at q;unfold execOp;simp only[j,W0,q,W3,V0]
  |_=>
   rw[j] at h
   first
    |(simp only[pv,tN] at h;done)
    |(obtain⟨v,w',q,A,B⟩:=h
      exact pw p hk (by simp[j]) (by simp[j]) (tO P (by rw[j];rfl) q) (e9.of B p C rfl λ_=>A.b))
    |(obtain⟨v,w',q,A,B⟩:=h
      exact E9 p hk (by simp[j]) (by simp[j]) (E6 P (by rw[j];rfl) q) (e9.of B p C rfl λ_=>A.b))
theorem rf {free:ft} {K:Env->x3->Prop} {Q:Exit->Act->x3->Prop} (h:oa P free o e w K) (j:S2 N e a) (m:jo N o.dst=true):
  o.wpIn (ep r) 0 P a w (e9 N free K o a w) Q:=by
 unfold oa at h;cases p:iR o with
 |false=>rw[p] at h;exact Fa h j m
 |true=>
  rw[p] at h;have h:li P o e w (λf _=>K f w):=h;obtain⟨v,st,q,⟨f,s,x⟩,y,_⟩:=xN h j m;refine⟨λ_ _=>trivial,?_⟩;rw[U9.semAt_eq _ _ _ y,q w (Ext.refl _),U9.uponIn_value];exact⟨f,v,s,x,rfl,λ_=>cC.refl _ _⟩
end
section
variable {P:W5}
def Still {α:Type} (P:W5) (s:Sem α):Prop:=∀w v V,s.run P w= .ok v V->V=w/\ ∀w',s.run P w'= .ok v w'
theorem Still.pure {α:Type} (a:α):Still P (Pure.pure a:Sem α):=λw v V h=>by
 rw[V0] at h;cases h;exact⟨rfl,λw'=>by rw[V0]⟩
theorem Still.bind {α β:Type} {s:Sem α} {f:α->Sem β} (U:Still P s) (af:∀a,Still P (f a)):Still P (s >>= f):=λw v V h=>by
 rw[W0] at h;cases e:s.run P w with
 |halt x aa=>rw[e] at h;simp[W3] at h
 |ok a aa=>
  rw[e] at h;obtain⟨rfl,j⟩:=U w a aa e;obtain⟨rfl,m⟩:=af a _ v V h;exact⟨rfl,λw'=>by rw[W0,j w'];exact m w'⟩
theorem Still.never {α:Type} {s:Sem α} (h:∀w v V,s.run P w≠ .ok v V):Still P s:=λw v V h'=>absurd h' (h w v V)
theorem Still.stuck {α:Type} (m:String):Still P (stuck m:Sem α):=.never λw v V h=>by simp[Go.stuck] at h
theorem Still.unsupported {α:Type} (m):Still P (unsupported m:Sem α):=.never λw v V h=>by simp[Go.unsupported] at h
theorem Still.program:Still P program:=λw v V h=>by cases h;exact⟨rfl,λ_=>rfl⟩
theorem Still.underlying (t:r9):Still P (underlying t):=Still.bind .program λp=>by
 cases p.underlying t with
 |some d=>exact Still.pure d
 |none=>exact Still.stuck _
theorem Still.typeInfo (t:r9):Still P (typeInfo t):=Still.bind .program λp=>by
 cases p.info? t with
 |some d=>exact Still.pure d
 |none=>exact Still.stuck _
theorem Still.sizeOf (t:r9):Still P (sizeOf t):=Still.bind (.typeInfo t) λ_=>Still.pure _
theorem Still.boundsPanic {α:Type} (k:o5) (x y:Int) (c:BoundsCode):Still P (boundsPanic k x y c:Sem α):=.never λw v V h=>by
 have e:∀ (s:Sem Bool) (w:x3) (v:α) (V:x3),(s >>= λb=>(runtimePanic (.bounds (X2.wrap x) y b c):Sem α)).run P w≠ .ok v V:=by
  intro s w v V h;rw[W0] at h;cases f:s.run P w with
  |halt x aa=>rw[f] at h;simp[W3] at h
  |ok a aa=>rw[f] at h;simp[W3,Go.runtimePanic,Go.goPanic] at h
 unfold Go.boundsPanic at h;dsimp only at h;split at h
 .exact e _ _ _ _ h
 .exact e _ _ _ _ h
theorem Still.asIntOf (v:x1):Still P (asIntOf v):=by
 unfold Go.asIntOf;split
 .exact Still.pure _
 .exact Still.unsupported _
 .exact Still.stuck _
theorem Still.sureAddr (v:x1):Still P (Instr.sureAddr v):=by
 unfold Instr.sureAddr;split
 .exact Still.pure _
 .exact Still.stuck _
theorem Still.extract (v:x1) (i:Nat):Still P (Z7 v i):=by
 unfold Z7;split
 .split
  .exact Still.pure _
  .exact Still.stuck _
 .exact Still.stuck _
theorem Still.indexAt (t:r9) (x i:x1):Still P (j4 t x i):=by
 have tail:∀ (t:r9) (k:o5) (i:Int) (base:Option Addr) (len:Nat) (e:r9),Still P (do
   let f:=len<=1&&(match <-Go.underlying t with| .array ..=>true|_=>false)
   match base with
   |some a=>
    if 0<=i/\i<len then Pure.pure (x1.pointer (σ (a.add (i.toNat*(<-Go.sizeOf e)))))
    else if f then Go.unsupported (.noEntry "op/indexAddr.an index out of range at an array of length 0 or 1 (ledger 616)")
    else Go.boundsPanic k i len .index
   |none=>Go.boundsPanic k i 0 .index):=by
  intro t k i base len e;refine .bind (.underlying t) λd=>?_;cases base with
  |none=>exact Still.boundsPanic _ _ _ _
  |some a=>
   dsimp only;split
   .exact .bind (.sizeOf e) λ_=>.pure _
   .split<;>split<;>first|exact Still.unsupported _|exact Still.boundsPanic _ _ _ _
 unfold j4;refine .bind (.asIntOf i) λh=>?_;refine .bind (.underlying t) λd=>?_;split
 .refine .bind (.sureAddr _) λb=>?_;refine .bind (.pure _) λy=>?_;exact tail _ _ _ _ _ _
 .refine .bind (.pure _) λy=>?_;exact tail _ _ _ _ _ _
 .refine .bind (.stuck _) λy=>?_;exact tail _ _ _ _ _ _
end
section
variable (P:W5)
def rg (free:ft) (ops:Array U9) (o:U9) (e:Env) (w:x3) (K:Env->x3->Prop):Prop:=
 match o.guard with
 |none=>oa P free o e w K
 |some (j,b)=>
  match (ops[j]?).bind (·.dst) with
  |none=>False
  |some s=>
   match look e s with
   |some (.b c)=>bif xor c b then K (dT e o.dst .u) w else oa P free o e w K
   |some (.v x)=>
    Split x (bif b then oa P free o ((s,.b true)::e) w K else K (dT ((s,.b true)::e) o.dst .u) w)
     (bif b then K (dT ((s,.b false)::e) o.dst .u) w else oa P free o ((s,.b false)::e) w K)
   |some .u=>K (dT e o.dst .u) w
   |none=>False
def ob (free:ft) (ops:Array U9):List U9->Env->x3->(Env->x3->Prop)->Prop
 |[],e,w,K=>K e w
 |o::l,e,w,K=>rg P free ops o e w λa w'=>ob free ops l a w' K
def tQ (ops:Array U9) (o:U9) (e:Env) (w:x3) (K:Env->(x3->Prop)->Prop):Prop:=
 match o.guard with
 |none=>li P o e w K
 |some (j,b)=>
  match (ops[j]?).bind (·.dst) with
  |none=>False
  |some s=>
   match look e s with
   |some (.b c)=>bif xor c b then K (dT e o.dst .u) (λ_=>True) else li P o e w K
   |some (.v x)=>
    Split x (bif b then li P o ((s,.b true)::e) w K else K (dT ((s,.b true)::e) o.dst .u) (λ_=>True))
     (bif b then K (dT ((s,.b false)::e) o.dst .u) (λ_=>True) else li P o ((s,.b false)::e) w K)
   |some .u=>K (dT e o.dst .u) (λ_=>True)
   |none=>False
def lk (o:U9):Bool:=
 match o.op with
 | .move _| .assign _| .extract .. | .indexAddr ..=>true
 |_=>false
def l0 (ops:Array U9):List Nat->Option Nat
 |[]=>ν
 |i::r=>match ops[i]? with
  |some o=>bif iR o then σ i else l0 ops r
  |none=>l0 ops r
def tR (p:Nat->Prop):List Nat->Prop
 |[]=>True
 |[i]=>p i
 |i::r=>p i/\tR p r
def kD (bs:Array Nat) (j k:Nat):Bool:=!(T5 k j)&&(!((bs.getD j 0).testBit k)&& !((bs.getD k 0).testBit j))
def px (same:Bool) (q:Nat) (w:x3) (st:x3->Prop) (a:List (x3×List (Nat×(x3->Prop)))):List (x3×List (Nat×(x3->Prop))):=
 match same,a with
 |true,g::r=>(g.1,(q,st)::g.2)::r
 |_,a=>(w,[(q,st)])::a
def py (bs:Array Nat) (j:Nat):List (Nat×(x3->Prop))->Bool
 |[]=>false
 |x::r=>kD bs j x.1||py bs j r
def oc (bs:Array Nat) (j:Nat) (w':x3):List (Nat×(x3->Prop))->Prop
 |[]=>True
 |x::r=>bif kD bs j x.1 then x.2 w'/\oc bs j w' r else oc bs j w' r
def mS (bs:Array Nat) (j:Nat) (w':x3) (C:Prop):List (x3×List (Nat×(x3->Prop)))->Prop
 |[]=>C
 |g::r=>bif py bs j g.2 then (Ext g.1 w'\/oc bs j w' g.2)/\mS bs j w' C r else mS bs j w' C r
def l1 (free:ft) (ops:Array U9) (bs:Array Nat):Nat->Array Bool->Bool->List (x3×List (Nat×(x3->Prop)))->Env->x3->(Env->x3->Prop)->Prop
 |0,a,_,_,e,w,K=>match Region.ready .any ops a with|[]=>K e w|_=>False
 |fuel+1,a,same,f,e,w,K=>
  match Region.ready .any ops a with
  |[]=>K e w
  |i::r=>
   match l0 ops (i::r) with
   |some q=>
    bif Region.free .any ops a q then
     match ops[q]? with
     |some o=>tQ P ops o e w λh st=>
       bif lk o then l1 free ops bs fuel (a.setIfInBounds q true) same f h w K
       else l1 free ops bs fuel (a.setIfInBounds q true) true (px same q w st f) h w K
     |none=>False
    else False
   |none=>
    tR (λj=>match ops[j]? with
     |some o=>rg P free ops o e w λh w'=>mS bs j w' (l1 free ops bs fuel (a.setIfInBounds j true) false f h w' K) f
     |none=>False) (i::r)
def tS (free:ft) (ops:Array U9) (e:Env) (w:x3) (K:Env->x3->Prop):Prop:=
 bif Region.noSelect ops then l1 P free ops (Region.before ops) ops.size (Array.replicate ops.size false) false [] e w K else False
end
section
variable {P:W5} {N:Nat} {r:Option Nat} {free:ft} {ops:Array U9}
theorem Fb {e:Env} {a:Act} (m:S2 N e a) {s:Nat} {c:Bool} (p:(ops[j]?).bind (·.dst)=σ s) {x:eu} (U:look e s=σ x) (J:x.val= .bool c):
  yielded ops a.tmps j=σ c:=by
 have h:=m.2 s x U;rw[J] at h;have q:a.tmps[s]? =σ (.bool c):=by
  rw[Array.getD_eq_getD_getElem?] at h;cases f:a.tmps[s]? with
  |none=>rw[f] at h;simp[undef] at h
  |some y=>rw[f] at h;simpa using h
 simp[yielded,p,q]
theorem rh {e:Env} {a:Act} (f:S2 N e a) {o:U9} {s:Nat} {b c:Bool} (h:o.guard=σ (j,b)) (m:(ops[j]?).bind (·.dst)=σ s) {x:eu}
  (U:look e s=σ x) (J:x.val= .bool c):Region.wanted o (yielded ops a.tmps)= !(xor c b):=by
 simp only[Region.wanted,h,Fb f m U J];cases c<;>cases b<;>rfl
theorem xO {e:Env} {a:Act} (m:S2 N e a) {o:U9} {s:Nat} {b:Bool} (p:o.guard=σ (j,b)) (q:(ops[j]?).bind (·.dst)=σ s)
  (U:look e s=σ .u):Region.wanted o (yielded ops a.tmps)=false:=by
 have h:=m.2 s .u U;have r:yielded ops a.tmps j=ν:=by
  rw[Array.getD_eq_getD_getElem?] at h;unfold yielded;rw[q];cases f:a.tmps[s]? with
  |none=>simp[f]
  |some y=>
   rw[f] at h;simp only[V9,eu.val] at h;subst h;simp[f,undef]
 simp[Region.wanted,p,r]
theorem S2.lit {e:Env} {a:Act} (h:S2 N e a) {s:Nat} {x:eu} {c:Bool} (U:look e s=σ x) (J:x.val= .bool c):S2 N ((s,.b c)::e) a:=by
 refine⟨h.1,λt y f=>?_⟩;simp only[look] at f;cases j:T5 s t with
 |true=>
  have:s=t:=Nat.eq_of_beq_eq_true j;subst this;simp only[j,cond_true,Y8] at f;subst f;rw[h.2 s x U,J];rfl
 |false=>simp only[j,cond_false] at f;exact h.2 t y f
theorem xP {o:U9} {e:Env} {a:Act} {K:Env->x3->Prop} {Q:Exit->Act->x3->Prop} (h:rg P free ops o e w K) (f:S2 N e a) (m:jo N o.dst=true):
  (Region.wanted o (yielded ops a.tmps)=true/\o.wpIn (ep r) 0 P a w (e9 N free K o a w) Q)\/
  (Region.wanted o (yielded ops a.tmps)=false/\e9 N free K o a w (a.put o.dst undef) w):=by
 unfold rg at h;cases p:o.guard with
 |none=>rw[p] at h;exact .inl ⟨by simp[Region.wanted,p],rf h f m⟩
 |some B=>
  obtain⟨j,b⟩:=B;rw[p] at h;simp only at h;cases q:(ops[j]?).bind (·.dst) with
  |none=>rw[q] at h;exact h.elim
  |some s=>
   rw[q] at h;simp only at h;cases U:look e s with
   |none=>rw[U] at h;exact h.elim
   |some x=>
    rw[U] at h;cases x with
    |b c=>
     simp only at h;have hw:=rh f p q U (c:=c) rfl;cases J:xor c b with
     |true=>
      rw[J] at h hw;exact .inr ⟨hw,e9.of h f m rfl λ_=>cC.refl _ _⟩
     |false=>
      rw[J] at h hw;exact .inl ⟨hw,rf h f m⟩
    |v y=>
     simp only at h;obtain⟨c,rfl,z,af⟩:=h;have hw:=rh f p q U (c:=c) rfl;have A:=f.lit U (c:=c) rfl;cases c with
     |true=>
      have z:=z rfl;cases b with
      |true=>exact .inl ⟨hw,rf z A m⟩
      |false=>exact .inr ⟨hw,e9.of z A m rfl λ_=>cC.refl _ _⟩
     |false=>
      have af:=af rfl;cases b with
      |true=>exact .inr ⟨hw,e9.of af A m rfl λ_=>cC.refl _ _⟩
      |false=>exact .inl ⟨hw,rf af A m⟩
    |u=>exact .inr ⟨xO f p q U,e9.of h f m rfl λ_=>cC.refl _ _⟩
def gA (D:List Nat) (a a':Act):Prop:=a'.defers=a.defers/\ ∀t,t∉D->a'.tmps.getD t undef=a.tmps.getD t undef
theorem gA.refl (D:List Nat) (a:Act):gA D a a:=⟨rfl,λ_ _=>rfl⟩
theorem gA.trans {a b c:Act} (h:gA D a b) (k:gA D b c):gA D a c:=⟨k.1.trans h.1,λt e=>(k.2 t e).trans (h.2 t e)⟩
theorem gA.put (a:Act) {d:Option Tmp} (v:x1) (e:∀t,d=σ t->t∈D):gA D a (a.put d v):=by
 cases d with
 |none=>exact gA.refl _ _
 |some s=>
  refine⟨rfl,λt f=>?_⟩;have j:s≠t:=λh=>f (h▸e s rfl);simp only[Act.put,Array.getD_eq_getD_getElem?];rw[Array.getElem?_setIfInBounds_ne j]
def l2 (N:Nat) (free:ft) (K:Env->x3->Prop) (D:List Nat) (a:Act) (w:x3) (a':Act) (w':x3):Prop:=
 ∃e,K e w'/\S2 N e a'/\gA D a a'/\(free.1=false->cC free.2 w w')
theorem l2.step {K:Env->x3->Prop} {a e a':Act} {V:x3} (h:l2 N free K D e V a' w') (hk:gA D a e) (f:free.1=false->cC free.2 w V):
  l2 N free K D a w a' w':=by
 obtain⟨j,h1,m,p,q⟩:=h;exact⟨j,h1,m,hk.trans p,λaf=>(f af).trans (q af)⟩
def mT (N:Nat) (l:List U9):Bool:=l.all λo=>jo N o.dst
theorem Fc {K:Env->x3->Prop} {Q:Exit->Act->x3->Prop} (z:∀o∈ops.toList,∀t,o.dst=σ t->t∈D) (s:mT N ops.toList=true):
  ∀ (l:List U9) (k:Nat) (e:Env) (a:Act) (w:x3),(∀j,l[j]? =ops[k+j]?)->ob P free ops l e w K->S2 N e a->
   (∀a' w',l2 N free K D a w a' w'->Q .normal a' w')->wpOpsIn (ep r) 0 P ops Q (List.range' k l.length) a w:=by
 intro l;induction l with
 |nil=>
  intro k e a w _ h f m;exact m a w ⟨e,h,f,gA.refl _ _,λ_=>cC.refl _ _⟩
 |cons o l A=>
  intro k e a w x h f m;have p:=x 0;simp only[List.getElem?_cons_zero,Nat.add_zero] at p;have y:o∈ops.toList:=by
   have:=p.symm;rw[<-S4] at this;exact x5 this
  have B:jo N o.dst=true:=by
   simp only[mT,List.all_eq_true] at s;exact s o y
  have C:∀j,l[j]? =ops[k+1+j]?:=λj=>by
   have:=x (j+1);rw[List.getElem?_cons_succ] at this;rw[this];congr 1;omega
  have next:∀q V,e9 N free (λE w'=>ob P free ops l E w' K) o a w q V->wpOpsIn (ep r) 0 P ops Q (List.range' (k+1) l.length) q V:=by
   rintro q V ⟨F,v,G,H,rfl,I⟩;refine A (k+1) F _ V C G H λa' w' L=>m a' w' (L.step (gA.put a v λt M=>z o y t M) I)
  simp only[ob] at h;show wpOpsIn (ep r) 0 P ops Q (k::List.range' (k+1) l.length) a w;unfold wpOpsIn;rw[<-p];simp only;rcases xP (r:=r) (Q:=Q) h f B with⟨hw,J⟩|⟨hw,J⟩
  .rw[if_pos hw];exact U9.wpIn_mono next J
  .rw[hw];exact⟨λ_ _=>trivial,next _ _ J⟩
theorem Fe {K:Env->x3->Prop} {Q:Exit->Act->x3->Prop} {id:Nat} {e:Env} {a:Act} (f:∀o∈ops.toList,∀t,o.dst=σ t->t∈D)
  (m:mT N ops.toList=true) (h:ob P free ops ops.toList e w K) (p:S2 N e a) (q:∀a' w',l2 N free K D a w a' w'->Q .normal a' w'):
  (Code.region id ops false).wpIn (ep r) 0 P Q a w:=by
 refine wpIn_region ?_;have:=Fc (r:=r) f m ops.toList 0 e a w (λj=>Ξ) h p q;rw[List.range_eq_range'];simpa using this
end
section
variable {P:W5} {N:Nat} {r:Option Nat} {free:ft} {ops:Array U9} {Q:Exit->Act->x3->Prop}
theorem Ff (e:Option Nat) (o:U9) (U:∀cs b,o.op≠ .select cs b) (a:Act) (d:Option Tmp) (v:x1) (h:∀t,d=σ t->t∉o.looksAt ops):
  o.semAt e (a.put d v).eval=o.semAt e a.eval:=by
 have he:=execOp_put o U a d v h;unfold U9.semAt;split
 .rename_i l c f;have:resolve (a.put d v).eval c o.type=resolve a.eval c o.type:=resolve_congr c o.type λx J=>Act.eval_put λt j m=>h t j (by
   subst m;refine List.mem_append_left _ (List.mem_filterMap.2 ⟨.tmp t,?_,rfl⟩);rw[f];simpa[Op.operands] using J)
  rw[this]
 .exact he
def l3 (o:U9) (w0:x3) (st:x3->Prop) (w':x3):Prop:=lk o=true\/Ext w0 w'\/ ∃V,st V/\Ext V w'
theorem l3.ext {o:U9} {w0:x3} {st:x3->Prop} (h:l3 o w0 st w) (k:Ext w w'):l3 o w0 st w':=by
 rcases h with h|h|⟨V,h1,a⟩
 .exact .inl h
 .exact .inr (.inl (h.trans k))
 .exact .inr (.inr ⟨V,h1,a.trans k⟩)
theorem Fg {o:U9} (hm:lk o=true) {a:S0->x1} (h:(execOp a o).run P w= .ok (.value v) w):(execOp a o).run P w'= .ok (.value v) w':=by
 unfold lk at hm;split at hm
 .rename_i x J;unfold execOp at h ⊢;simp only[J,V0,Result.ok.injEq,and_true] at h ⊢;exact h
 .rename_i x J;unfold execOp at h ⊢;simp only[J,V0,Result.ok.injEq,and_true] at h ⊢;exact h
 .rename_i x i J;unfold execOp at h ⊢;simp only[J] at h ⊢;exact ((Still.bind (Still.extract _ _) λ_=>Still.pure _) _ _ _ h).2 _
 .rename_i t x i J;unfold execOp at h ⊢;simp only[J] at h ⊢;exact ((Still.bind (Still.indexAt _ _ _) λ_=>Still.pure _) _ _ _ h).2 _
 .cases hm
def hY (P:W5) (ops:Array U9) (o:U9) (v:x1) (a:Act) (w0:x3->Prop):Prop:=
 (Region.wanted o (yielded ops a.tmps)=true/\(∀c,o.op≠ .defer c)/\ ∀w',w0 w'->(execOp a.eval o).run P w'= .ok (.value v) w')\/
 (Region.wanted o (yielded ops a.tmps)=false/\v=undef)
theorem hY.put {o e:U9} {a:Act} {w0:x3->Prop} (f:hY P ops o v a w0) (U:∀cs b,o.op≠ .select cs b) (h:∀t,e.dst=σ t->t∉o.looksAt ops) (u:x1):
  hY P ops o v (a.put e.dst u) w0:=by
 unfold hY at*;rw[execOp_put o U a e.dst u h,wanted_put o a e.dst u h];exact f
theorem hY.go {i:Nat} {e:U9} {a:Act} {w0:x3->Prop} (hi:ops[i]? =σ e) (f:hY P ops e v a w0) (hw:w0 w) {K:Act->x3->Prop} (h:K (a.put e.dst v) w):
  wpOpIn (ep r) 0 P ops Q i K a w:=by
 unfold wpOpIn;simp only[hi];rcases f with⟨h1,j,m⟩|⟨h1,rfl⟩
 .rw[if_pos h1];refine⟨λ_ _=>trivial,?_⟩;rw[U9.semAt_eq _ _ _ j,m w hw,U9.uponIn_value];exact h
 .rw[h1];exact⟨λ_ _=>trivial,h⟩
theorem Fh {m q:U9} (A:ops[j]? =σ q) (B:m.apart ops q=true) (C:∀cs b,m.op≠ .select cs b) (E:∀cs b,q.op≠ .select cs b)
  (y:∀c a w,¬Q (.panic c) a w) {K:Act->x3->Prop} {a:Act} {w:x3} {w0:x3->Prop} (p:hY P ops m v a w0) (h:wpOpIn (ep r) 0 P ops Q j K (a.put m.dst v) w):
  wpOpIn (ep r) 0 P ops Q j (λa' w'=>hY P ops m v a' w0/\K (a'.put m.dst v) w') a w:=by
 obtain⟨h1,s,F⟩:=U9.apart_spec B;have aZ:∀ (a:Act),hY P ops m v a w0-> ∀u,hY P ops m v (a.put q.dst u) w0:=λa p u=>p.put C F u;have G:∀d,hY P ops m v {a with defers:=d::a.defers} w0:=λd=>p;unfold wpOpIn at*;simp only[A] at*;rw[wanted_put q a m.dst v h1] at h;split
 .rename_i hw;simp only[hw,if_true] at h;obtain⟨_,h⟩:=h;refine⟨λ_ _=>trivial,?_⟩;rw[Ff _ q E a m.dst v h1] at h;generalize (q.semAt (ep r).round a.eval).run P w=res at*;cases res with
  |ok n w'=>
   cases n<;>simp only[U9.uponIn] at h ⊢
   case value u=>exact⟨aZ a p u,by rw[<-Act.put_comm a v u s];exact h⟩
   case skip=>exact⟨aZ a p _,by rw[<-Act.put_comm a v undef s];exact h⟩
   case defer d=>
    refine⟨aZ _ (G d) _,?_⟩;rw[<-Act.put_comm _ v undef s,<-Act.put_defers];exact h
   case enter f args=>
    refine⟨h.1,CallsIn.mono h.2 λe z he=>?_⟩;cases e with
    |returned u=>exact⟨aZ a p u,by rw[<-Act.put_comm a v u s];exact he⟩
    |panicked c=>exact absurd he (y _ _ _)
    |outgrown=>exact he
   case row row args=>exact⟨h.1,RowsIn.mono h.2 λu z he=>⟨aZ a p u,by rw[<-Act.put_comm a v u s];exact he⟩⟩
   case round l f tmps H body=>
    refine⟨h.1,RoundIn.mono h.2 λe z he=>?_⟩;cases e with
    |returned u=>exact⟨aZ a p u,by rw[<-Act.put_comm a v u s];exact he⟩
    |panicked c=>exact absurd he (y _ _ _)
    |outgrown=>exact he
  |halt x w'=>
   cases x<;>simp only[U9.uponIn] at h ⊢
   case panic u=>exact absurd h (y _ _ _)
 .rename_i hw;simp only[hw] at h;exact⟨λ_ _=>trivial,aZ a p _,by rw[<-Act.put_comm a v undef s];exact h.2⟩
def ll (ops:Array U9) (bs:Array Nat):Bool:=
 (X4 ops.size).all λj=>(X4 ops.size).all λk=>!((bs.getD j 0).testBit k)||
  (match ops[j]? with
   |some o=>o.after.any λe=>Region.binds .any e&&Nat.blt e.on j&&(T5 e.on k||(bs.getD e.on 0).testBit k)
   |none=>false)
def Down (ops:Array U9) (a:Array Bool):Prop:=
 ∀ (x:Nat) (o:U9),ops[x]? =σ o->a.getD x false=true-> ∀e∈o.after,Region.binds .any e=true->a.getD e.on false=true
theorem xQ {bs:Array Nat} (a:ll ops bs=true) {k:Nat} (m:j<ops.size) (hk:k<ops.size) (h:(bs.getD j 0).testBit k=true):
  ∃o,ops[j]? =σ o/\ ∃e∈o.after,Region.binds .any e=true/\e.on<j/\(e.on=k\/(bs.getD e.on 0).testBit k=true):=by
 simp only[ll,List.all_eq_true,List.mem_range] at a;have:=a j m k hk;rw[h] at this;simp only[Y6,Bool.false_or] at this;cases f:ops[j]? with
 |none=>rw[f] at this;cases this
 |some o=>
  rw[f] at this;obtain⟨e,he,J⟩:=Array.any_eq_true'.1 this;simp only[V1,Nat.blt_eq,Bool.or_eq_true] at J;exact⟨o,rfl,e,he,J.1.1,J.1.2,J.2.imp (λh=>Nat.eq_of_beq_eq_true h) id⟩
theorem Fi {bs:Array Nat} {a:Array Bool} (m:ll ops bs=true) (p:Down ops a):∀ (j k:Nat),j<ops.size->k<ops.size->a.getD j false=true->
  (bs.getD j 0).testBit k=true->a.getD k false=true:=by
 intro j;induction j using Nat.strongRecOn with
 |_ j q=>
  intro k r hk s h;obtain⟨o,w,e,he,x,y,h⟩:=xQ m r hk h;have f:=p j o w s e he x;rcases h with rfl|h
  .exact f
  .exact q e.on y k Ω hk f h
theorem xR {bs:Array Nat} {a:Array Bool} (f:ll ops bs=true) (r:Down ops a) {k:Nat} (hk:k<ops.size) (s:j∈Region.ready .any ops a)
  (h:(bs.getD j 0).testBit k=true):a.getD k false=true:=by
 obtain⟨_,o,m,w⟩:=mem_ready.1 s;have x:=(n9.1 m).1;obtain⟨o',p,e,he,y,z,h⟩:=xQ f x hk h;rw[m] at p;cases p;have q:=w e he y;rcases h with rfl|h
 .exact q
 .exact Fi f r e.on k Ω hk q h
theorem Down.set {a:Array Bool} (p:Down ops a) {i:Nat} (q:i∈Region.ready .any ops a):Down ops (a.setIfInBounds i true):=by
 intro x o J f e he h;by_cases j:x=i
 .subst j;obtain⟨_,o',m,r⟩:=mem_ready.1 q;rw[J] at m;cases m;exact getD_set_true (r e he h)
 .rw[getD_set_ne false (Ne.symm j)] at f;exact getD_set_true (p x o J f e he h)
theorem tT {a:Array Bool} {k:Nat} (h:a.getD k true=false):a.getD k false=false:=by
 rcases Nat.lt_or_ge k a.size with h'|h'
 .simpa[h'] using h
 .simp[Array.getElem?_eq_none h'] at h
def l4 (ops:Array U9) (i:Nat):Bool:=match ops[i]? with
 |some o=>iR o
 |none=>false
def l5 (bs:Array Nat) (a:List (x3×List (Nat×(x3->Prop)))) (j:Nat) (w':x3):Prop:=∀g∈a,∀x∈g.2,kD bs j x.1=true->Ext g.1 w'\/x.2 w'
theorem tU {bs:Array Nat} {j:Nat} {w':x3}:∀ {l:List (Nat×(x3->Prop))},oc bs j w' l-> ∀x∈l,kD bs j x.1=true->x.2 w'
 |[],_,_,h,_=>by cases h
 |y::l,h,x,J,hu=>by
  unfold oc at h;cases a:kD bs j y.1 with
  |true=>
   rw[a] at h;cases J with
   |head=>exact h.1
   |tail _ J=>exact tU h.2 x J hu
  |false=>
   rw[a] at h;cases J with
   |head=>rw[a] at hu;cases hu
   |tail _ J=>exact tU (show oc bs j w' l from h) x J hu
theorem xS {bs:Array Nat} {j:Nat}:∀ {l:List (Nat×(x3->Prop))},py bs j l=false-> ∀x∈l,kD bs j x.1=false
 |[],_,_,h=>by cases h
 |y::l,h,x,J=>by
  simp only[py,S3] at h;cases J with
  |head=>exact h.1
  |tail _ J=>exact xS h.2 x J
theorem tV {bs:Array Nat} {j:Nat} {w':x3} {C:Prop}:∀ {p:List (x3×List (Nat×(x3->Prop)))},mS bs j w' C p->C/\l5 bs p j w'
 |[],h=>⟨h,λg q=>by cases q⟩
 |g::r,h=>by
  unfold mS at h;cases hu:py bs j g.2 with
  |true=>
   rw[hu] at h;obtain⟨h1,f⟩:=tV h.2;refine⟨h1,λm a x J e=>?_⟩;cases a with
   |head=>exact h.1.imp id λh=>tU h x J e
   |tail _ a=>exact f m a x J e
  |false=>
   rw[hu] at h;obtain⟨h1,f⟩:=tV (show mS bs j w' C r from h);refine⟨h1,λm a x J e=>?_⟩;cases a with
   |head=>rw[xS hu x J] at e;cases e
   |tail _ a=>exact f m a x J e
def tW (ops:Array U9) (bs:Array Nat) (a:List (x3×List (Nat×(x3->Prop)))) (j:Nat) (w w':x3):Prop:=(l4 ops j=true->Ext w w')/\(l4 ops j=false->l5 bs a j w')
def ip (r:Option Nat) (P:W5) (ops:Array U9) (bs:Array Nat) (Q:Exit->Act->x3->Prop):Nat->Array Bool->List (x3×List (Nat×(x3->Prop)))->Act->x3->Prop
 |0,e,_,a,w=>Region.ready .any ops e=[]/\Q .normal a w
 |fuel+1,e,f,a,w=>(Region.ready .any ops e=[]->Q .normal a w)/\
  ∀i∈Region.ready .any ops e,wpOpIn (ep r) 0 P ops Q i (λa' w'=>tW ops bs f i w w'/\ip r P ops bs Q fuel (e.setIfInBounds i true) f a' w') a w
theorem ip.any {bs:Array Nat}:∀ (fuel:Nat) (e:Array Bool) (f:List (x3×List (Nat×(x3->Prop)))) (a:Act) (w:x3),ip r P ops bs Q fuel e f a w->wpAnyIn (ep r) 0 P .any ops Q fuel e a w
 |0,_,_,_,_,h=>h
 |fuel+1,_,_,_,_,h=>⟨h.1,λi hi=>wpOpIn_mono (λa' w' h'=>ip.any fuel _ _ a' w' h'.2) (h.2 i hi)⟩
theorem Fj {bs:Array Nat} {a:Array Bool} (e:ll ops bs=true) (f:Down ops a) {i:Nat} {q:U9} (hi:ops[i]? =σ q)
  (m:i∈Region.ready .any ops a) (p:j∈Region.ready .any ops a) (r:j≠i):kD bs j i=true:=by
 have s:=(n9.1 hi).1;obtain⟨w,A,x,_⟩:=mem_ready.1 p;have y:=(n9.1 x).1;have z:=(mem_ready.1 m).1;simp only[kD,V1,Bool.not_eq_true'];refine⟨?_,?_,?_⟩
 .cases h:T5 i j with
  |true=>exact absurd (Nat.eq_of_beq_eq_true h).symm r
  |false=>rfl
 .cases h:(bs.getD j 0).testBit i with
  |true=>have:=xR e f s p h;rw[tT z] at this;cases this
  |false=>rfl
 .cases h:(bs.getD i 0).testBit j with
  |true=>have:=xR e f y m h;rw[tT w] at this;cases this
  |false=>rfl
theorem ip.take {bs:Array Nat} (R:ll ops bs=true) (S:Region.noSelect ops=true) (T:∀c a w,¬Q (.panic c) a w) {i:Nat} {m:U9} (hi:ops[i]? =σ m) (U:iR m=true)
  {w0:x3} {z ev':List (x3×List (Nat×(x3->Prop)))} (F:∀j w',l5 bs ev' j w'->l5 bs z j w') {st:x3->Prop} (V:lk m=false-> ∀j w',kD bs j i=true->l5 bs ev' j w'->Ext w0 w'\/st w'):
  ∀ (fuel:Nat) (f:Array Bool) (a:Act) (w:x3),Down ops f->
   (∀j x,ops[j]? =σ x->j≠i->f.getD j true=false->(∀e∈x.after,Region.binds .any e=true->e.on≠i)->m.apart ops x=true)->
   i∈Region.ready .any ops f->hY P ops m v a (l3 m w0 st)->l3 m w0 st w->
   ip r P ops bs Q fuel (f.setIfInBounds i true) ev' (a.put m.dst v) w->ip r P ops bs Q (fuel+1) f z a w:=by
 have G:=Region.noSelect_spec S;have W:l4 ops i=true:=by simp[l4,hi,U]
 have hE:∀ (fuel:Nat) (f:Array Bool) (a:Act) (w:x3),ip r P ops bs Q fuel f ev' a w->ip r P ops bs Q fuel f z a w:=by
  intro fuel;induction fuel with
  |zero=>intro f a w h;exact h
  |succ fuel B=>intro f a w h;exact⟨h.1,λj q=>wpOpIn_mono (λa' w' h'=>⟨⟨h'.1.1,λC=>F _ _ (h'.1.2 C)⟩,B _ a' w' h'.2⟩) (h.2 j q)⟩
 have I:∀w,tW ops bs z i w w:=λw=>⟨λ_=>Ext.refl _,λh=>by rw[W] at h;cases h⟩;intro fuel;induction fuel with
 |zero=>
  intro f a w _ _ s A hw H;refine⟨λh=>(by rw[h] at s;cases s),λj q=>?_⟩;by_cases p:j=i
  .subst p;exact A.go hi hw ⟨I w,hE _ _ _ _ H⟩
  .have:=ready_mono q p;rw[H.1] at this;cases this
 |succ fuel B=>
  intro f a w J K s A hw H;refine⟨λh=>(by rw[h] at s;cases s),λj q=>?_⟩;by_cases p:j=i
  .subst p;exact A.go hi hw ⟨I w,hE _ _ _ _ H⟩
  .have h1:=H.2 j (ready_mono q p);have hu:=Fj R J hi s q p;obtain⟨L,x,E,X⟩:=mem_ready.1 q;have Y:∀e∈x.after,Region.binds .any e=true->e.on≠i:=λe he Z aa=>by
    have h1:=X e he Z;rw[aa,tT (mem_ready.1 s).1] at h1;cases h1
   have ab:=Fh E (K j x E p L Y) (λcs b=>G i m cs b hi) (λcs b=>G j x cs b E) T A h1;have ac:∀k ok,ops[k]? =σ ok->k≠i->(f.setIfInBounds j true).getD k true=false->
     (∀e∈ok.after,Region.binds .any e=true->e.on≠i)->m.apart ops ok=true:=λk ok hk ad M ae=>by
    refine K k ok hk ad ?_ ae;by_cases N:j=k
    .subst N;exact L
    .rw[getD_set_ne true N] at M;exact M
   refine wpOpIn_mono (λa' w' y=>⟨⟨y.2.1.1,λC=>F _ _ (y.2.1.2 C)⟩,B (f.setIfInBounds j true) a' w' (J.set q) ac (ready_mono s (Ne.symm p)) y.1 ?_ ?_⟩) ab
   .cases hm:lk m with
    |true=>exact .inl hm
    |false=>
     cases O:l4 ops j with
     |true=>exact hw.ext (y.2.1.1 O)
     |false=>exact .inr ((V hm j w' hu (y.2.1.2 O)).imp id λh=>⟨w',h,Ext.refl _⟩)
   .rw[Array.setIfInBounds_comm _ _ p];exact y.2.2
theorem xT {p:Nat->Prop}:∀ {l:List Nat},tR p l-> ∀i∈l,p i
 |[],_,_,h=>by cases h
 |[i],h,j,a=>by cases a with
  |head=>exact h
  |tail _ h=>cases h
 |i::k::l,h,j,a=>by
  obtain⟨h1,e⟩:=h;cases a with
  |head=>exact h1
  |tail _ a=>exact xT e j a
theorem tX:∀ {l:List Nat} {q:Nat},l0 ops l=σ q->q∈l/\ ∃o,ops[q]? =σ o/\iR o=true
 |[],q,h=>by cases h
 |i::l,q,h=>by
  simp only[l0] at h;cases a:ops[i]? with
  |none=>rw[a] at h;obtain⟨h1,e⟩:=tX h;exact⟨.tail _ h1,e⟩
  |some o=>
   rw[a] at h;simp only at h;cases f:iR o with
   |true=>rw[f] at h;simp only[cond_true,Y8] at h;subst h;exact⟨.head _,o,a,f⟩
   |false=>rw[f] at h;obtain⟨h1,e⟩:=tX h;exact⟨.tail _ h1,e⟩
theorem Fk {o:U9} {e:Env} {a:Act} {K:Env->(x3->Prop)->Prop} (h:tQ P ops o e w K) (f:S2 N e a) (B:jo N o.dst=true):
  ∃v st,hY P ops o v a (l3 o w st)/\ ∃m,K m st/\S2 N m (a.put o.dst v):=by
 unfold tQ at h;have r:∀ {e:Env},S2 N e a->li P o e w K->Region.wanted o (yielded ops a.tmps)=true-> ∃v st,hY P ops o v a (l3 o w st)/\ ∃m,K m st/\S2 N m (a.put o.dst v):=λf h hw=>by
  obtain⟨v,st,h1,C,E,F⟩:=xN h f B;exact⟨v,st,.inl ⟨hw,E,λw' J=>J.elim (λhm=>Fg hm (h1 w (Ext.refl w))) λh=>h.elim (h1 w') λ⟨V,G,H⟩=>F V G w' H⟩,C⟩
 have skip:∀ {e:Env},S2 N e a->K (dT e o.dst .u) (λ_=>True)->Region.wanted o (yielded ops a.tmps)=false-> ∃v st,hY P ops o v a (l3 o w st)/\ ∃m,K m st/\S2 N m (a.put o.dst v):=λf h hw=>
  ⟨undef,_,.inr ⟨hw,rfl⟩,_,h,f.put B rfl⟩
 cases p:o.guard with
 |none=>rw[p] at h;exact r f h (by simp[Region.wanted,p])
 |some I=>
  obtain⟨j,b⟩:=I;rw[p] at h;simp only at h;cases q:(ops[j]?).bind (·.dst) with
  |none=>rw[q] at h;exact h.elim
  |some s=>
   rw[q] at h;simp only at h;cases U:look e s with
   |none=>rw[U] at h;exact h.elim
   |some x=>
    rw[U] at h;cases x with
    |b c=>
     simp only at h;have hw:=rh f p q U (c:=c) rfl;cases J:xor c b with
     |true=>rw[J] at h hw;exact skip f h hw
     |false=>rw[J] at h hw;exact r f h hw
    |v y=>
     simp only at h;obtain⟨c,rfl,z,af⟩:=h;have hw:=rh f p q U (c:=c) rfl;have A:=f.lit U (c:=c) rfl;cases c with
     |true=>
      have z:=z rfl;cases b with
      |true=>exact r A z hw
      |false=>exact skip A z hw
     |false=>
      have af:=af rfl;cases b with
      |true=>exact skip A af hw
      |false=>exact r A af hw
    |u=>exact skip f h (xO f p q U)
theorem tY:∀ {l:List Nat},l0 ops l=ν-> ∀j∈l,l4 ops j=false
 |[],_,_,h=>by cases h
 |i::l,h,j,a=>by
  simp only[l0] at h;cases e:ops[i]? with
  |none=>
   rw[e] at h;cases a with
   |head=>simp[l4,e]
   |tail _ a=>exact tY h j a
  |some o=>
   rw[e] at h;simp only at h;cases f:iR o with
   |true=>rw[f] at h;cases h
   |false=>
    rw[f] at h;cases a with
    |head=>simp[l4,e,f]
    |tail _ a=>exact tY h j a
theorem Fl {bs:Array Nat} {same:Bool} {q:Nat} {st:x3->Prop} {a:List (x3×List (Nat×(x3->Prop)))} (U:same=true-> ∃ks r,a=(w,ks)::r):
  (∀j w',l5 bs (px same q w st a) j w'->l5 bs a j w')/\(∀j w',kD bs j q=true->l5 bs (px same q w st a) j w'->Ext w w'\/st w')/\ ∃ks r,px same q w st a=(w,ks)::r:=by
 cases same with
 |true=>
  obtain⟨ks,r,rfl⟩:=U rfl;refine⟨λj w' h g e x J hu=>?_,λj w' hu h=>h (w,(q,st)::ks) (.head _) (q,st) (.head _) hu,_,_,rfl⟩;cases e with
  |head=>exact h (w,(q,st)::ks) (.head _) x (.tail _ J) hu
  |tail _ e=>exact h g (.tail _ e) x J hu
 |false=>
  refine⟨λj w' h g e x J hu=>h g (.tail _ e) x J hu,λj w' hu h=>h (w,[(q,st)]) (.head _) (q,st) (.head _) hu,_,_,rfl⟩
theorem Fm {K:Env->x3->Prop} {bs:Array Nat} (T:ll ops bs=true) (U:Region.noSelect ops=true) (W:∀c a w,¬Q (.panic c) a w)
  (L:∀o∈ops.toList,∀t,o.dst=σ t->t∈D) (X:mT N ops.toList=true):
  ∀ (fuel:Nat) (m:Array Bool) (same:Bool) (p:List (x3×List (Nat×(x3->Prop)))) (e:Env) (a:Act) (w:x3),Down ops m->(same=true-> ∃ks r,p=(w,ks)::r)->
   l1 P free ops bs fuel m same p e w K->S2 N e a->
   (∀a' w',l2 N free K D a w a' w'->Q .normal a' w')->ip r P ops bs Q fuel m p a w:=by
 have E:∀ {j:Nat} {o:U9},ops[j]? =σ o->o∈ops.toList:=λh=>by
  rw[<-S4] at h;exact x5 h
 have ok:∀ {j:Nat} {o:U9},ops[j]? =σ o->jo N o.dst=true:=λh=>by
  simp only[mT,List.all_eq_true] at X;exact X _ (E h)
 intro fuel;induction fuel with
 |zero=>
  intro m same p e a w z M h B A;unfold l1 at h;cases x:Region.ready .any ops m with
  |nil=>rw[x] at h;exact⟨x,A a w ⟨e,h,B,gA.refl _ _,λ_=>cC.refl _ _⟩⟩
  |cons i l=>rw[x] at h;exact h.elim
 |succ fuel O=>
  intro m same p e a w z M h B A;unfold l1 at h;cases x:Region.ready .any ops m with
  |nil=>
   rw[x] at h;refine⟨λ_=>A a w ⟨e,h,B,gA.refl _ _,λ_=>cC.refl _ _⟩,λi hi=>?_⟩;rw[x] at hi;cases hi
  |cons i l=>
   rw[x] at h;simp only at h;cases F:l0 ops (i::l) with
   |some q=>
    rw[F] at h;simp only at h;obtain⟨ad,o,f,Y⟩:=tX F;cases G:Region.free .any ops m q with
    |false=>rw[G] at h;exact h.elim
    |true=>
     rw[G,f] at h;simp only[cond_true] at h;obtain⟨v,st,Z,H,y,aa⟩:=Fk h B (ok f);have I:q∈Region.ready .any ops m:=by rw[x];exact ad
     cases hm:lk o with
     |true=>
      rw[hm] at y;refine ip.take T U W f Y (w0:=w) (ev':=p) (λ_ _ h=>h) (λh=>by rw[hm] at h;cases h) fuel m a w z (Region.free_spec f G) I Z (.inr (.inl (Ext.refl _))) ?_;exact O _ same p H _ w (z.set I) M y aa λa' w' s=>A a' w' (s.step (gA.put a v λt C=>L o (E f) t C) λ_=>cC.refl _ _)
     |false=>
      rw[hm] at y;obtain⟨h1,ae,af⟩:=Fl (bs:=bs) (q:=q) (st:=st) M;refine ip.take T U W f Y (w0:=w) (ev':=px same q w st p) h1 (λ_=>ae) fuel m a w z (Region.free_spec f G) I Z (.inr (.inl (Ext.refl _))) ?_;exact O _ true _ H _ w (z.set I) (λ_=>af) y aa λa' w' s=>A a' w' (s.step (gA.put a v λt C=>L o (E f) t C) λ_=>cC.refl _ _)
   |none=>
    rw[F] at h;simp only at h;refine⟨(λab=>by rw[x] at ab;cases ab),λj ac=>?_⟩;have R:=ac;rw[x] at R;have ag:=tY F j R;have s:=xT h j R;cases f:ops[j]? with
    |none=>rw[f] at s;exact s.elim
    |some o=>
     rw[f] at s;simp only at s;unfold wpOpIn;simp only[f];have next:∀S V,e9 N free (λH w'=>mS bs j w' (l1 P free ops bs fuel (m.setIfInBounds j true) false p H w' K) p) o a w S V->
       tW ops bs p j w V/\ip r P ops bs Q fuel (m.setIfInBounds j true) p S V:=by
      rintro S V ⟨ah,v,y,ai,rfl,aj⟩;obtain⟨y,ak⟩:=tV y;exact⟨⟨λh=>(by rw[ag] at h;cases h),λ_=>ak⟩,
       O _ false p ah _ V (z.set ac) (λh=>by cases h) y ai λa' w' s=>A a' w' (s.step (gA.put a v λt C=>L o (E f) t C) aj)⟩
     rcases xP (r:=r) (Q:=Q) s B (ok f) with⟨hw,J⟩|⟨hw,J⟩
     .rw[if_pos hw];exact U9.wpIn_mono next J
     .rw[hw];exact⟨λ_ _=>trivial,next _ _ J⟩
theorem Fo (hm:P.follows .mixedOrders=true) {K:Env->x3->Prop} {id:Nat} {e:Env} {a:Act} (m:ll ops (Region.before ops)=true) (p:∀c a w,¬Q (.panic c) a w)
  (q:∀o∈ops.toList,∀t,o.dst=σ t->t∈D) (s:mT N ops.toList=true)
  (h:∀w',Ext w w'->Ext w' w->cM w w'->tS P free ops e w' K) (y:S2 N e a) (z:∀a' w',l2 N free K D a w a' w'->Q .normal a' w'):
  (Code.region id ops true).wpIn (ep r) 0 P Q a w:=by
 refine wpIn_region_any hm ?_;have h:=h {w with drawn:=w.drawn+1} (q8 w _) ⟨p8 _,λ_ _ h _=>h⟩ (ps w _ (Nat.le_succ _));unfold tS at h;cases f:Region.noSelect ops with
 |false=>rw[f] at h;exact h.elim
 |true=>
  rw[f] at h;refine ip.any _ _ _ _ _ (Fm m f p q s ops.size _ false [] e a _ ?_ (λh=>by cases h) h y λa' w' A=>z a' w' (A.step (gA.refl _ _) λ_=>(ps w _ (Nat.le_succ _)).b));intro x o _ j;rcases Nat.lt_or_ge x ops.size with h'|h'
  .simp[h'] at j
  .simp[h'] at j
end
def iS (t:Nat):List Nat->Bool
 |[]=>false
 |s::r=>bif T5 s t then true else iS t r
theorem tZ {t:Nat}:∀ {l:List Nat},iS t l=true↔t∈l
 |[]=>by simp[iS]
 |s::r=>by
  simp only[iS];cases h:T5 s t with
  |true=>simp[Nat.eq_of_beq_eq_true h]
  |false=>
   have:=Nat.ne_of_beq_eq_false h;simp[tZ (l:=r),Ne.symm this]
def mU:List U9->List Nat
 |[]=>[]
 |o::l=>match o.dst with
  |some d=>d::mU l
  |none=>mU l
def tmpsOf:List S0->List Nat
 |[]=>[]
 | .tmp t::l=>t::tmpsOf l
 |_::l=>tmpsOf l
def Fp (ops:Array U9) (o:U9):List Nat:=
 match o.guard with
 |some (j,_)=>match (ops[j]?).bind (·.dst) with
  |some s=>[s]
  |none=>[]
 |none=>[]
def ri (D:List Nat):List Nat->List Nat
 |[]=>[]
 |t::r=>bif iS t D then ri D r else t::ri D r
def ua (D:List Nat):List Nat->List Nat
 |[]=>[]
 |t::r=>bif iS t D then t::ua D r else ua D r
def xU (ops:Array U9):List U9->List Nat->List Nat
 |[],_=>[]
 |o::l,D=>ri D (tmpsOf (opsOf o.op)++Fp ops o)++xU ops l (match o.dst with
  |some d=>d::D
  |none=>D)
def dv:Code->List Nat
 | .region _ ops _=>mU ops.toList
 | .seq a b=>dv a++dv b
 | .cond _ a b=>dv a++dv b
 | .block _ c=>dv c
 | .loop c=>dv c
 | .scope c=>dv c
 |_=>[]
def jp (id:Nat):Code->Nat
 | .seq a b=>jp id a+jp id b
 | .cond _ a b=>jp id a+jp id b
 | .block _ c=>jp id c
 | .loop c=>jp id c
 | .scope c=>jp id c
 | .exit i=>bif T5 i id then 1 else 0
 | .rangeFunc _ _ _ b=>jp id b
 |_=>0
def Fq (ops:Array U9):Bool:=
 let bs:=Region.before ops;let a:=λ(i:Nat)=>match ops[i]? with|some o=>!(iR o)|none=>false
 (X4 ops.size).any λj=>a j&&((X4 j).any λi=>a i&&(!((bs.getD j 0).testBit i)&& !((bs.getD i 0).testBit j)))
def kE:Code->Nat
 | .region _ ops e=>bif (e&&Fq ops)||ops.any (·.guard.isSome) then 2 else 1
 | .seq a b=>bif T5 (kE a) 0 then 0 else kE b
 | .cond _ a b=>kE a+kE b
 | .block id c=>kE c+jp id c
 | .loop _=>0
 | .scope c=>kE c
 | .exit _=>0
 | .goto _=>0
 | .ret=>0
 | .refuse _=>0
 |_=>1
def ln:Code->List Nat
 | .region _ ops _=>mU ops.toList
 | .seq a b=>ln a++ln b
 | .cond _ a b=>bif T5 (kE a) 0 then ln b else bif T5 (kE b) 0 then ln a else ua (ln a) (ln b)
 | .block id c=>bif T5 (jp id c) 0 then ln c else[]
 | .scope c=>ln c
 |_=>[]
def reads:Code->List Nat
 | .region _ ops _=>xU ops ops.toList []
 | .seq a b=>reads a++ri (ln a) (reads b)
 | .cond c a b=>tmpsOf [c]++(reads a++reads b)
 | .block _ c=>reads c
 | .loop c=>reads c
 | .scope c=>reads c
 | .rangeFunc f _ a b=>tmpsOf [f]++(reads a++reads b)
 |_=>[]
def jY:Code->Bool
 | .seq a b=>jY a||jY b
 | .cond _ a b=>jY a||jY b
 | .block _ c=>jY c
 | .loop c=>jY c
 | .scope c=>jY c
 | .rangeFunc ..=>true
 |_=>false
def wf (N:Nat):Code->Bool
 | .region _ ops e=>mT N ops.toList&&(!e||ll ops (Region.before ops))
 | .seq a b=>wf N a&&wf N b
 | .cond _ a b=>wf N a&&wf N b
 | .block _ c=>wf N c
 | .loop c=>wf N c
 | .scope c=>wf N c
 | .rangeFunc _ f a b=>(f.toList.all λt=>Nat.blt t N)&&(wf N a&&wf N b)
 |_=>true
def mV:Nat->Type->Type
 |0,β=>β
 |n+1,β=>x1->mV n β
def app {β:Type}:(n:Nat)->mV n β->List x1->β
 |0,f,_=>f
 |n+1,f,[]=>app n (f undef) []
 |n+1,f,v::r=>app n (f v) r
def lam {β:Type}:(n:Nat)->(List x1->β)->mV n β
 |0,f=>f []
 |n+1,f=>λv=>lam n λr=>f (v::r)
def rj:(n:Nat)->mV n Prop->Prop
 |0,p=>p
 |n+1,p=>∀v,rj n (p v)
theorem rk {β:Type}:∀ (n:Nat) (f:List x1->β) (vs:List x1),vs.length=n->app n (lam n f) vs=f vs
 |0,f,[],_=>rfl
 |n+1,f,v::r,h=>by
  simp only[app,lam];exact rk n _ r (by simpa using h)
theorem rl:∀ (n:Nat) (p:mV n Prop) (vs:List x1),rj n p->app n p vs
 |0,_,_,h=>h
 |n+1,_,[],h=>rl n _ [] (h undef)
 |n+1,_,v::r,h=>rl n _ r (h v)
def Fr (n:Nat) (vs:List x1) (w:x3) (B:List x1->x3->(List x1->x3->Prop)->Prop):Prop:=
 ∃ (I:mV n (x3->Prop)) (a:mV n (x3->Nat)),app n I vs w/\
  rj n (lam n λus=>∀w',app n I us w'->B us w' λe f=>app n I e f/\app n a e f<app n a us w')
def Fs (w:x3) (B:x3->(x3->Prop)->Prop):Prop:=
 ∃ (I:x3->Prop) (a:x3->Nat),I w/\ ∀w',I w'->B w' λe=>I e/\a e<a w'
def cz (a:x1) (w:x3) (B:x1->x3->(x1->x3->Prop)->Prop):Prop:=
 ∃ (I:x1->x3->Prop) (e:x1->x3->Nat),I a w/\ ∀a w',I a w'->B a w' λa' f=>I a' f/\e a' f<e a w'
def bZ (a b:x1) (w:x3) (B:x1->x1->x3->(x1->x1->x3->Prop)->Prop):Prop:=
 ∃ (I:x1->x1->x3->Prop) (e:x1->x1->x3->Nat),I a b w/\ ∀a b w',I a b w'->B a b w' λa' f h=>I a' f h/\e a' f h<e a b w'
def jZ (a b c:x1) (w:x3) (B:x1->x1->x1->x3->(x1->x1->x1->x3->Prop)->Prop):Prop:=
 ∃ (I:x1->x1->x1->x3->Prop) (e:x1->x1->x1->x3->Nat),I a b c w/\
  ∀a b c w',I a b c w'->B a b c w' λa' f h j=>I a' f h j/\e a' f h j<e a b c w'
def rm (a b c d:x1) (w:x3) (B:x1->x1->x1->x1->x3->(x1->x1->x1->x1->x3->Prop)->Prop):Prop:=
 ∃ (I:x1->x1->x1->x1->x3->Prop) (e:x1->x1->x1->x1->x3->Nat),I a b c d w/\
  ∀a b c d w',I a b c d w'->B a b c d w' λa' f h j m=>I a' f h j m/\e a' f h j m<e a b c d w'
def pz (a b c d e:x1) (w:x3) (B:x1->x1->x1->x1->x1->x3->(x1->x1->x1->x1->x1->x3->Prop)->Prop):Prop:=
 ∃ (I:x1->x1->x1->x1->x1->x3->Prop) (f:x1->x1->x1->x1->x1->x3->Nat),I a b c d e w/\ ∀a b c d e w',I a b c d e w'->B a b c d e w' λa' h j m p q=>I a' h j m p q/\f a' h j m p q<f a b c d e w'
def Ft (a b c d e f:x1) (w:x3) (B:x1->x1->x1->x1->x1->x1->x3->(x1->x1->x1->x1->x1->x1->x3->Prop)->Prop):Prop:=
 ∃ (I:x1->x1->x1->x1->x1->x1->x3->Prop) (h:x1->x1->x1->x1->x1->x1->x3->Nat),I a b c d e f w/\ ∀a b c d e f w',I a b c d e f w'->B a b c d e f w' λa' j m p q r s=>I a' j m p q r s/\h a' j m p q r s<h a b c d e f w'
def cv {α:Type} (aA:α) (B:α->Prop):Prop:=B aA
def ub (n:Nat) (w:x3) (K:x3->Prop):Prop:=∀w',Ext w w'->Ext w' w/\fs n w w'->K w'
def Over (n:Nat) (w:x3) (K:x3->Prop):Prop:=∀w',Ext w w'->Ext w' w/\fs n w w'->eW w w'->K w'
def er (w:x3) (K:x3->Prop):Prop:=∀w',Ext w w'->Ext w' w->cM w w'->K w'
def j0 (e:Env):List Nat->Option (List x1)
 |[]=>σ []
 |t::r=>match look e t with
  |some x=>match j0 e r with
   |some vs=>σ (x.val::vs)
   |none=>ν
  |none=>ν
def iT:List Nat->List x1->Env->Env
 |t::r,v::vs,e=>(t,.v v)::iT r vs e
 |_,_,e=>e
def lp (D:List Nat):Env->Env
 |[]=>[]
 |(t,x)::r=>bif iS t D then lp D r else (t,x)::lp D r
def pA (N:Nat) (D R:List Nat):List Nat:=(X4 N).filter λt=>iS t D&&iS t R
def pB (N:Nat) (D R:List Nat) (e:Env):List Nat:=(X4 N).filter λt=>iS t D&&((look e t).isSome&&iS t R)
def iU:Code->Bool
 | .seq a b=>iU a||iU b
 | .cond _ a b=>iU a||iU b
 | .block _ c=>iU c
 | .loop c=>iU c
 | .scope c=>iU c
 | .rangeFunc _ _ a b=>iU a||iU b
 | .ret=>true
 |_=>false
def Fu (i:Nat) (l:List Nat):List Nat:=bif iS i l then l else i::l
def rn:List Nat->List Nat->List Nat
 |[],l=>l
 |i::r,l=>Fu i (rn r l)
def uc (i:Nat):List Nat->List Nat
 |[]=>[]
 |j::r=>bif T5 i j then uc i r else j::uc i r
def jq:Code->List Nat
 | .seq a b=>rn (jq a) (jq b)
 | .cond _ a b=>rn (jq a) (jq b)
 | .block id c=>uc id (jq c)
 | .loop c=>jq c
 | .scope c=>jq c
 | .rangeFunc _ _ a b=>rn (jq a) (jq b)
 | .exit i=>[i]
 |_=>[]
def mW:List (Nat×(x3->Prop))->Nat->x3->Prop
 |[],_,_=>False
 |(j,k)::r,i,w=>(i=j/\k w)\/mW r i w
def ud (K:Nat->x3->Prop):List Nat->List (Nat×(x3->Prop))
 |[]=>[]
 |i::r=>(i,λw=>K i w)::ud K r
theorem xV {K:Nat->x3->Prop}:∀ {l:List Nat} {i:Nat} {w:x3},mW (ud K l) i w->K i w
 |[],_,_,h=>h.elim
 |j::r,i,w,h=>by
  rcases h with⟨rfl,h⟩|h
  .exact h
  .exact xV h
section
variable (P:W5)
def od {a:Type} (G:Bool) (g:R3) (cap:List x1) (m:a) (p:a->Prop) (q:a->List x1->a->x3->Prop) (h:x3->Prop):Prop:=
 Enters P g/\ ∀ (l:Nat) (aA e:a->x3->Prop) (w:x3),
  (∀k V aa,Ext V aa->cC w.heap.size V aa->aA k V->aA k aa)->(∀k V aa,Ext V aa->cC w.heap.size V aa->e k V->e k aa)->
  (∀k j vs w',h w'->q k vs j w'->aA k w'->hD P l vs w' λv f=>(v= .bool true/\h f/\aA j f/\(G=true->cM w' f))\/(v= .bool false/\e k f))->
  h w->aA m w->gx P g (.func (.yield l) #[] #[]::cap) w λ_ w'=>(∃k,p k/\aA k w')\/ ∃k,e k w'
def ue (G:Bool) (g:R3) (cap:List x1) (n:Nat) (h:Nat->List x1->x3->Prop) (f:x3->Prop):Prop:=
 Enters P g/\ ∀ (l:Nat) (aA a:Nat->x3->Prop) (w:x3),
  (∀k V aa,Ext V aa->cC w.heap.size V aa->aA k V->aA k aa)->(∀k V aa,Ext V aa->cC w.heap.size V aa->a k V->a k aa)->
  (∀k vs w',k<n->f w'->h k vs w'->aA k w'->hD P l vs w' λv e=>(v= .bool true/\f e/\aA (k+1) e/\(G=true->cM w' e))\/(v= .bool false/\a k e))->
  f w->aA 0 w->gx P g (.func (.yield l) #[] #[]::cap) w λ_ w'=>aA n w'\/ ∃k,k<n/\a k w'
def pC {e:Type} (o G:Bool) (g:R3) (cap:List x1) (m:e) (p:e->Prop) (q:e->List x1->e->x3->Prop) (h:(Nat->Prop)->x3->Prop):Prop:=
 Enters P g/\ ∀ (l:Nat) (aA f:(Nat->Prop)->e->x3->Prop) (w:x3),
  (∀D k V aa,ah (λr=>o=true/\w.heap.size<=r/\¬D r) V aa->fs w.heap.size V aa->aA D k V->aA D k aa)->
  (∀D k V aa,ah (λr=>o=true/\w.heap.size<=r/\¬D r) V aa->fs w.heap.size V aa->f D k V->f D k aa)->
  (∀D k j vs w',(∀r,D r->w.heap.size<=r/\r<w'.heap.size)->w.heap.size<=w'.heap.size->h D w'->q k vs j w'->aA D k w'->hD P l vs w' λv a=>
   (v= .bool true/\(∃D',(∀r,D' r->D r\/w'.heap.size<=r/\r<a.heap.size)/\(∀r,D r->D' r)/\h D' a/\aA D' j a)/\(G=true\/o=true->cM w' a)/\w'.heap.size<=a.heap.size/\(o=true->ah (λr=>r<w.heap.size\/D r) w' a))\/(o=false/\v= .bool false/\f D k a))->
  (h (λ_=>False) w)->aA (λ_=>False) m w->gx P g (.func (.yield l) #[] #[]::cap) w λ_ w'=>(∃D k,p k/\aA D k w')\/ ∃D k,f D k w'
abbrev oe (g:R3) (cap:List x1) (n:Nat) (a:Nat->List x1->x3->Prop) (e:x3->Prop):Prop:=ue P false g cap n a e
def Fv (y:x1) (p:Nat) (w:x3) (B:List x1->x3->(Exit->x3->Prop)->Prop) (z A:x3->Prop) (C:List (Nat×(x3->Prop))):Prop:=
 ∃ (f:Type) (o G:Bool) (g:R3) (cap:Array x1) (s:f) (x:f->Prop) (q:f->List x1->f->x3->Prop) (e:(Nat->Prop)->x3->Prop) (I:(Nat->Prop)->f->x3->Prop) (h:(Nat->Prop)->f->Exit->x3->Prop),
  y= .func (.func g) #[] cap/\pC P o G g cap.toList s x q e/\(∀k vs j w,q k vs j w->vs.length=p)/\
  (∀m w w',Ext w w'->e m w->e m w')/\(∀m k V aa,ah (λr=>o=true/\w.heap.size<=r/\¬m r) V aa->fs w.heap.size V aa->I m k V->I m k aa)/\(∀m k ex V aa,ah (λr=>o=true/\w.heap.size<=r/\¬m r) V aa->fs w.heap.size V aa->h m k ex V->h m k ex aa)/\
  e (λ_=>False) w/\I (λ_=>False) s w/\
  rj p (lam p λvs=>∀m k j w',(∀r,m r->w.heap.size<=r/\r<w'.heap.size)->w.heap.size<=w'.heap.size->e m w'->q k vs j w'->I m k w'->B vs w' λex a=>match ex with
   | .normal=>bif o then (∃cm,(∀r,cm r->m r\/w'.heap.size<=r/\r<a.heap.size)/\(∀r,m r->cm r)/\e cm a/\I cm j a)/\eW w' a/\ah (λr=>r<w.heap.size\/m r) w' a else e m a/\I m j a/\(G=true->eW w' a)
   |ex=>bif o then False else h m k ex a)/\
  (∀m k w',x k->I m k w'->z w')/\(∀m k w',h m k .ret w'->A w')/\(∀m k i w',h m k (.exit i) w'->mW C i w')
def kF (y:x1) (w:x3) (B:x1->x3->(Exit->x3->Prop)->Prop) (z A:x3->Prop) (C:List (Nat×(x3->Prop))):Prop:=
 ∃ (h:Type) (o G:Bool) (g:R3) (cap:Array x1) (s:h) (x:h->Prop) (q:h->List x1->h->x3->Prop) (f:(Nat->Prop)->x3->Prop) (I:(Nat->Prop)->h->x3->Prop) (j:(Nat->Prop)->h->Exit->x3->Prop),
  y= .func (.func g) #[] cap/\pC P o G g cap.toList s x q f/\(∀k vs p w,q k vs p w->vs.length=1)/\
  (∀m w w',Ext w w'->f m w->f m w')/\(∀m k V aa,ah (λr=>o=true/\w.heap.size<=r/\¬m r) V aa->fs w.heap.size V aa->I m k V->I m k aa)/\(∀m k ex V aa,ah (λr=>o=true/\w.heap.size<=r/\¬m r) V aa->fs w.heap.size V aa->j m k ex V->j m k ex aa)/\
  f (λ_=>False) w/\I (λ_=>False) s w/\
  (∀a,∀m k p w',(∀r,m r->w.heap.size<=r/\r<w'.heap.size)->w.heap.size<=w'.heap.size->f m w'->q k [a] p w'->I m k w'->B a w' λex e=>match ex with
   | .normal=>bif o then (∃cm,(∀r,cm r->m r\/w'.heap.size<=r/\r<e.heap.size)/\(∀r,m r->cm r)/\f cm e/\I cm p e)/\eW w' e/\ah (λr=>r<w.heap.size\/m r) w' e else f m e/\I m p e/\(G=true->eW w' e)
   |ex=>bif o then False else j m k ex e)/\
  (∀m k w',x k->I m k w'->z w')/\(∀m k w',j m k .ret w'->A w')/\(∀m k i w',j m k (.exit i) w'->mW C i w')
def og (y:x1) (w:x3) (B:x1->x1->x3->(Exit->x3->Prop)->Prop) (z A:x3->Prop) (C:List (Nat×(x3->Prop))):Prop:=
 ∃ (h:Type) (o G:Bool) (g:R3) (cap:Array x1) (s:h) (x:h->Prop) (q:h->List x1->h->x3->Prop) (f:(Nat->Prop)->x3->Prop) (I:(Nat->Prop)->h->x3->Prop) (j:(Nat->Prop)->h->Exit->x3->Prop),
  y= .func (.func g) #[] cap/\pC P o G g cap.toList s x q f/\(∀k vs p w,q k vs p w->vs.length=2)/\
  (∀m w w',Ext w w'->f m w->f m w')/\(∀m k V aa,ah (λr=>o=true/\w.heap.size<=r/\¬m r) V aa->fs w.heap.size V aa->I m k V->I m k aa)/\(∀m k ex V aa,ah (λr=>o=true/\w.heap.size<=r/\¬m r) V aa->fs w.heap.size V aa->j m k ex V->j m k ex aa)/\
  f (λ_=>False) w/\I (λ_=>False) s w/\
  (∀a b,∀m k p w',(∀r,m r->w.heap.size<=r/\r<w'.heap.size)->w.heap.size<=w'.heap.size->f m w'->q k [a,b] p w'->I m k w'->B a b w' λex e=>match ex with
   | .normal=>bif o then (∃cm,(∀r,cm r->m r\/w'.heap.size<=r/\r<e.heap.size)/\(∀r,m r->cm r)/\f cm e/\I cm p e)/\eW w' e/\ah (λr=>r<w.heap.size\/m r) w' e else f m e/\I m p e/\(G=true->eW w' e)
   |ex=>bif o then False else j m k ex e)/\
  (∀m k w',x k->I m k w'->z w')/\(∀m k w',j m k .ret w'->A w')/\(∀m k i w',j m k (.exit i) w'->mW C i w')
theorem ue.s {P:W5} {G:Bool} {g:R3} {cap:List x1} {f:Nat->List x1->x3->Prop} {a:x3->Prop} (h:ue P G g cap n f a):
  od P G g cap 0 (λk=>k=n) (λk vs j w=>k<n/\j=k+1/\f k vs w) a:=by
 refine⟨h.1,λl aA m w p q r ha x=>?_⟩;have:=h.2 l aA (λk w=>m k w) w p q (λk vs w' hk hy z A=>r k (k+1) vs w' hy ⟨hk,rfl,z⟩ A) ha x;cases this with
 |code h1 B=>exact .code h1 (B.mono λ_ _ ⟨v,C,e⟩=>⟨v,C,e.elim (λh=>.inl ⟨n,rfl,h⟩) (λ⟨k,_,h⟩=>.inr ⟨k,h⟩)⟩)
 |ext v w' h1 e=>exact .ext v w' h1 (e.elim (λh=>.inl ⟨n,rfl,h⟩) (λ⟨k,_,h⟩=>.inr ⟨k,h⟩))
theorem od.x {P:W5} {p:Type} {G:Bool} {g:R3} {cap:List x1} {B:p} {C:p->Prop} {E:p->List x1->p->x3->Prop} {q:x3->Prop} (h:od P G g cap B C E q):pC P false G g cap B C E λ_=>q:=by
 refine⟨h.1,λl aA F w H I K hq L=>?_⟩;have:=h.2 l (λk w'=>w.heap.size<=w'.heap.size/\ ∃D,(∀r,D r->w.heap.size<=r/\r<w'.heap.size)/\aA D k w') (λk w'=>∃D,F D k w') w
  (λk V aa J y ⟨U,D,a,f⟩=>⟨Y9 U J.size,D,λr s=>⟨(a r s).1,R6 (a r s).2 J.size⟩,H D k V aa (J.ab _) y.o f⟩) (λk V aa J y ⟨D,f⟩=>⟨D,I D k V aa (J.ab _) y.o f⟩)
  (λk M vs w' hN O ⟨U,D,a,f⟩=>hD.mono (K D k M vs w' a U hN O f) λv S Q=>Q.imp (λ⟨h1,⟨D',d1,_,j,z⟩,m,e,_⟩=>⟨h1,j,⟨Y9 U e,D',λr s=>(d1 r s).elim (λh=>⟨(a r h).1,R6 (a r h).2 e⟩) λh=>⟨Y9 U h.1,h.2⟩,z⟩,λR=>m (.inl R)⟩) λ⟨_,h1,j⟩=>⟨h1,D,j⟩) hq ⟨p8 _,_,λ_ h=>h.elim,L⟩
 cases this with
 |code h1 j=>exact .code h1 (j.mono λ_ _ ⟨v,z,m⟩=>⟨v,z,m.imp (λ⟨k,e,_,D,_,A⟩=>⟨D,k,e,A⟩) (λ⟨k,D,h⟩=>⟨D,k,h⟩)⟩)
 |ext v w' h1 m=>exact .ext v w' h1 (m.imp (λ⟨k,e,_,D,_,A⟩=>⟨D,k,e,A⟩) (λ⟨k,D,h⟩=>⟨D,k,h⟩))
theorem kF.old {P:W5} {B:x1->x3->(Exit->x3->Prop)->Prop} {A C:x3->Prop} {E:List (Nat×(x3->Prop))}
 (h:∃ (f:Type) (G:Bool) (g:R3) (cap:Array x1) (q:f) (r:f->Prop) (p:f->List x1->f->x3->Prop) (e:x3->Prop) (I:f->x3->Prop) (j:f->Exit->x3->Prop),
  z= .func (.func g) #[] cap/\od P G g cap.toList q r p e/\(∀k vs m w,p k vs m w->vs.length=1)/\
  (∀w w',Ext w w'->e w->e w')/\(∀k w w',Ext w w'->I k w->I k w')/\(∀k ex w w',Ext w w'->j k ex w->j k ex w')/\
  e w/\I q w/\
  (∀a,∀k m w',e w'->p k [a] m w'->I k w'->B a w' λex s=>match ex with
   | .normal=>e s/\I m s/\(G=true->eW w' s)
   |ex=>j k ex s)/\
  (∀k w',r k->I k w'->A w')/\(∀k w',j k .ret w'->C w')/\(∀k i w',j k (.exit i) w'->mW E i w')):kF P z w B A C E:=by
 obtain⟨f,G,g,cap,q,r,p,e,I,j,h1,F,H,J,K,L,M,N,O,Q,R,S⟩:=h;exact⟨f,false,G,g,cap,q,r,p,λ_=>e,λ_=>I,λ_=>j,h1,F.x,H,λ_=>J,λ_ k V aa y _=>K k V aa (y.ext λ_ _ h=>nomatch h.1),λ_ k ex V aa y _=>L k ex V aa (y.ext λ_ _ h=>nomatch h.1),M,N,
  λa _ k m w' _ _ he T U=>O a k m w' he T U,λ_=>Q,λ_=>R,λ_=>S⟩
theorem og.old {P:W5} {B:x1->x1->x3->(Exit->x3->Prop)->Prop} {A C:x3->Prop} {E:List (Nat×(x3->Prop))}
 (h:∃ (f:Type) (G:Bool) (g:R3) (cap:Array x1) (q:f) (r:f->Prop) (p:f->List x1->f->x3->Prop) (e:x3->Prop) (I:f->x3->Prop) (j:f->Exit->x3->Prop),
  z= .func (.func g) #[] cap/\od P G g cap.toList q r p e/\(∀k vs m w,p k vs m w->vs.length=2)/\
  (∀w w',Ext w w'->e w->e w')/\(∀k w w',Ext w w'->I k w->I k w')/\(∀k ex w w',Ext w w'->j k ex w->j k ex w')/\
  e w/\I q w/\
  (∀a b,∀k m w',e w'->p k [a,b] m w'->I k w'->B a b w' λex s=>match ex with
   | .normal=>e s/\I m s/\(G=true->eW w' s)
   |ex=>j k ex s)/\
  (∀k w',r k->I k w'->A w')/\(∀k w',j k .ret w'->C w')/\(∀k i w',j k (.exit i) w'->mW E i w')):og P z w B A C E:=by
 obtain⟨f,G,g,cap,q,r,p,e,I,j,h1,F,H,J,K,L,M,N,O,Q,R,S⟩:=h;exact⟨f,false,G,g,cap,q,r,p,λ_=>e,λ_=>I,λ_=>j,h1,F.x,H,λ_=>J,λ_ k V aa y _=>K k V aa (y.ext λ_ _ h=>nomatch h.1),λ_ k ex V aa y _=>L k ex V aa (y.ext λ_ _ h=>nomatch h.1),M,N,
  λa b _ k m w' _ _ he T U=>O a b k m w' he T U,λ_=>Q,λ_=>R,λ_=>S⟩
def ev (N:Nat) (free:ft):Code->List Nat->Env->x3->(Exit->Env->x3->Prop)->Prop
 | .skip,_,e,w,K=>K .normal e w
 | .label _,_,e,w,K=>K .normal e w
 | .ret,_,e,w,K=>K .ret e w
 | .exit i,_,e,w,K=>K (.exit i) e w
 | .region _ ops m,_,e,w,K=>
  bif m then er w λw'=>tS P free ops e w' (K .normal)
  else ob P free ops ops.toList e w (K .normal)
 | .seq x y,rd,e,w,K=>
  bif Nat.ble 2 (kE x) then
   cv (lam (pA N (dv x) (reads y++rd)).length λvs=>λw'=>ev N free y rd (iT (pA N (dv x) (reads y++rd)) vs (lp (dv x) e)) w' K)
    λaA=>ev N free x (reads y++rd) e w λex a w'=>match ex with
     | .normal=>match j0 a (pA N (dv x) (reads y++rd)) with
      |some vs=>app (pA N (dv x) (reads y++rd)).length aA vs w'
      |none=>False
     |ex=>K ex a w'
  else ev N free x (reads y++rd) e w λex a w'=>match ex with
   | .normal=>ev N free y rd a w' K
   |ex=>K ex a w'
 | .cond c x y,rd,e,w,K=>
  match eG e c with
  |some (.b true)=>ev N free x rd e w K
  |some (.b false)=>ev N free y rd e w K
  |some (.v v)=>Split v (ev N free x rd e w K) (ev N free y rd e w K)
  |some .u=>False
  |none=>False
 | .block id c,rd,e,w,K=>ev N free c rd e w λex a w'=>match ex with
  | .exit i=>bif T5 i id then K .normal a w' else K (.exit i) a w'
  |ex=>K ex a w'
 | .loop c,rd,e,w,K=>
  match j0 e (pB N (dv c) (reads c++rd) e) with
  |some vs=>
   Fr (pB N (dv c) (reads c++rd) e).length vs w λus w' k=>
    ev N free c (reads c++rd) (iT (pB N (dv c) (reads c++rd) e) us (lp (dv c) e)) w' λex a h=>match ex with
     | .normal=>match j0 a (pB N (dv c) (reads c++rd) e) with
      |some p=>k p h
      |none=>False
     |ex=>K ex a h
  |none=>False
 | .scope c,rd,e,w,K=>ev N free c rd e w K
 | .rangeFunc f j q body,_,e,w,K=>
  bif free.1 then False else
  match eG e f with
  |some r=>
   Fv P r.val j.size w
    (λvs w' k=>ev N free q (reads body) (iT j.toList.reverse vs.reverse e) w' λex a h=>match ex with
     | .normal=>Over w.heap.size h λs=>ev N free body [] a s λex _ z=>k ex z
     |_=>False)
    (λw'=>K .normal e w') (bif iU body then λw'=>K .ret e w' else λ_=>False) (ud (λi w'=>K (.exit i) e w') (jq body))
  |none=>False
 | .goto _,_,_,_,_=>False
 | .refuse _,_,_,_,_=>False
end
theorem rp {w0:x3} (h:cC n w0 w) {l:Nat} (j:w0.heap.size<=l) (o:Obj):cC n w0 (w.putObj l o):=
 ⟨h.os,h.tape,h.output,by simpa using h.size,λr x a U=>by
  have e:=(n9.1 a).1;rw[R4 Ω];exact h.aZ r x a U,λr x f a U=>by
  have e:=(n9.1 a).1;rw[R4 Ω];exact h.old r x f a U⟩
theorem Fw {w0:x3} (h:eW w0 w) {l:Nat} {a:Obj} (f:w.heap[l]? =σ a) (j:q7 a=false) (o:Obj):eW w0 (w.putObj l o):=λr x m U=>by
 have h1:=h r x m U;by_cases e:r=l
 .subst e;rw[f] at h1;cases h1;rw[j] at U;cases U
 .rw[R4 e];exact h1
theorem pD {l:Nat} {e:Obj} (h:w.heap[l]? =σ e) (j:fq e=false) (o:Obj):Ext w (w.putObj l o):=
 ⟨Ξ,λr x a U=>by
  by_cases f:r=l
  .subst f;rw[h] at a;cases a;rw[j] at U;cases U
  .rw[R4 f];exact a⟩
theorem xW {l:Nat} {o:Obj} (f:fq o=false):Ext (w.putObj l o) w:=
 ⟨Ξ,λr x a U=>by
  by_cases e:r=l
  .subst e;rcases Nat.lt_or_ge r w.heap.size with h|h
   .rw[x3.putObj_heap_same h] at a;cases a;rw[f] at U;cases U
   .rw[Array.getElem?_eq_none (by simpa using h)] at a;cases a
  .rw[R4 e] at a;exact a⟩
theorem oh (w:x3) (o:Obj):Ext w (w.alloc o):=pt w o
theorem oi (w:x3) (o:Obj):cM w (w.alloc o):=pu w o
def j1 (D:Nat):Deferred:={target:=.collected D,args:=#[]}
def lq (w:x3) (e:List Deferred):Prop:=∃a:List Nat,e=a.map j1/\a.Nodup/\ ∀D∈a,w.heap[D]? =σ (.deferred (σ []))
theorem lq.cu {a:List Deferred} (h:lq w a) (e:cC n w w'):lq w' a:=by
 obtain⟨f,h1,j,m⟩:=h;exact⟨f,h1,j,λD p=>e.aZ D _ (m D p) rfl⟩
section
variable {P:W5} {N:Nat}
def Fx (w:x3) (e f:List Deferred):Prop:=∃a:List Nat,f=a.map j1++e/\ ∀D∈a,w.heap.size<=D
def gB (n:Nat) (w:x3) (e:List Deferred) (w':x3) (a:List Deferred):Prop:=cC n w w'/\lq w' a/\Fx w e a
theorem gB.refl {a:List Deferred} (h:lq w a):gB n w a w a:=⟨cC.refl _ _,h,[],rfl,λ_ h=>by cases h⟩
theorem gB.trans {V:x3} {a e f:List Deferred} (h:gB n w a V e) (k:gB n V e w' f):gB n w a w' f:=by
 obtain⟨j,z,m,a3,a4⟩:=h;obtain⟨p,q,r,s,x⟩:=k;refine⟨j.trans p,q,r++m,by simp[s,a3],λD y=>?_⟩;rcases o7.1 y with h|h
 .exact Y9 j.size (x D h)
 .exact a4 D h
theorem gB.same {a:List Deferred} (h:lq w a) (e:cC n w w'):gB n w a w' a:=⟨e,h.cu e,[],rfl,λ_ h=>by cases h⟩
def kG:Exit->Bool
 | .panic _=>false
 | .outgrown=>false
 | .goto _=>false
 |_=>true
def l6 (N:Nat) (free:ft) (f:Bool) (K:Exit->Env->x3->Prop) (D:List Nat) (a:Act) (w:x3) (ex:Exit) (a':Act) (w':x3):Prop:=
 kG ex=true/\ ∃e,K ex e w'/\S2 N e a'/\(∀t,t∉D->a'.tmps.getD t undef=a.tmps.getD t undef)/\(f=true->a'.defers=a.defers)/\
  (free.1=false->gB free.2 w a.defers w' a'.defers)
theorem l6.step {free:ft} {f j:Bool} {K:Exit->Env->x3->Prop} {D':List Nat} {a e a':Act} {V:x3} {ex:Exit} (h:l6 N free j K D' e V ex a' w')
  (p:∀t,t∈D'->t∈D) (hk:∀t,t∉D->e.tmps.getD t undef=a.tmps.getD t undef) (q:f=true->j=true) (af:f=true->e.defers=a.defers)
  (r:free.1=false->gB free.2 w a.defers V e.defers):l6 N free f K D a w ex a' w':=by
 obtain⟨s,x,h1,y,z,A,B⟩:=h;exact⟨s,x,h1,y,λt m=>(z t λh=>m (p t h)).trans (hk t m),λh=>(A (q h)).trans (af h),λh=>(r h).trans (B h)⟩
theorem rq {D:List Nat} {t:Nat} {x:eu}:∀ {e:Env},look (lp D e) t=σ x->look e t=σ x/\t∉D
 |[],h=>by cases h
 |(s,y)::r,h=>by
  simp only[lp] at h;cases hm:iS s D with
  |true=>
   rw[hm] at h;simp only[cond_true] at h;obtain⟨h1,f⟩:=rq h;refine⟨?_,f⟩;simp only[look];cases a:T5 s t with
   |true=>exact absurd (tZ.1 hm) (by rw[Nat.eq_of_beq_eq_true a];exact f)
   |false=>exact h1
  |false=>
   rw[hm] at h;simp only[cond_false,look] at h ⊢;cases a:T5 s t with
   |true=>
    rw[a] at h;refine⟨h,λj=>?_⟩;rw[<-Nat.eq_of_beq_eq_true a] at j;rw[tZ.2 j] at hm;cases hm
   |false=>
    rw[a] at h;exact rq h
theorem uf {a:Act} {e:Env}:∀ {S:List Nat} {vs:List x1},S2 N e a->(∀p∈S.zip vs,a.tmps.getD p.1 undef=p.2)->S2 N (iT S vs e) a
 |[],_,h,_=>by simpa[iT] using h
 |t::r,[],h,_=>by simpa[iT] using h
 |t::r,v::vs,h,j=>by
  have m:=uf (S:=r) (vs:=vs) h λp q=>j p (by simp[q]);refine⟨m.1,λs x U=>?_⟩;simp only[iT,look] at U;cases f:T5 t s with
  |true=>
   rw[f] at U;simp only[cond_true,Y8] at U;subst U;rw[<-Nat.eq_of_beq_eq_true f];exact j (t,v) Ξ
  |false=>rw[f] at U;exact m.2 s x U
theorem rr {e:Env} {a:Act} (m:S2 N e a):∀ {S:List Nat} {vs:List x1},j0 e S=σ vs->vs.length=S.length/\ ∀p∈S.zip vs,a.tmps.getD p.1 undef=p.2
 |[],vs,h=>by simp[j0] at h;subst h;simp
 |t::r,vs,h=>by
  simp only[j0] at h;cases j:look e t with
  |none=>rw[j] at h;cases h
  |some x=>
   rw[j] at h;simp only at h;cases ad:j0 e r with
   |none=>rw[ad] at h;cases h
   |some us=>
    rw[ad] at h;simp only[Y8] at h;subst h;obtain⟨h1,q⟩:=rr m ad;refine⟨by simp[h1],λp f=>?_⟩;simp only[List.zip_cons_cons,W9] at f;rcases f with rfl|f
    .exact m.2 t x j
    .exact q p f
theorem Fy {a a':Act} {e f:Env} (j:S2 N e a) (m:S2 N f a') (hk:∀t,t∉D->a'.tmps.getD t undef=a.tmps.getD t undef):S2 N (lp D e) a':=
 ⟨m.1,λt x h=>by
  obtain⟨h1,p⟩:=rq h;rw[hk t p];exact j.2 t x h1⟩
theorem Fz {o:U9} {t:Nat} (a:o.dst=σ t) (l:List U9) (hm:o∈l):t∈mU l:=by
 induction l with
 |nil=>cases hm
 |cons o' l e=>
  simp only[mU];rcases W9.1 hm with h|h
  .rw[<-h,a];simp
  .have:=e h;cases o'.dst with
   |none=>exact this
   |some d=>exact .tail _ this
theorem xX {free:ft} {f:Bool} {K:Exit->Env->x3->Prop} {a a':Act} (j:free.1=false->lq w a.defers) (h:l2 N free (K .normal) D a w a' w'):
  l6 N free f K D a w .normal a' w':=by
 obtain⟨m,h1,p,e,q⟩:=h;exact⟨rfl,m,h1,p,e.2,λ_=>e.1,λaf=>by rw[e.1];exact gB.same (j af) (q af)⟩
theorem xY:∀ (a:List Nat) (vs:List x1) (p:Nat) (v:x1) (e:Env),a.length=vs.length->iT (a++[p]) (vs++[v]) e=iT a vs ((p,.v v)::e)
 |[],[],_,_,_,_=>rfl
 |[],_::_,_,_,_,h=>by simp at h
 |_::_,[],_,_,_,h=>by simp at h
 |q::a,u::vs,p,v,e,h=>by
  simp only[List.cons_append,iT];rw[xY a vs p v e (by simpa using h)]
theorem xZ:∀ (a:List Nat) (vs:List x1) (iq:Array x1) (e:Env),a.length=vs.length->(a.all λt=>Nat.blt t N)=true->S2 N e {tmps:=iq,defers:=[]}->
  S2 N (iT a.reverse vs.reverse e) {tmps:=(a.zip vs).foldl (λiq (p:Nat×x1)=>iq.setIfInBounds p.1 p.2) iq,defers:=[]}
 |[],[],_,_,_,_,h=>h
 |[],_::_,_,_,h,_,_=>by simp at h
 |_::_,[],_,_,h,_,_=>by simp at h
 |p::a,v::vs,iq,e,m,f,h=>by
  have j:a.length=vs.length:=by simpa using m
  simp only[List.all_cons,V1] at f;simp only[List.zip_cons_cons,U8,List.reverse_cons];rw[xY _ _ _ _ _ (by simpa using j)];exact xZ a vs _ _ j f.2 (h.put (d:=σ p) (x:=.v v) (v:=v) f.1 rfl)
def iV (free:ft) (c:Code):Bool:=free.1|| !jY c
theorem x0:∀f a b:Bool,(f|| !(a||b))=true->(f|| !a)=true:=Φ
theorem x2:∀f a b:Bool,(f|| !(a||b))=true->(f|| !b)=true:=Φ
def exitCode:Exit->Option Code
 | .ret=>σ .ret
 | .exit id=>σ (.exit id)
 |_=>ν
end
section
variable {P:W5} {N:Nat}
def Sound (P:W5) (N:Nat) (c:Code):Prop:=
 ∀ (free:ft) (r:Option Nat) (rd:List Nat) (e:Env) (a:Act) (w:x3) (K:Exit->Env->x3->Prop) (Q:Exit->Act->x3->Prop),
  wf N c=true->(∀l,r=σ l->free.1=false/\ ∃f,w.heap[l]? =σ (.loop f))->(free.1=false->lq w a.defers)->
  ev P N free c rd e w K->S2 N e a->(∀ex a' w',l6 N free (iV free c) K (dv c) a w ex a' w'->Q ex a' w')->(∀h a w,¬Q (.panic h) a w)->
  c.wpIn (ep r) 0 P Q a w
theorem FA {x y:Code} (J:Sound P N x) (Y:Sound P N y):Sound P N (.seq x y):=by
 intro free r rd e a w K Q B I Z h L M O;simp only[wf,V1] at B;have R:∀t,t∈dv x->t∈dv (.seq x y):=λt p=>by simp[dv,p]
 have aa:∀t,t∈dv y->t∈dv (.seq x y):=λt p=>by simp[dv,p]
 have S:iV free (.seq x y)=true->iV free x=true:=λh=>x0 _ _ _ h;have ab:iV free (.seq x y)=true->iV free y=true:=λh=>x2 _ _ _ h;refine wpIn_seq ?_;have T:∀ (f:Env) (j:Act) (V:x3),ev P N free y rd f V K->S2 N f j->(∀t,t∉dv x->j.tmps.getD t undef=a.tmps.getD t undef)->
   (iV free (.seq x y)=true->j.defers=a.defers)->(free.1=false->gB free.2 w a.defers V j.defers)->y.wpIn (ep r) 0 P Q j V:=by
  intro f j V h1 q hk af m;refine Y free r rd f j V K Q B.2 ?_ (λh=>(m h).2.1) h1 q ?_ O
  .intro l ac;obtain⟨U,ae,A⟩:=I l ac;exact⟨U,ae,(m U).1.aZ _ _ A rfl⟩
  .intro ex a' w' z;exact M ex a' w' (z.step aa (λt p=>hk t λh=>p (R t h)) ab af m)
 have W:∀ (s:Exit->Env->x3->Prop),ev P N free x (reads y++rd) e w s->
   (∀f j V,l6 N free (iV free x) s (dv x) a w .normal j V->S2 N f j->s .normal f V->(∀t,t∉dv x->j.tmps.getD t undef=a.tmps.getD t undef)->
    (iV free (.seq x y)=true->j.defers=a.defers)->(free.1=false->gB free.2 w a.defers V j.defers)->y.wpIn (ep r) 0 P Q j V)->
   (∀ex f V,ex≠ .normal->s ex f V->K ex f V)->x.wpIn (ep r) 0 P (Exit.then (y.wpIn (ep r) 0 P Q) Q) a w:=by
  intro s ad m ag;refine J free r _ e a w s _ B.1 I Z ad L ?_ ?_
  .intro ex j V z;cases ex with
   |normal=>
    have ah:=z;obtain⟨A,f,h1,C,E,F,G⟩:=z;exact m f j V ah C h1 E (λh=>F (S h)) G
   |_=>
    obtain⟨A,f,h1,C,E,F,G⟩:=z;refine M _ j V ⟨A,f,ag _ f V Ξ h1,C,λt p=>E t λh=>p (R t h),λh=>F (S h),G⟩
  .intro ai a w aj;exact O ai a w aj
 simp only[ev] at h;cases X:Nat.ble 2 (kE x) with
 |false=>
  rw[X] at h;refine W _ h (λf j V _ q h1 hk af m=>T f j V h1 q hk af m) ?_;intro ex f V H h1;cases ex<;>first|exact absurd rfl H|exact h1
 |true=>
  rw[X] at h;refine W _ h (λf j V _ q h1 hk af m=>?_) ?_
  .simp only at h1;cases ad:j0 f (pA N (dv x) (reads y++rd)) with
   |none=>rw[ad] at h1;exact h1.elim
   |some vs=>
    rw[ad] at h1;obtain⟨ak,al⟩:=rr q ad;simp only at h1;rw[rk _ _ _ ak] at h1;exact T _ j V h1 (uf (Fy L q hk) al) hk af m
  .intro ex f V H h1;cases ex<;>first|exact absurd rfl H|exact h1
theorem FB {c:Code} (Z:Sound P N c):Sound P N (.loop c):=by
 intro free r rd e a w K Q O ab ac h C ae ag;simp only[wf] at O;simp only[ev] at h;generalize aw:pB N (dv c) (reads c++rd) e=S at h;cases ad:j0 e S with
 |none=>rw[ad] at h;exact h.elim
 |some vs=>
  rw[ad] at h;simp only at h;obtain⟨I,ah,m,ai⟩:=h;obtain⟨aj,ak⟩:=rr C ad;let Inv:Act->x3->Prop:=λf V=>∃us,us.length=S.length/\app S.length I us V/\(∀p∈S.zip us,f.tmps.getD p.1 undef=p.2)/\f.tmps.size=N/\
   (∀t,t∉dv c->f.tmps.getD t undef=a.tmps.getD t undef)/\(iV free c=true->f.defers=a.defers)/\(free.1=false->gB free.2 w a.defers V f.defers)
  let q:Act->List x1:=λf=>S.map λt=>f.tmps.getD t undef;have R:∀ (f:Act) (us:List x1),us.length=S.length->(∀p∈S.zip us,f.tmps.getD p.1 undef=p.2)->q f=us:=by
   intro f us s y;apply List.ext_getElem
   .simp[q,s]
   .intro i h1 j;have hi:i<S.length:=by simpa[q] using h1
    have al:(S[i],us[i])∈S.zip us:=by
     have:=R8 (l:=S.zip us) (n:=i) (by simp[List.length_zip,s,hi]);simpa using this
    simpa[q] using y _ al
  refine wpIn_loop Inv (λf V=>app S.length ah (q f) V) ⟨vs,aj,m,ak,C.1,λ_ _=>rfl,λ_=>rfl,λaf=>gB.refl (ac af)⟩ ?_;rintro f V ⟨us,s,am,y,an,hk,af,z⟩;have A:=rl S.length _ us ai;rw[rk _ _ _ s] at A;have A:=A V am;have ao:S2 N (iT S us (lp (dv c) e)) f:=by
   refine uf (a:=f) (e:=lp (dv c) e) ⟨an,λt x B=>?_⟩ y;obtain⟨h1,j⟩:=rq B;rw[hk t j];exact C.2 t x h1
  refine Z free r _ _ f V _ _ O ?_ (λh=>(z h).2.1) A ao ?_ ?_
  .intro l ap;obtain⟨T,aq,m⟩:=ab l ap;exact⟨T,aq,(z T).1.aZ _ _ m rfl⟩
  .intro ex E aa F;have U:∀t,t∉dv c->E.tmps.getD t undef=a.tmps.getD t undef:=by
    obtain⟨_,_,_,_,G,_,_⟩:=F;exact λt B=>(G t B).trans (hk t B)
   cases ex with
   |normal=>
    obtain⟨m,H,h1,j,G,J,L⟩:=F;simp only at h1;cases M:j0 H S with
    |none=>rw[M] at h1;exact h1.elim
    |some W=>
     rw[M] at h1;obtain⟨X,Y⟩:=rr j M;refine⟨⟨W,X,h1.1,Y,j.1,U,λh=>(J h).trans (af h),λh=>(z h).trans (L h)⟩,?_⟩;rw[R f us s y,R E W X Y];exact h1.2
   |_=>
    obtain⟨m,H,h1,j,G,J,L⟩:=F;exact ae _ E aa ⟨m,H,h1,j,U,λh=>(J h).trans (af h),λh=>(z h).trans (L h)⟩
  .intro au a w av;exact ag au a w av
theorem FC {o:Obj} (h:fq o=false):book o=true\/q7 o=true:=by cases o<;>first|exact .inl rfl|exact .inr rfl|cases h
theorem FD {l:Nat} {f q h:x3} {s w:Obj} (y:f.heap[l]? =σ s) (a:cC n f q) (e:cC n (q.putObj l w) h) (z:l<h.heap.size) (hi:eW f h):cM f (h.putObj l s):=
 ⟨e.os.trans a.os,jn.trans e.tape a.tape,e.output.trans a.output,by have h1:=a.size;have A:=e.size;simp at A ⊢;omega,λr x j U=>by
  by_cases p:r=l
  .subst p;rw[y] at j;cases j;exact x3.putObj_heap_same z
  .rw[R4 p];rcases FC U with m|m
   .exact e.aZ r x (by rw[R4 p];exact a.aZ r x j m) m
   .exact hi r x j m⟩
theorem FE {f:S0} {U:Array Tmp} {Y body:Code} (bd:Sound P N Y) (ak:Sound P N body):Sound P N (.rangeFunc f U Y body):=by
 intro free r rd e a w K Q aM T ax h ad be b0;simp only[wf,V1] at aM;obtain⟨bf,bg,bh⟩:=aM;simp only[ev] at h;obtain⟨fr,b⟩:=free;cases fr with
 |true=>exact h.elim
 |false=>
  simp only[cond_false] at h;cases af:eG e f with
  |none=>rw[af] at h;exact h.elim
  |some b1=>
   rw[af] at h;obtain⟨aN,o,G,g,cap,b2,b3,b4,al,I,ay,bi,⟨aO,bj⟩,bk,haP,am,az,hbl,bm,bn,bo,bp,bq⟩:=h;have br:∀m k ex w',kG ex=true->ex≠ .normal->ay m k ex w'->K ex e w':=by
    intro m k ex w' ae aB J;cases ex with
    |normal=>exact absurd rfl aB
    |ret=>
     have:=bp m k w' J;cases T:iU body with
     |true=>rw[T] at this;exact this
     |false=>rw[T] at this;exact this.elim
    |exit i=>exact xV (bq m k i w' J)
    |_=>cases ae
   have bt:a.eval f= .func (.func g) #[] cap:=by rw[ad.eG af];exact bi
   refine wpIn_rangeFunc ?_;intro fn _;obtain⟨D,mark,l,z,s,bu,C,aQ,an,O,aR,ao⟩:∃ (D:Nat) (mark:List Deferred) (l:Nat) (z:x3) (s:LoopState->Option Code->Loop),
     (Instr.enterLoop fn a.tmps U Y body (ep r).round).run P w= .ok (l,mark) z/\
     s=(λst bw=>{state:=st,pending:=bw,fn,tmps:=a.tmps,params:=U,assign:=Y,body,defers:=D})/\
     z.heap[l]? =σ (.loop (s .ready ν))/\(mark=[]\/(mark=[j1 D]/\z.heap[D]? =σ (.deferred (σ []))/\w.heap.size<=D/\D≠l))/\Ext w z/\cM w z/\w.heap.size<=l:=by
    cases r with
    |none=>
     refine⟨w.heap.size,[j1 w.heap.size],w.heap.size+1,_,_,run_enterLoop_outer _ _ _ _ _,rfl,?_,.inr ⟨rfl,?_,p8 _,Ω⟩,?_,?_,Ω⟩
     .have:=x3.alloc_heap_new (w.alloc (.deferred (σ []))) (.loop {state:=.ready,pending:=ν,fn,tmps:=a.tmps,params:=U,assign:=Y,body,defers:=w.heap.size});rwa [x3.size_alloc] at this
     .exact (Below.heap_alloc _ _ _ Ξ).trans (x3.alloc_heap_new w _)
     .exact (oh w _).trans (oh _ _)
     .exact (oi w _).trans (oi _ _)
    |some bx=>
     obtain⟨_,bz,R⟩:=T bx rfl;exact⟨bz.defers,[],w.heap.size,_,_,run_enterLoop_inner R _ _ _ _ _,rfl,x3.alloc_heap_new w _,.inl rfl,oh _ _,oi _ _,p8 _⟩
   let S:x3->Prop:=λj=>mark=[]\/(mark=[j1 D]/\j.heap[D]? =σ (.deferred (σ []))/\w.heap.size<=D/\D≠l);have aC:∀ {m:Nat} {A B:x3},cC m A B->S A->S B:=λE h=>h.imp id λ⟨h1,q,y⟩=>⟨h1,E.aZ _ _ q rfl,y⟩;have ap:∀ {A:x3} (o:Obj),S A->S (A.putObj l o):=λo h=>h.imp id λ⟨h1,q,y,H⟩=>⟨h1,(R4 H).trans q,y,H⟩;have bA:cC b w z:=aR.b;have aS:=(n9.1 aQ).1;have aT:∀ {A B:x3},fs z.heap.size A B->S A->S B:=λE h=>h.imp id λ⟨h1,q,y⟩=>⟨h1,E.old _ _ (by
    rcases an with hm|⟨_,ax,_⟩
    .rw[hm] at h1;cases h1
    .exact (n9.1 ax).1) q rfl,y⟩
   have ag:∀ {A:x3} (o:Obj),fs w.heap.size A (A.putObj l o):=λ{A} o=>⟨rfl,.jV,rfl,Ξ,λr x T J _=>by rw[R4 Ω];exact J⟩;let aA:(Nat->Prop)->aN->x3->Prop:=λm k j=>I m k j/\j.heap[l]? =σ (.loop (s .ready ν))/\cC b w j/\S j;let aU:(Nat->Prop)->aN->x3->Prop:=λm k j=>∃ex c,kG ex=true/\exitCode ex=σ c/\ay m k ex j/\j.heap[l]? =σ (.loop (s .done (σ c)))/\cC b w j/\S j;have own:∀ {m:Nat->Prop} {A B:x3},ah (λr=>o=true/\z.heap.size<=r/\¬m r) A B->ah (λr=>o=true/\w.heap.size<=r/\¬m r) A B:=λh=>h.mono λr _ h=>⟨h.1,Y9 O.size h.2.1,h.2.2⟩;have aD:=bj l aA aU z (λm k A B he E ⟨h1,q,y,H⟩=>⟨am m k A B (own he) (E.mono O.size) h1,E.old _ _ aS q rfl,y.xI E O.size,aT E H⟩)
    (λm k A B he E ⟨ex,c,R,h1,q,y,H,ai⟩=>⟨ex,c,R,h1,az m k ex A B (own he) (E.mono O.size) q,E.old _ _ aS y rfl,H.xI E O.size,aT E ai⟩) ?round (haP _ _ _ O hbl) ⟨am _ _ _ _ (O.ab _) aR.o bm,aQ,bA,an⟩
   case round=>
    intro m k aq vs j aV bB hal aW ⟨hi,au,bC,bD⟩;have aE:=bk k vs aq j aW;have aX:=run_yield (P:=P) (args:=vs.toArray) au (by rw[C];simp[aE]);rw[C] at aX;refine⟨fn,_,Y,body,aX,roundIn_of_wpIn trivial ?_⟩;have bE:(U.zip vs.toArray).foldl (λtmps x=>match x with|(t,a)=>tmps.setIfInBounds t a) a.tmps=(U.toList.zip vs).foldl (λiq (p:Nat×x1)=>iq.setIfInBounds p.1 p.2) a.tmps:=by
     rw[<-Array.foldl_toList,Array.toList_zip]
    have aY:=xZ (N:=N) U.toList vs a.tmps e (by simp[aE]) bf (show S2 N e {tmps:=a.tmps,defers:=[]} from⟨ad.1,ad.2⟩);rw[<-bE] at aY;have bF:j.heap[l]? =σ (.loop (s .ready ν)):=au;refine bd (false,b) (σ l) _ _ _ j _ _ bg (λl' aF=>⟨rfl,by cases aF;exact⟨_,au⟩⟩) (λ_=>⟨[],rfl,List.nodup_nil,λD an=>by cases an⟩) (by have ak:=rl _ _ vs bn;rw[rk _ _ _ aE] at ak;exact ak m k aq j (λr T=>⟨Y9 O.size (aV r T).1,(aV r T).2⟩) (Y9 O.size bB) hal aW hi) aY ?_ (λ_ _ _ h=>h);intro ex a1 F aG;obtain⟨R,b5,h1,q,y,H,ai⟩:=aG;obtain⟨V,bG,_⟩:=ai rfl;cases ex with
    |normal=>
     have Z:F.heap[l]? =σ (.loop (s .ready ν)):=V.aZ _ _ au rfl;have bH:=(n9.1 Z).1;refine⟨_,run_beginRound Z (by rw[C]),?_⟩;have bI:Ext F (F.putObj l (.loop {s .ready ν with state:=.busy})):=pD Z rfl _;have a2:(F.putObj l (.loop {s .ready ν with state:=.busy})).heap[l]? =σ (.loop {s .ready ν with state:=.busy}):=x3.putObj_heap_same bH;have bJ:lq (F.putObj l (.loop {s .ready ν with state:=.busy})) a1.defers:=by
      obtain⟨av,aa,ac,aj⟩:=bG;refine⟨av,aa,ac,λD' W=>?_⟩;have:=aj D' W;have aB:D'≠l:=λhe=>by rw[he,Z] at this;cases this
      rw[R4 aB];exact this
     have a6:cC b w (F.putObj l (.loop {s .ready ν with state:=.busy})):=rp (bC.trans V) ao _;have a7:=ap (.loop {s .ready ν with state:=.busy}) (aC V bD);have bK:=h1 _ bI ⟨xW rfl,ag _⟩ (Fw (eW.refl _) Z rfl _);refine ak (false,b) (σ l) _ _ a1 _ _ _ bh (λl' aF=>⟨rfl,by cases aF;exact⟨_,a2⟩⟩) (λ_=>bJ) bK q ?_ (λ_ _ _ h=>h);intro bL b6 L aG;obtain⟨aH,b7,g1,b8,b9,ca,bM⟩:=aG;obtain⟨M,_,_⟩:=bM rfl;have aI:L.heap[l]? =σ (.loop {s .ready ν with state:=.busy}):=M.aZ _ _ a2 rfl;have aJ:=(n9.1 aI).1;have a8:=λbN=>run_endRound (P:=P) bN aI;have aw:∀ (o:Obj),Ext L (L.putObj l o):=λo=>pD aI rfl o;have ba:∀ (ex:Exit) (c:Code),kG ex=true->exitCode ex=σ c->(bif o then False else ay m k ex L)->
       ∃v w',(Instr.endRound l (σ c)).run P L= .ok v w'/\ ∃aK,Ending.returned v= .returned aK/\((aK= .bool true/\(∃cm,(∀r,cm r->m r\/j.heap.size<=r/\r<w'.heap.size)/\(∀r,m r->cm r)/\al cm w'/\aA cm aq w')/\(G=true\/o=true->cM j w')/\j.heap.size<=w'.heap.size/\(o=true->ah (λr=>r<z.heap.size\/m r) j w'))\/(o=false/\aK= .bool false/\aU m k w')):=by
      intro ex c ae bO bb;cases o with
      |true=>exact bb.elim
      |false=>
       refine⟨_,_,a8 (σ c),_,rfl,.inr ⟨rfl,rfl,ex,c,ae,bO,az m k ex _ _ ((aw _).ab _) (ag _) bb,?_,rp (a6.trans M) ao _,ap _ (aC M a7)⟩⟩;rw[x3.putObj_heap_same aJ,C];rfl
     cases bL with
     |normal=>
      have bP:j.heap.size<=L.heap.size:=by
       have h1:=V.size;have q:=M.size;simp at q;omega
      obtain⟨⟨cm,d1,d2,aa,ac⟩,bQ,bR⟩:(∃cm,(∀r,cm r->m r\/j.heap.size<=r/\r<L.heap.size)/\(∀r,m r->cm r)/\al cm L/\I cm aq L)/\(G=true\/o=true->eW j L)/\(o=true->ah (λr=>r<z.heap.size\/m r) j L):=by
       cases o with
       |true=>exact⟨g1.1,λ_=>g1.2.1,λ_=>g1.2.2.mono λr _ h=>h.imp (λh=>R6 h O.size) id⟩
       |false=>exact⟨⟨m,λr h=>.inl h,λ_ h=>h,g1.1,g1.2.1⟩,λh=>g1.2.2 (h.elim id λh=>nomatch h),λh=>nomatch h⟩
      refine⟨_,_,a8 ν,_,rfl,.inl ⟨rfl,⟨cm,by simpa using d1,d2,haP _ _ _ (aw _) aa,am _ _ _ _ ((aw _).ab _) (ag _) ac,?_,rp (a6.trans M) ao _,ap _ (aC M a7)⟩,λbS=>?_,?_,λbT=>(bR bT).trans ((aw _).ab _)⟩⟩
      .rw[x3.putObj_heap_same aJ,C];rfl
      .have:=FD bF V M aJ (bQ bS);subst C;exact this
      .simpa using bP
     |ret=>exact ba .ret _ rfl rfl g1
     |exit id=>exact ba (.exit id) _ rfl rfl g1
     |goto t=>cases aH
     |panic bU=>cases aH
     |outgrown=>cases aH
    |_=>exact h1.elim
   have aD:=gx.calls P aD aO;refine⟨l,mark,z,{target:=.fn (.func g) cap,args:=#[.func (.yield l) #[] #[]]},z,g,#[.func (.yield l) #[] #[]]++cap,z,bu,?_,λ_ _=>trivial,?_,tL _ _,?_⟩
   .simp only[resolve,bt];simp[go_sem]
   .simp only[invoke];exact aO _ _
   .have bV:(#[.func (.yield l) #[] #[]]++cap:Array x1)=(x1.func (.yield l) #[] #[]::cap.toList).toArray:=by apply Array.toList_inj.1;simp
    rw[bV];refine CallsIn.mono (xJ aD) ?_;rintro cb F ⟨v,rfl,bW⟩;have left:∀ (X:Loop) (ex:Exit),kG ex=true->F.heap[l]? =σ (.loop X)->X.state≠ .busy->cC b w F->S F->K ex e (F.putObj l (.loop {X with state:=.exhausted}))->
      Q ex {a with defers:=mark++a.defers} (F.putObj l (.loop {X with state:=.exhausted})):=by
     intro X ex ae Z cc V bc bX;have M:cC b w (F.putObj l (.loop {X with state:=.exhausted})):=rp V ao _;refine be ex _ _ ⟨ae,e,bX,⟨ad.1,ad.2⟩,λ_ _=>rfl,(λh=>by simp[iV,jY] at h),λ_=>⟨M,?_,?_⟩⟩
     case refine_2=>
      rcases bc with hm|⟨hm,_,bY,_⟩
      .exact⟨[],by simp[hm],λ_ h=>by cases h⟩
      .exact⟨[D],by simp[hm],λD' W=>by simp at W;omega⟩
     obtain⟨av,aa,ac,aj⟩:=ax rfl;have aL:=ap (.loop {X with state:=.exhausted}) bc;rcases aL with hm|⟨hm,aL,bY,_⟩
     .exact⟨av,by simp[hm,aa],ac,λD' W=>M.aZ _ _ (aj D' W) rfl⟩
     .refine⟨D::av,by simp[hm,aa],List.nodup_cons.2 ⟨λbZ=>?_,ac⟩,λD' W=>?_⟩
      .have:=(n9.1 (aj D bZ)).1;omega
      .rcases W9.1 W with h|h
       .rw[h];exact aL
       .exact M.aZ _ _ (aj D' h) rfl
    rcases bW with⟨m,k,hk,h1,q,y,H⟩|⟨m,k,ex,c,R,h1,q,y,H,ai⟩
    .refine⟨ν,_,by have:=run_endLoop (P:=P) q (by rw[C];simp);rw[C] at this;exact this,?_⟩;have:=left (s .ready ν) .normal rfl q (by rw[C];simp) y H (bo m _ _ hk (am m _ _ _ ((pD q rfl _).ab _) (ag _) h1));rw[C] at this;exact this
    .refine⟨σ c,_,by have:=run_endLoop (P:=P) y (by rw[C];simp);rw[C] at this;exact this,?_⟩;have:=left (s .done (σ c)) ex R y (by rw[C];simp) H ai (br m k ex _ R (by intro he;rw[he] at h1;cases h1) (az m _ _ _ _ ((pD y rfl _).ab _) (ag _) q));rw[C] at this;cases ex with
     |normal=>cases h1
     |ret=>cases h1;exact wpIn_ret this
     |exit id=>cases h1;exact wpIn_exit this
     |goto t=>cases R
     |panic bU=>cases R
     |outgrown=>cases R
theorem rt {b:Frame} {a:Act} {k:List Item} {cs:List Frame} {c:Code}:
  step P (lone (b.atR a (.code (.scope c)::k)) cs w)= .next (lone (b.atR a (.code c:: .inScope c::k)) cs w):=
 step_lone_go (by simp[stepG,stepG.exec,Frame.atR])
theorem FF {b:Frame} {a:Act} {k:List Item} {cs:List Frame} {c:Code}:
  step P (lone (b.atR a (.inScope c::k)) cs w)= .next (lone (b.atR a k) cs w):=
 step_lone_go (by simp[stepG,stepG.exec,Frame.atR])
theorem FG {F:Fence} {c:Code} {Q:Exit->Act->x3->Prop} {a:Act} (h:c.wpIn F n P (λex a' w'=>kG ex=true/\Q ex a' w') a w):
  (Code.scope c).wpIn F n P Q a w:=by
 intro b k cs y m p;have f:(lone (b.atR a (.code (.scope c)::k)) cs w).fenced P F:=fenced_calm m p rfl;obtain⟨e,q,r,⟨s,x⟩,j⟩:=h b (.inScope c::k) cs y m p;have J:∀id,exitTo id (.inScope c::k)=exitTo id k:=λid=>by simp[exitTo]
 cases e with
 |normal=>exact⟨.normal,q,r,x,.head f rt (StepsIn.trans j (.one (fenced_calm m p rfl) FF))⟩
 |exit id=>
  exact⟨.exit id,q,r,x,λz hk=>.head f rt (j.1 z (by rw[J];exact hk)),
   λA hk=>let⟨B,h1,C⟩:=j.2 A (by rw[J];exact hk);⟨B,h1,.head f rt C⟩⟩
 |ret=>exact⟨_,q,r,x,.of_steps (.one f rt) j⟩
 |goto l=>cases s
 |panic E=>cases s
 |outgrown=>cases s
theorem sound (hm:P.follows .mixedOrders=true) (c:Code):Sound P N c:=by
 induction c with
 |skip=>exact λfree r rd e a w K Q _ _ m h j p _=>wpIn_skip (p _ _ _ ⟨rfl,e,h,j,λ_ _=>rfl,λ_=>rfl,λaf=>gB.refl (m af)⟩)
 |label l=>exact λfree r rd e a w K Q _ _ m h j p _=>wpIn_label (p _ _ _ ⟨rfl,e,h,j,λ_ _=>rfl,λ_=>rfl,λaf=>gB.refl (m af)⟩)
 |ret=>exact λfree r rd e a w K Q _ _ m h j p _=>wpIn_ret (p _ _ _ ⟨rfl,e,h,j,λ_ _=>rfl,λ_=>rfl,λaf=>gB.refl (m af)⟩)
 |exit i=>exact λfree r rd e a w K Q _ _ m h j p _=>wpIn_exit (p _ _ _ ⟨rfl,e,h,j,λ_ _=>rfl,λ_=>rfl,λaf=>gB.refl (m af)⟩)
 |goto l=>exact λfree r rd e a w K Q _ _ m h j p _=>h.elim
 |refuse s=>exact λfree r rd e a w K Q _ _ m h j p _=>h.elim
 |region id ops Y=>
  intro free r rd e a w K Q q C m h j p E;simp only[wf,V1] at q;have U:∀o∈ops.toList,∀t,o.dst=σ t->t∈mU ops.toList:=λo Z t H=>Fz H _ Z;simp only[ev] at h;cases Y with
  |false=>exact Fe U q.1 h j λa' w' A=>p _ _ _ (xX m A)
  |true=>
   simp only[Y6,Bool.false_or] at q;exact Fo hm q.2 E U q.1 (λw' h1 F G=>h w' h1 F G) j λa' w' A=>p _ _ _ (xX m A)
 |seq x y J O=>exact FA J O
 |cond c x y J O=>
  intro free r rd e a w K Q q C m h j p E;simp only[wf,V1] at q;have V:∀ex a' w',l6 N free (iV free x) K (dv x) a w ex a' w'->Q ex a' w':=λex a' w' A=>p ex a' w' (by
   obtain⟨M,I,h1,F,G,L,R⟩:=A;exact⟨M,I,h1,F,λt H=>G t λh=>H (by simp[dv,h]),(λh=>L (x0 _ _ _ h)),R⟩)
  have W:∀ex a' w',l6 N free (iV free y) K (dv y) a w ex a' w'->Q ex a' w':=λex a' w' A=>p ex a' w' (by
   obtain⟨M,I,h1,F,G,L,R⟩:=A;exact⟨M,I,h1,F,λt H=>G t λh=>H (by simp[dv,h]),(λh=>L (x2 _ _ _ h)),R⟩)
  simp only[ev] at h;cases B:eG e c with
  |none=>rw[B] at h;exact h.elim
  |some v=>
   rw[B] at h;cases v with
   |b t=>
    cases t with
    |true=>exact wpIn_cond (t:=true) (j.eG B) (J free r rd e a w K Q q.1 C m h j V E)
    |false=>exact wpIn_cond (t:=false) (j.eG B) (O free r rd e a w K Q q.2 C m h j W E)
   |v z=>
    obtain⟨t,aa,H,af⟩:=h;refine wpIn_cond (t:=t) ((j.eG B).trans aa) ?_;cases t with
    |true=>exact J free r rd e a w K Q q.1 C m (H rfl) j V E
    |false=>exact O free r rd e a w K Q q.2 C m (af rfl) j W E
   |u=>exact h.elim
 |block id c B=>
  intro free r rd e a w K Q q C m h j p E;simp only[wf] at q;simp only[ev] at h;refine wpIn_block (B free r rd e a w _ _ q C m h j ?_ λX a w S=>E X a w S);intro ex a' w' A;obtain⟨M,I,h1,F,G,L⟩:=A;cases ex with
  |exit i=>
   simp only[Exit.inBlock];simp only at h1;by_cases hi:i=id
   .rw[if_pos hi];rw[hi,Nat.beq_refl] at h1;exact p _ _ _ ⟨rfl,I,h1,F,G,L⟩
   .rw[if_neg hi];have:T5 i id=false:=by
     cases T:T5 i id with
     |true=>exact absurd (Nat.eq_of_beq_eq_true T) hi
     |false=>rfl
    rw[this] at h1;exact p _ _ _ ⟨rfl,I,h1,F,G,L⟩
  |_=>exact p _ _ _ ⟨M,I,h1,F,G,L⟩
 |loop c B=>exact FB B
 |scope c B=>
  intro free r rd e a w K Q q C m h j p E;exact FG (B free r rd e a w K (λex a' w'=>kG ex=true/\Q ex a' w') q C m h j (λex a' w' A=>⟨A.1,p ex a' w' A⟩) λX a w S=>by cases S.1)
 |rangeFunc f ac ad body ab T=>exact FE ab T
def kH:Nat->List x1->Env
 |_,[]=>[]
 |i,v::r=>(i,.v v)::kH (i+1) r
def mX (P:W5) (e:Env) (w:x3):List ResultVar->(List x1->Prop)->Prop
 |[],K=>K []
 | .tmp t::r,K=>match look e t with
  |some x=>mX P e w r λvs=>K (x.val::vs)
  |none=>False
 | .cell a t::r,K=>match look e a with
  |some x=>ac P (do loadVar t (<-asAddr x.val)) w λv=>mX P e w r λvs=>K (v::vs)
  |none=>False
def ru:List x1->x1
 |[v]=>v
 |vs=>.tuple vs.toArray
def lr (P:W5) (a:List ResultVar) (marks:Bool) (n:Nat) (Q:x1->x3->Prop):Exit->Env->x3->Prop
 | .normal,e,w| .ret,e,w=>mX P e w a λvs=>bif marks then ub n w λw'=>Q (ru vs) w' else Q (ru vs) w
 |_,_,_=>False
def l7:List ResultVar->List Nat
 |[]=>[]
 | .tmp t::r=>t::l7 r
 | .cell a _::r=>a::l7 r
theorem x9:∀ (vs:List x1) (i t:Nat) (x:eu),look (kH i vs) t=σ x-> ∃j v,t=i+j/\vs[j]? =σ v/\x= .v v
 |[],_,_,_,h=>by cases h
 |v::r,i,t,x,h=>by
  simp only[kH,look] at h;cases a:T5 i t with
  |true=>
   rw[a] at h;simp only[cond_true,Y8] at h;exact⟨0,v,by rw[Nat.eq_of_beq_eq_true a];rfl,rfl,h.symm⟩
  |false=>
   rw[a] at h;obtain⟨j,u,h1,e,f⟩:=x9 r (i+1) t x h;exact⟨j+1,u,Ω,by simpa using e,f⟩
theorem ug (vs:List x1) (h:vs.length<=n):S2 n (kH 0 vs) {tmps:=vs.toArray++Array.replicate (n-vs.toArray.size) undef,defers:=[]}:=by
 refine⟨Θ,λt x J=>?_⟩;obtain⟨j,v,h1,a,rfl⟩:=x9 vs 0 t x J;have h1:t=j:=Ω
 subst h1;have e:t<vs.length:=(x4.1 a).1;rw[Array.getD_eq_getD_getElem?,Array.getElem?_append_left (by simpa using e)];simp[a,eu.val]
def rv (iq:Array x1):ResultVar->Sem x1
 | .tmp t=>pure (iq.getD t undef)
 | .cell b t=>do loadVar t (<-asAddr (iq.getD b undef))
theorem FH (fn:Func) (iq:Array x1):results fn iq=(do let vs <-fn.results.mapM (rv iq);pure (if h:vs.size=1 then vs[0] else .tuple vs)):=by
 unfold results;congr 2
theorem uh {e:Env} {a:Act} {w:x3} (j:S2 N e a):∀ (m:List ResultVar) (K:List x1->Prop),mX P e w m K->
  ∃vs,K vs/\vs.length=m.length/\ ∀w',Ext w w'->(m.mapM (rv a.tmps)).run P w'= .ok vs w'
 |[],K,h=>⟨[],h,rfl,λw' _=>by simp[V0]⟩
 | .tmp t::r,K,h=>by
  simp only[mX] at h;cases f:look e t with
  |none=>rw[f] at h;exact h.elim
  |some x=>
   rw[f] at h;obtain⟨vs,h1,p,q⟩:=uh j r _ h;refine⟨x.val::vs,h1,by simp[p],λw' hw=>?_⟩;rw[List.mapM_cons];simp only[rv,W0,V0,W3,q w' hw,j.2 t x f]
 | .cell b t::r,K,h=>by
  simp only[mX] at h;cases f:look e b with
  |none=>rw[f] at h;exact h.elim
  |some x=>
   rw[f] at h;obtain⟨v,ad,h⟩:=h;obtain⟨vs,h1,p,q⟩:=uh j r _ h;refine⟨v::vs,h1,by simp[p],λw' hw=>?_⟩;rw[List.mapM_cons];have:=ad w' hw;rw[<-j.2 b x f] at this;rw[rv,W0,this];simp only[W3,W0,q w' hw,V0]
theorem ui {fn:Func} {e:Env} {a:Act} (j:S2 N e a) {K:List x1->Prop} (h:mX P e w fn.results.toList K):
  ∃vs,K vs/\ ∀w',Ext w w'->(results fn a.tmps).run P w'= .ok (ru vs) w':=by
 obtain⟨vs,h1,m,f⟩:=uh j _ _ h;refine⟨vs,h1,λw' hw=>?_⟩;have f:=f w' hw;rw[FH,W0,Array.mapM_eq_mapM_toList,map_eq_pure_bind,W0,f];simp only[W3,V0];cases vs with
 |nil=>rfl
 |cons v r=>
  cases r with
  |nil=>rfl
  |cons u r=>simp[ru]
theorem ya {fn:Func} {tmps:Array x1} {R:Ending->x3->Prop}:∀ (a:List Nat) (w:x3),a.Nodup->(∀D∈a,w.heap[D]? =σ (.deferred (σ [])))->
  (∀w',Ext w w'->Ext w' w->w'.os=w.os->jn w w'->w'.output=w.output->w.heap.size=w'.heap.size->
   (∀r,r∉a->w'.heap[r]? =w.heap[r]?)-> ∃v,(results fn tmps).run P w'= .ok v w'/\R (.returned v) w')->
  LeavesInM Fence.wide 0 P fn tmps R (a.map j1) .returning w
 |[],w,_,_,h=>by
  obtain⟨v,h1,e⟩:=h w (Ext.refl _) (Ext.refl _) rfl .jV rfl rfl λ_ _=>rfl;exact⟨v,h1,e⟩
 |D::a,w,f,j,h=>by
  rw[List.nodup_cons] at f;have m:=j D (.head _);refine⟨Ξ,.inl ⟨D,_,rfl,run_takeDeferred m,?_⟩⟩;refine ya a _ f.2 (λD' p=>?_) λw' h1 e s x y z A=>?_
  .rw[R4 (λhe=>f.1 (by rw[<-he];exact p))];exact j D' (.tail _ p)
  .refine h w' ((pD m rfl _).trans h1) (e.trans (xW rfl)) s x y (by simpa using z) λr q=>?_;rw[A r λhm=>q (.tail _ hm),R4 λhe=>q (by rw[he];exact .head _)]
theorem am.enter (hm:P.follows .mixedOrders=true) {f:R3} {fn:Func} {c:Code} (af:P.funcs[f]? =σ fn) (x:fn.body=σ c) (y:(fn.name == "runtime.NumGoroutine")=false)
  (K:wf fn.ntmps c=true) {args:List x1} (L:Nat.ble args.length fn.ntmps=true) {w:x3} {Q:x1->x3->Prop}
  (h:ev P fn.ntmps (false,w.heap.size) c (l7 fn.results.toList) (kH 0 args) w (lr P fn.results.toList true w.heap.size Q)):am P f args w Q:=by
 refine .code (Enters.of P af x y) (callsIn_wide (n:=0).1 (callsIn_of_wp_marks af x trivial ?_));have M:=ug (n:=fn.ntmps) args (Nat.le_of_ble_eq_true L);refine wpIn_mono (Q:=λex a' w'=>kG ex=true/\bodyPostM Fence.wide 0 P fn (λe w'=>∃v,e= .returned v/\cM w w'/\Q v w') ex a' w') ?_ λ_ _ _ h=>h.2;refine sound hm c (false,w.heap.size) ν _ _ _ w _ _ K (λl N=>by cases N) (λ_=>⟨[],rfl,List.nodup_nil,λD p=>by cases p⟩) h M ?_ (λ_ _ _ h=>by cases h.1)
 .intro ex a' w' O;obtain⟨R,S,j,T,_,_,U⟩:=O;obtain⟨a,⟨q,z,V,p⟩,W,X,Y⟩:=U rfl;have A:∀D∈q,w.heap.size<=D:=by
   intro D Z;have h1:j1 D∈W.map j1:=by
    have:j1 D∈q.map j1:=l9.2 ⟨D,Z,rfl⟩;rw[<-z,X] at this;simpa using this
   obtain⟨B,s,ab⟩:=l9.1 h1;have:B=D:=by simpa[j1] using ab
   exact this▸Y B s
  have C:lr P fn.results.toList true w.heap.size Q .ret S w'->LeavesInM Fence.wide 0 P fn a'.tmps (λe E=>∃v,e= .returned v/\cM w E/\Q v E) a'.defers .returning w':=by
   intro j;rw[z];obtain⟨vs,h1,s⟩:=ui (fn:=fn) T j;refine ya q w' V p λaa g1 ac F G H I J=>⟨_,s aa g1,_,rfl,?_,h1 aa g1 ⟨ac,F,G,H,Nat.le_of_eq I,λr o y m _=>by rw[J r λhm=>by have:=A r hm;omega];exact m⟩⟩;have a:=a.cu (p8 _);refine⟨F.trans a.os,G.trans a.tape,H.trans a.output,by rw[<-I];exact a.size,λr o m ad=>?_⟩;have ae:=(n9.1 m).1;rw[J r λhm=>by have:=A r hm;omega];exact a.aZ r o m ad
  cases ex with
  |normal=>exact⟨rfl,C j⟩
  |ret=>exact⟨rfl,C j⟩
  |exit id=>exact j.elim
  |_=>cases R
theorem am.FI (hm:P.follows .mixedOrders=true) {f:R3} {fn:Func} {c:Code} (af:P.funcs[f]? =σ fn) (j:fn.body=σ c) (q:(fn.name == "runtime.NumGoroutine")=false)
  (r:wf fn.ntmps c=true) {args:List x1} (s:Nat.ble args.length fn.ntmps=true) (aJ:jY c=false) {w:x3} {Q:x1->x3->Prop}
  (h:ev P fn.ntmps (false,w.heap.size) c (l7 fn.results.toList) (kH 0 args) w (lr P fn.results.toList false 0 Q)):am P f args w Q:=by
 refine .code (Enters.of P af j q) (callsIn_wide (n:=0).1 (callsIn_of_wp af j trivial ?_));have x:=ug (n:=fn.ntmps) args (Nat.le_of_ble_eq_true s);refine wpIn_mono (Q:=λex a' w'=>kG ex=true/\bodyPost P fn (λe w'=>∃v,e= .returned v/\cM w w'/\Q v w') ex a' w') ?_ λ_ _ _ h=>h.2;refine sound hm c (false,w.heap.size) ν _ _ _ w _ _ r (λl y=>by cases y) (λ_=>⟨[],rfl,List.nodup_nil,λD z=>by cases z⟩) h x ?_ (λ_ _ _ h=>by cases h.1);intro ex a' w' A;obtain⟨B,C,a,E,_,F,U⟩:=A;have G:a'.defers=[]:=F (by simp[iV,aJ]);have m:lr P fn.results.toList false 0 Q .ret C w'->a'.defers=[]/\ ∃v,(results fn a'.tmps).run P w'= .ok v w'/\ ∃p,Ending.returned v= .returned p/\cM w w'/\Q p w':=by
  intro a;obtain⟨vs,h1,H⟩:=ui (fn:=fn) E a;exact⟨G,_,H w' (Ext.refl _),_,rfl,(U rfl).1.cu (p8 _),h1⟩
 cases ex with
 |normal=>exact⟨rfl,m a⟩
 |ret=>exact⟨rfl,m a⟩
 |exit id=>exact a.elim
 |_=>cases B
theorem gx.enter (hm:P.follows .mixedOrders=true) {f:R3} {fn:Func} {c:Code} (af:P.funcs[f]? =σ fn) (j:fn.body=σ c) (q:(fn.name == "runtime.NumGoroutine")=false)
  (r:wf fn.ntmps c=true) {args:List x1} (s:Nat.ble args.length fn.ntmps=true) {w:x3} {Q:x1->x3->Prop}
  (h:ev P fn.ntmps (true,0) c (l7 fn.results.toList) (kH 0 args) w (lr P fn.results.toList false 0 Q)):gx P f args w Q:=by
 refine .code (Enters.of P af j q) (callsIn_wide (n:=0).1 (callsIn_of_wp af j trivial ?_));have x:=ug (n:=fn.ntmps) args (Nat.le_of_ble_eq_true s);refine wpIn_mono (Q:=λex a' w'=>kG ex=true/\bodyPost P fn (λe w'=>∃v,e= .returned v/\Q v w') ex a' w') ?_ λ_ _ _ h=>h.2;refine sound hm c (true,0) ν _ _ _ w _ _ r (λl y=>by cases y) (λh=>by cases h) h x ?_ (λ_ _ _ h=>by cases h.1);intro ex a' w' z;obtain⟨A,B,a,C,_,E,U⟩:=z;have F:a'.defers=[]:=E rfl;have m:lr P fn.results.toList false 0 Q .ret B w'->a'.defers=[]/\ ∃v,(results fn a'.tmps).run P w'= .ok v w'/\ ∃p,Ending.returned v= .returned p/\Q p w':=by
  intro a;obtain⟨vs,h1,G⟩:=ui (fn:=fn) C a;exact⟨F,_,G w' (Ext.refl _),_,rfl,h1⟩
 cases ex with
 |normal=>exact⟨rfl,m a⟩
 |ret=>exact⟨rfl,m a⟩
 |exit id=>exact a.elim
 |_=>cases A
end
def pE (l:List S0) (d:Nat):Nat:=
 match l with
 |[]=>d
 | .tmp t::r=>pE r (Nat.lor d (Nat.shiftLeft 1 t))
 |_::r=>pE r d
def oj:List U9->Nat->Option U9
 |[],_=>ν
 |o::_,0=>σ o
 |_::l,n+1=>oj l n
def yb (a b:Nat):Nat:=Nat.xor a (Nat.land a b)
def pF (m t:Nat):Bool:=T5 (Nat.land (Nat.shiftRight m t) 1) 1
def j2 (m t:Nat):Nat:=Nat.lor m (Nat.shiftLeft 1 t)
def FJ (ops:List U9) (o:U9):Nat:=
 match o.guard with
 |none=>0
 |some (j,_)=>match oj ops j with
  |some ⟨σ d,_,_,_,_,_⟩=>Nat.shiftLeft 1 d
  |_=>0
def rx:List U9->Nat->Nat
 |[],d=>d
 |⟨σ t,_,_,_,_,_⟩::l,d=>rx l (j2 d t)
 |_::l,d=>rx l d
def yc (ops:List U9):List U9->Nat->Nat->Nat
 |[],_,r=>r
 |o::l,d,r=>yc ops l (match o.dst with|some t=>j2 d t|none=>d) (Nat.lor r (yb (pE (opsOf o.op) (FJ ops o)) d))
def ry:List Nat->Nat->Nat
 |[],_=>0
 |x::_,0=>x
 |_::l,n+1=>ry l n
def yd (e:Edge):Bool:=
 match e.ground with
 | .textOnly _=>false
 | .gcOnly _=>false
 |_=>true
def ye (bs:List Nat):List Edge->Nat->Nat
 |[],s=>s
 |e::r,s=>ye bs r (bif yd e then Nat.lor (j2 s e.on) (ry bs e.on) else s)
def uj:List U9->List Nat->List Nat
 |[],bs=>bs
 |o::l,bs=>uj l (bs++[ye bs o.after.toList 0])
def yf:List U9->Bool
 |[]=>false
 |⟨_,_,_,_,_,σ _⟩::_=>true
 |_::l=>yf l
def uk (bs:List Nat) (j k:Nat):Bool:=!(T5 k j)&&(!(pF (ry bs j) k)&& !(pF (ry bs k) j))
def yg (bs:List Nat) (j:Nat):Nat->List U9->Bool
 |_,[]=>false
 |i,o::l=>bif Nat.ble j i then false else (!(iR o)&&uk bs j i)||yg bs j (Nat.succ i) l
def yh (ops:List U9) (bs:List Nat):Nat->List U9->Bool
 |_,[]=>false
 |j,o::l=>(!(iR o)&&yg bs j 0 ops)||yh ops bs (Nat.succ j) l
def lu:Code->Nat
 | .region _ ops e=>bif (e&&yh ops.toList (uj ops.toList []) 0 ops.toList)||yf ops.toList then 2 else 1
 | .seq a b=>bif T5 (lu a) 0 then 0 else lu b
 | .cond _ a b=>Nat.add (lu a) (lu b)
 | .block id c=>Nat.add (lu c) (jp id c)
 | .loop _=>0
 | .scope c=>lu c
 | .exit _=>0
 | .goto _=>0
 | .ret=>0
 | .refuse _=>0
 |_=>1
def hZ:Code->Nat
 | .region _ ops _=>rx ops.toList 0
 | .seq a b=>Nat.lor (hZ a) (hZ b)
 | .cond _ a b=>Nat.lor (hZ a) (hZ b)
 | .block _ c=>hZ c
 | .loop c=>hZ c
 | .scope c=>hZ c
 |_=>0
def lv:Code->Nat
 | .region _ ops _=>rx ops.toList 0
 | .seq a b=>Nat.lor (lv a) (lv b)
 | .cond _ a b=>bif T5 (lu a) 0 then lv b else bif T5 (lu b) 0 then lv a else Nat.land (lv a) (lv b)
 | .block id c=>bif T5 (jp id c) 0 then lv c else 0
 | .scope c=>lv c
 |_=>0
def fZ:Code->Nat
 | .region _ ops _=>yc ops.toList ops.toList 0 0
 | .seq a b=>Nat.lor (fZ a) (yb (fZ b) (lv a))
 | .cond c a b=>pE [c] (Nat.lor (fZ a) (fZ b))
 | .block _ c=>fZ c
 | .loop c=>fZ c
 | .scope c=>fZ c
 | .rangeFunc f _ a b=>pE [f] (Nat.lor (fZ a) (fZ b))
 |_=>0
def l8:Nat->Nat->Nat->List Nat
 |0,_,_=>[]
 |n+1,k,m=>bif T5 m 0 then[] else bif T5 (Nat.land m 1) 1 then k::l8 n (Nat.succ k) (Nat.shiftRight m 1) else l8 n (Nat.succ k) (Nat.shiftRight m 1)
def pG (e:Env):List Nat->List Nat
 |[]=>[]
 |t::r=>match look e t with
  |some _=>t::pG e r
  |none=>pG e r
structure ma (B S aX:Type) where
 kI:{x:x1}->x1
 tup:List x1->x1
 no:B
 kJ:B
 and:B->B->B
 or:B->B->B
 ext:x3->x3->B
 stays:S->x1->x3->B
 split:x1->B->B->B
 ul:S->x3->(x1->B)->B
 yi:S->x3->(x1->x3->B)->B
 yj:aX->x3->(x3->B)->B
 runN:{fr:Bool}->{n:Nat}->S->x3->(x1->x3->B)->B
 yk:{f:R3}->List x1->x3->(x1->x3->B)->B
 yl:{f:R3}->List x1->x3->(x1->x3->B)->B
 ym:{fr:Bool}->x1->List x1->x3->(x1->x3->B)->B
 drew:x3->(x3->B)->B
 again:{n:Nat}->x3->(x3->B)->B
 over:{n:Nat}->x3->(x3->B)->B
 dg:(x3->B)->((x3->B)->B)->B
 aV:(x1->x3->B)->((x1->x3->B)->B)->B
 gO:(x1->x1->x3->B)->((x1->x1->x3->B)->B)->B
 yn:(x1->x1->x1->x3->B)->((x1->x1->x1->x3->B)->B)->B
 yo:(x1->x1->x1->x1->x3->B)->((x1->x1->x1->x1->x3->B)->B)->B
 yp:(x1->x1->x1->x1->x1->x3->B)->((x1->x1->x1->x1->x1->x3->B)->B)->B
 yq:x3->(x3->(x3->B)->B)->B
 yr:x1->x3->(x1->x3->(x1->x3->B)->B)->B
 ys:x1->x1->x3->(x1->x1->x3->(x1->x1->x3->B)->B)->B
 yt:x1->x1->x1->x3->(x1->x1->x1->x3->(x1->x1->x1->x3->B)->B)->B
 yu:x1->x1->x1->x1->x3->(x1->x1->x1->x1->x3->(x1->x1->x1->x1->x3->B)->B)->B
 yv:x1->x1->x1->x1->x1->x3->(x1->x1->x1->x1->x1->x3->(x1->x1->x1->x1->x1->x3->B)->B)->B
 yw:x1->x1->x1->x1->x1->x1->x3->(x1->x1->x1->x1->x1->x1->x3->(x1->x1->x1->x1->x1->x1->x3->B)->B)->B
 yx:x1->x3->(x1->x3->(Exit->x3->B)->B)->(x3->B)->(x3->B)->List (Nat×(x3->B))->B
 yy:x1->x3->(x1->x1->x3->(Exit->x3->B)->B)->(x3->B)->(x3->B)->List (Nat×(x3->B))->B
 loadVar:{t:r9}->x1->S
 alloc:{t:r9}->S
 box:{t:r9}->x1->S
 build:{t:r9}->List (Nat×x1)->S
 buildSlice:{t:r9}->{n:Nat}->List (Nat×x1)->S
 load:{t:r9}->x1->S
 nil:x1->S
 bin:{op:BinOp}->{t:r9}->Bool->Bool->x1->x1->S
 un:{op:UnOp}->x1->S
 conv:{s d:r9}->x1->S
 yz:{t:r9}->x1->S
 yA:{f:Fn}->List x1->List x1->S
 yB:{t:r9}->Option x1->S
 yC:{t:r9}->x1->x1->S
 slice:{t:r9}->x1->Option x1->Option x1->Option x1->S
 yD:{t:r9}->x1->{f:Nat}->S
 field:{t:r9}->x1->{f:Nat}->S
 yE:{t:r9}->x1->x1->S
 index:{t:r9}->x1->x1->S
 lookup:{t:r9}->x1->x1->{ok:Bool}->S
 yF:{t:r9}->x1->x1->S
 range:{t:r9}->x1->S
 entry:x1->S
 assert:{t a:r9}->x1->{ok:Bool}->S
 extract:x1->{i:Nat}->S
 next:x1->{b:Bool}->S
 append:{ats:Array r9}->{t:r9}->List x1->S
 cap:{ats:Array r9}->{t:r9}->List x1->S
 clear:{ats:Array r9}->{t:r9}->List x1->S
 copy:{ats:Array r9}->{t:r9}->List x1->S
 delete:{ats:Array r9}->{t:r9}->List x1->S
 len:{ats:Array r9}->{t:r9}->List x1->S
 max:{ats:Array r9}->{t:r9}->List x1->S
 min:{ats:Array r9}->{t:r9}->List x1->S
 store:{t:r9}->x1->x1->aX
 um:{t:r9}->x1->x1->x1->aX
 yG:{t:r9}->x1->x1->x1->aX
section
variable {B S aX:Type} (A:ma B S aX)
def eu.g:eu->x1
 | .v x=>x
 | .b c=>.bool c
 | .u=>A.kI (x:=undef)
def mY (e:Env):S0->eu
 | .tmp t=>match look e t with
  |some x=>x
  |none=>.u
 | .const (.bool c)=>.b c
 | .const x=>.v (A.kI (x:=x))
 | .global g=>.v (A.kI (x:=Γ g))
 | .func f=>.v (A.kI (x:=.func (.func f) #[] #[]))
def cY (e:Env) (x:S0):x1:=(mY A e x).g A
def mZ (e:Env):List S0->List x1
 |[]=>[]
 |x::r=>cY A e x::mZ e r
def rz (e:Env):Option S0->Option x1
 |none=>ν
 |some x=>σ (cY A e x)
def uo (e:Env):List (Nat×S0)->List (Nat×x1)
 |[]=>[]
 |(i,x)::r=>(i,cY A e x)::uo e r
def FK (b:Z2) (ats:Array r9) (t:r9) (l:List x1) (K:S->B):B:=
 match b with
 | .append=>K (A.append (ats:=ats) (t:=t) l)
 | .cap=>K (A.cap (ats:=ats) (t:=t) l)
 | .clear=>K (A.clear (ats:=ats) (t:=t) l)
 | .copy=>K (A.copy (ats:=ats) (t:=t) l)
 | .delete=>K (A.delete (ats:=ats) (t:=t) l)
 | .len=>K (A.len (ats:=ats) (t:=t) l)
 | .max=>K (A.max (ats:=ats) (t:=t) l)
 | .min=>K (A.min (ats:=ats) (t:=t) l)
 |_=>A.no
def yH (e:Env) (t:r9) (K:S->B) (j:aX->B):Op->B
 | .alloc t=>K (A.alloc (t:=t))
 | .box t x=>K (A.box (t:=t) (cY A e x))
 | .build t p=>K (A.build (t:=t) (uo A e p.toList))
 | .buildSlice t n p=>K (A.buildSlice (t:=t) (n:=n) (uo A e p.toList))
 | .load t x=>K (A.load (t:=t) (cY A e x))
 | .nilCheck x=>K (A.nil (cY A e x))
 | .binOp op t x y _=>K (A.bin (op:=op) (t:=t) (n7 x) (n7 y) (cY A e x) (cY A e y))
 | .unOp op _ x=>K (A.un (op:=op) (cY A e x))
 | .convert s d x=>K (A.conv (s:=s) (d:=d) (cY A e x))
 | .makeInterface t x=>K (A.yz (t:=t) (cY A e x))
 | .makeFunc f a b=>K (A.yA (f:=f) (mZ A e a.toList) (mZ A e b.toList))
 | .makeMap t r=>K (A.yB (t:=t) (rz A e r))
 | .makeSlice t l c=>K (A.yC (t:=t) (cY A e l) (cY A e c))
 | .slice t x l h m=>K (A.slice (t:=t) (cY A e x) (rz A e l) (rz A e h) (rz A e m))
 | .fieldAddr t x f=>K (A.yD (t:=t) (cY A e x) (f:=f))
 | .field t x f=>K (A.field (t:=t) (cY A e x) (f:=f))
 | .indexAddr t x i=>K (A.yE (t:=t) (cY A e x) (cY A e i))
 | .index t x i=>K (A.index (t:=t) (cY A e x) (cY A e i))
 | .lookup t x i ok=>K (A.lookup (t:=t) (cY A e x) (cY A e i) (ok:=ok))
 | .mapEntry t m k=>K (A.yF (t:=t) (cY A e m) (cY A e k))
 | .range t x=>K (A.range (t:=t) (cY A e x))
 | .entry x=>K (A.entry (cY A e x))
 | .typeAssert x t a ok=>K (A.assert (t:=t) (a:=a) (cY A e x) (ok:=ok))
 | .extract x i=>K (A.extract (cY A e x) (i:=i))
 | .call ⟨.builtin b,args,ats⟩=>FK A b ats t (mZ A e args.toList) K
 | .store t a x=>j (A.store (t:=t) (cY A e a) (cY A e x))
 | .mapUpdate t m k x=>j (A.um (t:=t) (cY A e m) (cY A e k) (cY A e x))
 | .insert t m k x=>j (A.um (t:=t) (cY A e m) (cY A e k) (cY A e x))
 | .entryStore t m k x=>j (A.yG (t:=t) (cY A e m) (cY A e k) (cY A e x))
 |_=>A.no
def hf (e:Env) (d:Option Tmp) (x:eu):Env:=
 match d with
 |some t=>(t,x)::e
 |none=>e
def yI (o:U9) (e:Env) (w:x3) (K:Env->(x3->B)->B):B:=
 match o with
 |⟨d,.move x,_,_,_,_⟩=>K (hf e d (mY A e x)) (λ_=>A.kJ)
 |⟨d,.assign x,_,_,_,_⟩=>K (hf e d (mY A e x)) (λ_=>A.kJ)
 |⟨d,.pick c a b,_,_,_,_⟩=>
  match mY A e c with
  | .b true=>K (hf e d (mY A e a)) (λ_=>A.kJ)
  | .b false=>K (hf e d (mY A e b)) (λ_=>A.kJ)
  | .v x=>A.split x (K (hf e d (.v (cY A e a))) (λ_=>A.kJ)) (K (hf e d (.v (cY A e b))) (λ_=>A.kJ))
  | .u=>A.no
 |⟨d,op,t,_,_,_⟩=>yH A e t (λs=>A.ul s w λv=>K (hf e d (.v v)) (A.stays s v)) (λ_=>A.no) op
def FL (fr:Bool) (n:Nat) (o:U9) (e:Env) (w:x3) (K:Env->x3->B):B:=
 match o with
 |⟨d,.call ⟨.value (.func f),args,_⟩,_,_,_,_⟩=>
  bif fr then A.yl (f:=f) (mZ A e args.toList) w λv w'=>K (hf e d (.v v)) w'
  else A.yk (f:=f) (mZ A e args.toList) w λv w'=>K (hf e d (.v v)) w'
 |⟨d,.call ⟨.value x,args,_⟩,_,_,_,_⟩=>A.ym (fr:=fr) (cY A e x) (mZ A e args.toList) w λv w'=>K (hf e d (.v v)) w'
 |⟨d,.next x b,_,_,_,_⟩=>A.runN (fr:=fr) (n:=n) (A.next (cY A e x) (b:=b)) w λv w'=>K (hf e d (.v v)) w'
 |⟨d,op,t,_,_,_⟩=>yH A e t (λs=>A.yi s w λv w'=>K (hf e d (.v v)) w') (λu=>A.yj u w λw'=>K (hf e d (.v (A.kI (x:=undef)))) w') op
def yJ (fr:Bool) (n:Nat) (o:U9) (e:Env) (w:x3) (K:Env->x3->B):B:=
 bif iR o then yI A o e w (λa _=>K a w) else FL A fr n o e w K
def uq (ops:List U9) (o:U9) (e:Env) (D N:Env->B):B:=
 match o.guard with
 |none=>D e
 |some (j,b)=>
  match oj ops j with
  |some ⟨σ s,_,_,_,_,_⟩=>
   match look e s with
   |some (.b c)=>bif xor c b then N e else D e
   |some (.v x)=>A.split x (bif b then D ((s,.b true)::e) else N ((s,.b true)::e)) (bif b then N ((s,.b false)::e) else D ((s,.b false)::e))
   |some .u=>N e
   |none=>A.no
  |_=>A.no
def ur (fr:Bool) (n:Nat) (ops:List U9):List U9->Env->x3->(Env->x3->B)->B
 |[],e,w,K=>K e w
 |o::l,e,w,K=>uq A ops o e (λe=>yJ A fr n o e w λa w'=>ur fr n ops l a w' K) (λe=>ur fr n ops l (hf e o.dst .u) w K)
def yK:List Edge->Nat->Bool
 |[],_=>true
 |e::r,a=>(bif yd e then pF a e.on else true)&&yK r a
def rA (a:Nat):Nat->List U9->List Nat
 |_,[]=>[]
 |i,o::l=>bif pF a i then rA a (Nat.succ i) l else bif yK o.after.toList a then i::rA a (Nat.succ i) l else rA a (Nat.succ i) l
def yL (ops:List U9):List Nat->Option Nat
 |[]=>ν
 |i::r=>match oj ops i with
  |some o=>bif iR o then σ i else yL ops r
  |none=>ν
def yM (p:Nat->B):List Nat->B
 |[]=>A.kJ
 |[i]=>p i
 |i::r=>A.and (p i) (yM p r)
def yN (same:Bool) (q:Nat) (w:x3) (st:x3->B) (a:List (x3×List (Nat×(x3->B)))):List (x3×List (Nat×(x3->B))):=
 match same,a with
 |true,g::r=>(g.1,(q,st)::g.2)::r
 |_,a=>(w,[(q,st)])::a
def yO (bs:List Nat) (j:Nat):List (Nat×(x3->B))->Bool
 |[]=>false
 |(i,_)::r=>uk bs j i||yO bs j r
def ut (bs:List Nat) (j:Nat) (w':x3):List (Nat×(x3->B))->B
 |[]=>A.kJ
 |(i,p)::r=>bif uk bs j i then A.and (p w') (ut bs j w' r) else ut bs j w' r
def rB (bs:List Nat) (j:Nat) (w':x3) (C:B):List (x3×List (Nat×(x3->B)))->B
 |[]=>C
 |(w,l)::r=>bif yO bs j l then A.and (A.or (A.ext w w') (ut A bs j w' l)) (rB bs j w' C r) else rB bs j w' C r
def m3 (fr:Bool) (n:Nat) (ops:List U9) (bs:List Nat):Nat->Nat->Bool->List (x3×List (Nat×(x3->B)))->Env->x3->(Env->x3->B)->B
 |0,_,_,_,e,w,K=>K e w
 |fuel+1,f,same,a,e,w,K=>
  match rA f 0 ops with
  |[]=>K e w
  |i::r=>
   match yL ops (i::r) with
   |some q=>
    match oj ops q with
    |some o=>uq A ops o e
      (λe=>yI A o e w λh st=>
       bif lk o then m3 fr n ops bs fuel (j2 f q) same a h w K
       else m3 fr n ops bs fuel (j2 f q) true (yN same q w st a) h w K)
      (λe=>bif lk o then m3 fr n ops bs fuel (j2 f q) same a (hf e o.dst .u) w K
       else m3 fr n ops bs fuel (j2 f q) true (yN same q w (λ_=>A.kJ) a) (hf e o.dst .u) w K)
    |none=>A.no
   |none=>
    yM A (λj=>match oj ops j with
     |some o=>uq A ops o e (λe=>yJ A fr n o e w λh w'=>rB A bs j w' (m3 fr n ops bs fuel (j2 f j) false a h w' K) a)
       (λe=>rB A bs j w (m3 fr n ops bs fuel (j2 f j) false a (hf e o.dst .u) w K) a)
     |none=>A.no) (i::r)
def rC (e:Env):List Nat->List x1
 |[]=>[]
 |t::r=>(match look e t with|some x=>x.g A|none=>A.kI (x:=undef))::rC e r
def uu (l:List Nat) (vs:List x1) (e:Env):Env:=
 match l,vs with
 |t::r,v::vs=>(t,.v v)::uu r vs e
 |_,_=>e
def rD (d:Nat):Env->Env
 |[]=>[]
 |(t,x)::r=>bif pF d t then rD d r else (t,x)::rD d r
def FM (l:List Nat) (aA:List x1->x3->B) (e:(List x1->x3->B)->B):B:=
 match l with
 |[]=>A.dg (λw=>aA [] w) λk=>e λ_ w=>k w
 |[_]=>A.aV (λa w=>aA [a] w) λk=>e λvs w=>match vs with
  |[a]=>k a w
  |_=>A.no
 |[_,_]=>A.gO (λa b w=>aA [a,b] w) λk=>e λvs w=>match vs with
  |[a,b]=>k a b w
  |_=>A.no
 |[_,_,_]=>A.yn (λa b c w=>aA [a,b,c] w) λk=>e λvs w=>match vs with
  |[a,b,c]=>k a b c w
  |_=>A.no
 |[_,_,_,_]=>A.yo (λa b c d w=>aA [a,b,c,d] w) λk=>e λvs w=>match vs with
  |[a,b,c,d]=>k a b c d w
  |_=>A.no
 |[_,_,_,_,_]=>A.yp (λa b c d f w=>aA [a,b,c,d,f] w) λk=>e λvs w=>match vs with
  |[a,b,c,d,f]=>k a b c d f w
  |_=>A.no
 |_=>A.no
def FN (us:List x1) (w:x3) (e:List x1->x3->(List x1->x3->B)->B):B:=
 match us with
 |[]=>A.yq w λw k=>e [] w λ_ w=>k w
 |[a]=>A.yr a w λa w k=>e [a] w λvs w=>match vs with
  |[a]=>k a w
  |_=>A.no
 |[a,b]=>A.ys a b w λa b w k=>e [a,b] w λvs w=>match vs with
  |[a,b]=>k a b w
  |_=>A.no
 |[a,b,c]=>A.yt a b c w λa b c w k=>e [a,b,c] w λvs w=>match vs with
  |[a,b,c]=>k a b c w
  |_=>A.no
 |[a,b,c,d]=>A.yu a b c d w λa b c d w k=>e [a,b,c,d] w λvs w=>match vs with
  |[a,b,c,d]=>k a b c d w
  |_=>A.no
 |[a,b,c,d,f]=>A.yv a b c d f w λa b c d f w k=>e [a,b,c,d,f] w λvs w=>match vs with
  |[a,b,c,d,f]=>k a b c d f w
  |_=>A.no
 |[a,b,c,d,f,g]=>A.yw a b c d f g w λa b c d f g w k=>e [a,b,c,d,f,g] w λvs w=>match vs with
  |[a,b,c,d,f,g]=>k a b c d f g w
  |_=>A.no
 |_=>A.no
def uv (K:Nat->x3->B):List Nat->List (Nat×(x3->B))
 |[]=>[]
 |i::r=>(i,λw=>K i w)::uv K r
def hF (fr:Bool) (n:Nat):Code->Nat->Env->x3->(Exit->Env->x3->B)->B
 | .skip,_,e,w,K=>K .normal e w
 | .label _,_,e,w,K=>K .normal e w
 | .ret,_,e,w,K=>K .ret e w
 | .exit i,_,e,w,K=>K (.exit i) e w
 | .region _ ops z,_,e,w,K=>
  bif z then A.drew w λw'=>m3 A fr n ops.toList (uj ops.toList []) (ops.toList.length) 0 false [] e w' (K .normal)
  else ur A fr n ops.toList ops.toList e w (K .normal)
 | .seq x y,rd,e,w,K=>
  bif Nat.ble 2 (lu x) then
   FM A (l8 1000 0 (Nat.land (hZ x) (Nat.lor (fZ y) rd))) (λvs w'=>hF fr n y rd (uu (l8 1000 0 (Nat.land (hZ x) (Nat.lor (fZ y) rd))) vs (rD (hZ x) e)) w' K)
    λaA=>hF fr n x (Nat.lor (fZ y) rd) e w λex h w'=>match ex with
     | .normal=>aA (rC A h (l8 1000 0 (Nat.land (hZ x) (Nat.lor (fZ y) rd)))) w'
     |ex=>K ex h w'
  else hF fr n x (Nat.lor (fZ y) rd) e w λex h w'=>match ex with
   | .normal=>hF fr n y rd h w' K
   |ex=>K ex h w'
 | .cond c x y,rd,e,w,K=>
  match mY A e c with
  | .b true=>hF fr n x rd e w K
  | .b false=>hF fr n y rd e w K
  | .v v=>A.split v (hF fr n x rd e w K) (hF fr n y rd e w K)
  | .u=>A.no
 | .block id c,rd,e,w,K=>hF fr n c rd e w λex h w'=>match ex with
  | .exit i=>bif T5 i id then K .normal h w' else K (.exit i) h w'
  |ex=>K ex h w'
 | .loop c,rd,e,w,K=>
  FN A (rC A e (pG e (l8 1000 0 (Nat.land (hZ c) (Nat.lor (fZ c) rd))))) w λus w' k=>
   hF fr n c (Nat.lor (fZ c) rd) (uu (pG e (l8 1000 0 (Nat.land (hZ c) (Nat.lor (fZ c) rd)))) us (rD (hZ c) e)) w' λex h j=>match ex with
    | .normal=>k (rC A h (pG e (l8 1000 0 (Nat.land (hZ c) (Nat.lor (fZ c) rd))))) j
    |ex=>K ex h j
 | .scope c,rd,e,w,K=>hF fr n c rd e w K
 | .rangeFunc f C s body,_,e,w,K=>
  match C.toList with
  |[p]=>A.yx (cY A e f) w
    (λa w' k=>hF fr n s (fZ body) ((p,.v a)::e) w' λex h j=>match ex with
     | .normal=>A.over (n:=w.heap.size) j λm=>hF fr n body 0 h m λex _ r=>k ex r
     |_=>A.no)
    (λw'=>K .normal e w') (bif iU body then λw'=>K .ret e w' else λ_=>A.no) (uv (λi w'=>K (.exit i) e w') (jq body))
  |[p,q]=>A.yy (cY A e f) w
    (λa b w' k=>hF fr n s (fZ body) ((q,.v b)::(p,.v a)::e) w' λex h j=>match ex with
     | .normal=>A.over (n:=w.heap.size) j λm=>hF fr n body 0 h m λex _ r=>k ex r
     |_=>A.no)
    (λw'=>K .normal e w') (bif iU body then λw'=>K .ret e w' else λ_=>A.no) (uv (λi w'=>K (.exit i) e w') (jq body))
  |_=>A.no
 | .goto _,_,_,_,_=>A.no
 | .refuse _,_,_,_,_=>A.no
def yP:Nat->List x1->Env
 |_,[]=>[]
 |i,v::r=>(i,.v (A.kI (x:=v)))::yP (i+1) r
def rE (e:Env) (w:x3):List ResultVar->(List x1->B)->B
 |[],K=>K []
 | .tmp t::r,K=>rE e w r λvs=>K ((match look e t with|some x=>x.g A|none=>A.kI (x:=undef))::vs)
 | .cell a t::r,K=>A.ul (A.loadVar (t:=t) (match look e a with|some x=>x.g A|none=>A.kI (x:=undef))) w λv=>rE e w r λvs=>K (v::vs)
def rF (vs:List x1) (K:x1->B):B:=
 match vs with
 |[v]=>K v
 |vs=>K (A.tup vs)
def uw:List ResultVar->Nat->Nat
 |[],s=>s
 | .tmp t::r,s=>uw r (j2 s t)
 | .cell a _::r,s=>uw r (j2 s a)
def FO (a:List ResultVar) (marks:Bool) (n:Nat) (Q:x1->x3->B):Exit->Env->x3->B
 | .normal,e,w=>rE A e w a λvs=>bif marks then A.again (n:=n) w λw'=>rF A vs λv=>Q v w' else rF A vs λv=>Q v w
 | .ret,e,w=>rE A e w a λvs=>bif marks then A.again (n:=n) w λw'=>rF A vs λv=>Q v w' else rF A vs λv=>Q v w
 |_,_,_=>A.no
def ux (fr marks:Bool) (fn:Func) (c:Code) (args:List x1) (w:x3) (Q:x1->x3->B):B:=
 hF A fr n c (uw fn.results.toList 0) (yP A 0 args) w (FO A fn.results.toList marks n Q)
end
def ol (P:W5):ma Prop (Sem x1) (Sem Unit) where
 kI {x}:=x
 tup l:=.tuple l.toArray
 no:=False
 kJ:=True
 and:=And
 or:=Or
 ext:=Ext
 stays:=cD P
 split:=Split
 ul:=ac P
 yi:=aD P
 yj u w K:=aD P u w λ_ w'=>K w'
 runN {fr n}:=q9 P (fr,n)
 yk {f}:=am P f
 yl {f}:=gx P f
 ym {fr}:=re P fr
 drew:=er
 again {n}:=ub n
 over {n}:=Over n
 dg:=cv
 aV:=cv
 gO:=cv
 yn:=cv
 yo:=cv
 yp:=cv
 yq:=Fs
 yr:=cz
 ys:=bZ
 yt:=jZ
 yu:=rm
 yv:=pz
 yw:=Ft
 yx:=kF P
 yy:=og P
 loadVar {t} x:=do loadVar t (<-asAddr x)
 alloc {t}:=S7 t true (.tuple #[])
 box {t} x:=Instr.box t x
 build {t} l:=Instr.build t l.toArray
 buildSlice {t n} l:=Y4 t n l.toArray
 load {t} x:=u4 t x
 nil x:=bM x
 bin {op t} a b x y:=aL op t a b x y
 un {op} x:=Op.unary op x
 conv {s d} x:=convert s d x
 yz {t} x:=Instr.makeInterface t x
 yA {f} a b:=Instr.makeFunc f a.toArray b.toArray
 yB {t} x:=Instr.makeMap t x
 yC {t} l c:=Instr.makeSlice t l c
 slice {t} x l h m:=V4 t x l h m
 yD {t} x {f}:=u5 t x f
 field {t} x {f}:=Instr.field t x f
 yE {t} x i:=j4 t x i
 index {t} x i:=Instr.index t x i
 lookup {t} x i {ok}:=Instr.lookup t x i ok
 yF {t} m k:=Instr.mapEntry t m k
 range {t} x:=Instr.range t x
 entry x:=Instr.entry x
 assert {t a} x {ok}:=Instr.typeAssert x t a ok
 extract x {i}:=Z7 x i
 next x {b}:=Instr.next x b 0
 append {ats t} l:=b9 ats t l.toArray
 cap {ats t} l:=Z2.cap_ ats t l.toArray
 clear {ats t} l:=Z2.clear_ ats t l.toArray
 copy {ats t} l:=Z2.copy_ ats t l.toArray
 delete {ats t} l:=Z2.delete_ ats t l.toArray
 len {ats t} l:=W8 ats t l.toArray
 max {ats t} l:=Z2.max_ ats t l.toArray
 min {ats t} l:=Z2.min_ ats t l.toArray
 store {t} a x:=o6 t a x
 um {t} m k x:=Instr.mapUpdate t m k x
 yG {t} m k x:=Instr.entryStore t m k x
end Go.Vc
namespace Go.Proofs.YtmgflbkdggdhoaaGreatDoor
open Go Go.Vc Go.RowKit Go.Proofs Go.Proofs.Tryz
set_option maxRecDepth 100000
theorem mixed:x7.follows .mixedOrders=true:=Ψ
def yQ:Nat:=3
def yR:Nat:=4
def yS:Nat:=7
def yT:Nat:=8
def uy:Nat:=9
def FP:Nat:=10
def FQ:Nat:=11
def yU:Nat:=12
def FR:Nat:=13
def FS:Nat:=14
def yV:Nat:=15
def yW:Nat:=16
def FT:Nat:=17
def FU:Nat:=18
def FV:Nat:=19
def FW:Nat:=21
def FX:Nat:=22
def FY:Nat:=25
def FZ:Nat:=26
def F0:Nat:=27
def F3:Nat:=28
def yX:Nat:=29
def F4:Nat:=30
def F5:Nat:=31
def F6:Nat:=32
def QK:Nat:=33
def uz:Nat:=34
def F7:Nat:=35
def F8:Nat:=36
def F9:Nat:=37
def Ga:Nat:=38
def Gb:Nat:=39
def Gc:Nat:=40
def Gd:Nat:=41
def pH:Nat:=42
def Ge:Nat:=43
def Gf:Nat:=44
def QL:Nat:=45
def yY:Nat:=46
def yZ:Nat:=47
def y0:Nat:=48
def Gg:Nat:=49
def Gh:Nat:=50
def Gi:Nat:=51
def Gj:Nat:=52
def Gk:Nat:=53
def Gl:Nat:=54
def Gm:Nat:=55
def QM:Nat:=56
def Gn:Nat:=57
def uA:Nat:=58
def Gp:Nat:=59
def Gq:Nat:=60
def Gr:Nat:=61
def Gs:Nat:=62
def Gt:Nat:=63
def Gu:Nat:=64
def Gv:Nat:=65
def y1:Nat:=66
def y2:Nat:=67
def y3:Nat:=69
def Gw:Nat:=70
def y4:Nat:=71
def Gx:Nat:=72
def y5:Nat:=73
def y6:Nat:=74
def pI:Nat:=75
def m4:Nat:=76
def kK:Nat:=77
def y7:Nat:=78
def uB:Nat:=79
def m7:Nat:=80
def y8:Nat:=81
def uC:Nat:=82
def Gy:Nat:=83
def Gz:Nat:=84
def rG:Nat:=85
def lx:Nat:=86
def y9:Nat:=87
def m8:Nat:=88
def GA:Nat:=89
def GB:Nat:=90
def GC:Nat:=91
def GD:Nat:=92
def GF:Nat:=93
def GG:Nat:=94
def GH:Nat:=95
def za:Nat:=96
def zb:Nat:=97
def GI:Nat:=98
def GJ:Nat:=99
def GK:Nat:=100
def GL:Nat:=101
def uD:Nat:=102
def GM:Nat:=103
def GN:Nat:=104
def GO:Nat:=105
def GP:Nat:=106
def GQ:Nat:=107
def GR:Nat:=108
def GS:Nat:=109
def GU:Nat:=110
def GV:Nat:=111
def m9:Nat:=112
def na:Nat:=113
def GW:Nat:=114
def GX:Nat:=115
def GY:Nat:=116
def GZ:Nat:=117
def G0:Nat:=118
def G1:Nat:=119
def G2:Nat:=120
def G3:Nat:=121
def G4:Nat:=122
def G5:Nat:=123
def G6:Nat:=124
def G7:Nat:=125
def rH:Nat:=126
def G8:Nat:=127
def G9:Nat:=128
def Ha:Nat:=129
def Hb:Nat:=130
def Hc:Nat:=131
def Hd:Nat:=132
def He:Nat:=133
def Hf:Nat:=134
def Hg:Nat:=135
def Hh:Nat:=136
def Hi:Nat:=137
def zc:Nat:=138
def Hj:Nat:=139
def Hk:Nat:=140
def Hl:Nat:=141
def Hm:Nat:=142
def Hn:Nat:=143
def om:Nat:=144
def Ho:Nat:=145
def Hp:Nat:=146
def rI:Nat:=147
def Hq:Nat:=148
def Hr:Nat:=149
def zd:Nat:=150
def ze:Nat:=151
def Hs:Nat:=152
def pJ:Nat:=153
def Ht:Nat:=154
def uE:Nat:=155
def Hu:Nat:=156
def Hv:Nat:=157
def zf:Nat:=158
def Hw:Nat:=159
def Hx:Nat:=160
def Hy:Nat:=161
def Hz:Nat:=162
def HA:Nat:=163
def HB:Nat:=164
def HC:Nat:=165
def zg:Nat:=166
def HD:Nat:=167
def HE:Nat:=168
def HF:Nat:=169
def HG:Nat:=170
def zh:Nat:=171
def HH:Nat:=172
def HI:Nat:=173
def HJ:Nat:=174
def HK:Nat:=175
def zi:Nat:=176
def HL:Nat:=177
def HM:Nat:=178
def HN:Nat:=179
def jr:Nat:=180
def HO:Nat:=181
def HP:Nat:=182
def HQ:Nat:=183
def HR:Nat:=184
def HS:Nat:=185
def HT:Nat:=186
def HU:Nat:=187
def zj:Nat:=188
def uF:Nat:=189
def rJ:Nat:=190
def uG:Nat:=191
def HV:Nat:=192
def uH:Nat:=193
def HW:Nat:=194
def HX:Nat:=195
def uI:Nat:=196
def HY:Nat:=197
def HZ:Nat:=198
def zk:Nat:=199
def zl:Nat:=200
def H0:Nat:=201
def H1:Nat:=202
def H2:Nat:=203
def H3:Nat:=204
def H4:Nat:=205
def H5:Nat:=206
def H6:Nat:=207
def H7:Nat:=208
def QN:Nat:=209
def H8:Nat:=211
def cmp_isNaN_int:Nat:=212
def zm:Nat:=213
def uJ:Nat:=214
def rK:Nat:=215
def H9:Nat:=216
def Ia:Nat:=217
def Ib:Nat:=218
def zn:Nat:=219
def Ic:Nat:=220
def Ie:Nat:=221
def If:Nat:=222
def Ig:Nat:=223
def Ih:Nat:=224
def Ii:Nat:=225
def Ij:Nat:=226
def ly:Nat:=227
def lz:Nat:=228
def zo:Nat:=229
def Ik:Nat:=230
def Il:Nat:=231
def QO:Nat:=232
def Im:Nat:=233
def QP:Nat:=234
def In:Nat:=235
def Io:Nat:=236
def Ip:Nat:=237
def oo:Nat:=238
def Iq:Nat:=239
def Ir:Nat:=240
def Is:Nat:=241
def lA:Nat:=242
def It:Nat:=243
def Iu:Nat:=253
def Iv:Nat:=254
def rL:Nat:=255
def Iw:Nat:=256
def Ix:Nat:=257
def Iy:Nat:=258
def Iz:Nat:=259
def lB:Nat:=260
def IA:Nat:=261
def IB:Nat:=262
def IC:Nat:=263
def ID:Nat:=264
def QQ:Nat:=265
def IE:Nat:=266
def QR:Nat:=273
def IF:Nat:=274
def IG:Nat:=275
def IH:Nat:=277
def II:Nat:=278
def IJ:Nat:=279
def QS:Nat:=280
def IK:Nat:=281
def QT:Nat:=282
def QU:Nat:=283
def QV:Nat:=284
def QW:Nat:=285
def QX:Nat:=286
def cmp_Less_int:Nat:=287
def QY:Nat:=288
def QZ:Nat:=289
def Q0:Nat:=299
def Q1:Nat:=300
abbrev IL:Nat:=0
abbrev zp:Nat:=1
abbrev ap:Nat:=2
abbrev ai:Nat:=3
abbrev fa:Nat:=4
abbrev cJ:Nat:=5
abbrev cZ:Nat:=9
abbrev cN:Nat:=22
abbrev nb:Nat:=23
abbrev dz:Nat:=25
abbrev an:Nat:=26
abbrev c5:Nat:=27
abbrev j3:Nat:=28
abbrev dV:Nat:=29
abbrev eN:Nat:=30
abbrev a8:Nat:=33
abbrev c0:Nat:=37
abbrev ax:Nat:=40
abbrev aY:Nat:=42
abbrev dm:Nat:=44
abbrev js:Nat:=45
abbrev uK:Nat:=67
abbrev uL:Nat:=70
abbrev mb:Nat:=73
abbrev cU:Nat:=78
abbrev dA:Nat:=80
abbrev fu:Nat:=82
abbrev oq:Nat:=84
abbrev ot:Nat:=100
abbrev IM:Nat:=103
abbrev b4:Nat:=106
abbrev pK:Nat:=109
abbrev fv:Nat:=110
abbrev cI:Nat:=113
abbrev bA:Nat:=119
abbrev fb:Nat:=121
abbrev rM:Nat:=123
abbrev eX:Nat:=126
abbrev hg:Nat:=127
abbrev cc:Nat:=129
abbrev iW:Nat:=134
abbrev ir:Nat:=135
abbrev b0:Nat:=137
abbrev dE:Nat:=143
abbrev cE:Nat:=145
abbrev eO:Nat:=146
abbrev cF:Nat:=148
abbrev fc:Nat:=150
abbrev dw:Nat:=154
abbrev bx:Nat:=156
abbrev dB:Nat:=158
abbrev cn:Nat:=160
abbrev dW:Nat:=164
abbrev ba:Nat:=166
abbrev kL:Nat:=171
abbrev fw:Nat:=173
abbrev eP:Nat:=174
abbrev hh:Nat:=179
abbrev pL:Nat:=198
abbrev h0:Nat:=210
abbrev nc:Nat:=211
abbrev rN:Nat:=212
abbrev fx:Nat:=214
abbrev gb:Nat:=216
abbrev eH:Nat:=218
abbrev kM:Nat:=220
abbrev hG:Nat:=222
abbrev jt:Nat:=228
abbrev dX:Nat:=233
abbrev b5:Nat:=238
abbrev gd:Nat:=240
abbrev cV:Nat:=245
abbrev iu:Nat:=257
abbrev fy:Nat:=259
abbrev ou:Nat:=260
abbrev gf:Nat:=263
abbrev cW:Nat:=266
abbrev ov:Nat:=282
abbrev gP:Nat:=284
abbrev fL:Nat:=287
abbrev cG:Nat:=289
abbrev zq:Nat:=299
abbrev kN:Nat:=315
abbrev iX:Nat:=317
abbrev Q2:Nat:=333
abbrev ow:Nat:=340
abbrev lC:Nat:=341
abbrev rO:Nat:=348
abbrev mc:Nat:=365
abbrev rP:Nat:=384
abbrev uM:Nat:=410
theorem az {f:R3} {fn:Func} {c:Code} {Q:x1->x3->Prop} {Z:{B S aX:Type}->ma B S aX->(x1->x3->B)->B} {a:Prop} (af:x7.funcs[f]? =σ fn) (h:a)
  (j:fn.body=σ c:=by rfl) (_:∀ {B S aX:Type} (A:ma B S aX) (Q:x1->x3->B),ux A false false (n:=w.heap.size) fn c args w Q=Z A Q:=by intros;conv=>lhs;reduce)
  (_:Z (ol x7) Q=a:=by dsimp only[ol]) (e:a=ev x7 fn.ntmps (false,w.heap.size) c (l7 fn.results.toList) (kH 0 args) w (lr x7 fn.results.toList false 0 Q):=by kernel_rfl)
  (hk:(!(fn.name == "runtime.NumGoroutine")&&wf fn.ntmps c&&Nat.ble args.length fn.ntmps&& !jY c)=true:=by kernel_rfl):am x7 f args w Q:=by
 simp only[V1,Bool.not_eq_true'] at hk;exact am.FI mixed af j hk.1.1.1 hk.1.1.2 hk.1.2 hk.2 (e▸h)
theorem h2 {f:R3} {fn:Func} {c:Code} {Q:x1->x3->Prop} {Z:{B S aX:Type}->ma B S aX->(x1->x3->B)->B} {a:Prop} (af:x7.funcs[f]? =σ fn) (h:a)
  (j:fn.body=σ c:=by rfl) (_:∀ {B S aX:Type} (A:ma B S aX) (Q:x1->x3->B),ux A false true (n:=w.heap.size) fn c args w Q=Z A Q:=by intros;conv=>lhs;reduce)
  (_:Z (ol x7) Q=a:=by dsimp only[ol]) (e:a=ev x7 fn.ntmps (false,w.heap.size) c (l7 fn.results.toList) (kH 0 args) w (lr x7 fn.results.toList true w.heap.size Q):=by kernel_rfl)
  (hk:(!(fn.name == "runtime.NumGoroutine")&&wf fn.ntmps c&&Nat.ble args.length fn.ntmps)=true:=by kernel_rfl):am x7 f args w Q:=by
 simp only[V1,Bool.not_eq_true'] at hk;exact am.enter mixed af j hk.1.1 hk.1.2 hk.2 (e▸h)
theorem pM {f:R3} {fn:Func} {c:Code} {Q:x1->x3->Prop} {Z:{B S aX:Type}->ma B S aX->(x1->x3->B)->B} {a:Prop} (af:x7.funcs[f]? =σ fn) (h:a)
  (j:fn.body=σ c:=by rfl) (_:∀ {B S aX:Type} (A:ma B S aX) (Q:x1->x3->B),ux A true false (n:=0) fn c args w Q=Z A Q:=by intros;conv=>lhs;reduce)
  (_:Z (ol x7) Q=a:=by dsimp only[ol]) (e:a=ev x7 fn.ntmps (true,0) c (l7 fn.results.toList) (kH 0 args) w (lr x7 fn.results.toList false 0 Q):=by kernel_rfl)
  (hk:(!(fn.name == "runtime.NumGoroutine")&&wf fn.ntmps c&&Nat.ble args.length fn.ntmps)=true:=by kernel_rfl):gx x7 f args w Q:=by
 simp only[V1,Bool.not_eq_true'] at hk;exact gx.enter mixed af j hk.1.1 hk.1.2 hk.2 (e▸h)
theorem jr.enters:Enters x7 jr:=Enters.of x7 (show x7.funcs[jr]? =σ Tryz.f180 from Tryz.func180) rfl Ψ
theorem ly.enters:Enters x7 ly:=Enters.of x7 (show x7.funcs[ly]? =σ Tryz.f227 from Tryz.func227) rfl Ψ
theorem oo.enters:Enters x7 oo:=Enters.of x7 (show x7.funcs[oo]? =σ Tryz.f238 from Tryz.func238) rfl Ψ
theorem lA.enters:Enters x7 lA:=Enters.of x7 (show x7.funcs[lA]? =σ Tryz.f242 from Tryz.func242) rfl Ψ
theorem lB.enters:Enters x7 lB:=Enters.of x7 (show x7.funcs[lB]? =σ Tryz.f260 from Tryz.func260) rfl Ψ
end Go.Proofs.YtmgflbkdggdhoaaGreatDoor
namespace Go.Vc
open Go Go.RowKit
theorem uN {b o:Nat} (h:w.cell? ⟨b,o,ν⟩=σ v):∃c e f,w.heap[b]? =σ (.cells c e f)/\c[o]? =σ v:=by
 simp only[x3.cell?] at h;split at h
 .rename_i c e f a;exact⟨c,e,f,a,by simpa using h⟩
 .cases h
theorem zr (J:ah S w w') {b o:Nat} (a:¬S b) (h:w.cell? ⟨b,o,ν⟩=σ v):w'.cell? ⟨b,o,ν⟩=σ v:=by
 obtain⟨c,e,f,j,ad⟩:=uN h;simp[x3.cell?,J.aZ b _ j rfl a,ad]
theorem iv (J:Ext w w') {b o:Nat} (h:w.cell? ⟨b,o,ν⟩=σ v):w'.cell? ⟨b,o,ν⟩=σ v:=
 zr (J.ab λ_=>False) (λh=>h) h
theorem ne (J:Ext w w') {b o:Nat} (h:w.rangeAt b o cs):w'.rangeAt b o cs:=λj v ad=>iv J (h j v ad)
theorem j7 (J:ah S w w') {b o:Nat} (a:¬S b) (h:w.rangeAt b o cs):w'.rangeAt b o cs:=λj v ad=>zr J a (h j v ad)
def ag (w:x3) (g:Nat) (e:r9) (cs:List x1):Prop:=w.heap[g]? =σ (.cells cs.toArray e (0,0))
theorem ag.ext {g:Nat} (h:ag w g e cs) (J:Ext w w'):ag w' g e cs:=J.aZ g _ h rfl
theorem ag.ab {g:Nat} (h:ag w g e cs) (J:ah S w w') (a:¬S g):ag w' g e cs:=J.aZ g _ h rfl a
theorem ag.lt {g:Nat} (h:ag w g e cs):g<w.heap.size:=(n9.1 h).1
theorem ag.cell {g:Nat} (h:ag w g e cs) {o:Nat} (ad:cs[o]? =σ v):w.cell? ⟨g,o,ν⟩=σ v:=by
 unfold ag at h;simp[x3.cell?,h,ad]
theorem ag.Qz{w:World}{g:Nat}{e:TypeId}{cs:List Value}{v:Value}(h:ag w g e cs)(I:cs[0]? =σ v):w.cell? ⟨g,0,ν⟩=σ v:=h.cell I
theorem ag.range {g:Nat} (h:ag w g e cs):w.rangeAt g 0 cs:=λj v ad=>by rw[X0];exact h.cell ad
theorem ag.frozen {g:Nat} (h:ag w g e cs) (o:Nat) (a:Option Nat):w.frozen? ⟨g,o,a⟩=false:=by
 unfold ag at h;simp[x3.frozen?,h]
def cd (w:x3) (k:Nat) (v:x1) (n:Nat) (cs:List x1):Prop:=
 cs.length=n*k/\ ∃b o base cap,v= .slice base n cap/\n<=cap/\cap<=maxLen/\(0<n->base=σ ⟨b,o,ν⟩)/\w.rangeAt b o cs
theorem cd.ext {k:Nat} (h:cd w k v n cs) (J:Ext w w'):cd w' k v n cs:=by
 obtain⟨h1,b,o,base,cap,a,e,f,j,m⟩:=h;exact⟨h1,b,o,base,cap,a,e,f,j,ne J m⟩
theorem cd.le {k:Nat} (h:cd w k v n cs):n<=maxLen:=by
 obtain⟨_,_,_,_,_,_,a,e,_⟩:=h;exact Y9 a e
theorem cd.nil (w:x3) (k:Nat):cd w k (.slice ν 0 0) 0 []:=⟨Ξ,0,0,ν,0,rfl,p8 _,X3 _,λh=>absurd h (Nat.lt_irrefl _),λj v h=>by simp at h⟩
def aT (P:W5) (t:r9) (k b:Nat) (z:x1):Prop:=∃i,P.info? t=σ i/\i.size=k/\i.bytes=b/\i.zero=σ z
theorem aT.of {P:W5} {k b:Nat} (h:(P.info? t).map (λi=>(i.size,i.bytes,i.zero))=σ (k,b,σ z)):aT P t k b z:=by
 cases hi:P.info? t with
 |none=>simp[hi] at h
 |some i=>simp[hi] at h;exact⟨i,hi,h⟩
theorem aT.size {P:W5} {k b:Nat} (h:aT P t k b z):(P.info? t).map (·.size)=σ k:=by
 obtain⟨i,hi,U,_⟩:=h;simp[hi,U]
def bN (P:W5) (t:r9) (pl:List (Nat×Nat)):Prop:=∃a,P.underlying t=σ (.struct a)/\a.toList.map (λf=>(f.offset,((P.info? f.type).map (·.size)).getD 0))=pl
def zs (P:W5) (t:r9):Option (List (Nat×Nat)):=match P.underlying t with
 |some (.struct a)=>σ (a.toList.map λf=>(f.offset,((P.info? f.type).map (·.size)).getD 0))
 |_=>ν
theorem bN.of {P:W5} {pl:List (Nat×Nat)} (h:zs P t=σ pl):bN P t pl:=by
 unfold zs at h;split at h
 .rename_i a hu;exact⟨a,hu,by simpa using h⟩
 .cases h
section
variable {P:W5} {w:x3}
theorem ac.of {s:Sem x1} (h:∀w',Ext w w'->s.run P w'= .ok v w'):ac P s w K=K v:=by
 refine propext ⟨λ⟨a,h',k⟩=>?_,λk=>⟨v,h,k⟩⟩;have:=h' w (Ext.refl w);rw[h w (Ext.refl w)] at this;cases this;exact k
theorem aD.of {α:Type} {s:Sem α} {v:α} {K:α->x3->Prop} (h:s.run P w= .ok v w') (a:cM w w') (k:K v w'):aD P s w K:=⟨v,w',h,a,k⟩
theorem ce {c:Bool} {A B:Prop}:Split (.bool c) A B=((c=true->A)/\(c=false->B)):=by
 refine propext ⟨λ⟨e,h,h1,a⟩=>?_,λ⟨h1,a⟩=>⟨c,rfl,h1,a⟩⟩;cases h;exact⟨h1,a⟩
theorem al {p:Prop} [Decidable p] {A B:Prop}:Split (.bool (decide p)) A B=((p->A)/\(¬p->B)):=by rw[ce];simp
theorem bQ {A B:Prop}:Split (.bool true) A B=A:=by rw[ce];simp
theorem a1 {A B:Prop}:Split (.bool false) A B=B:=by rw[ce];simp
theorem aP {b:Int}:ac P (aL .add t cx cy (.int k a) (.int k b)) w K=K (.int k (k.wrap (a+b))):=
 ac.of λw' _=>by simp[aL,eqGuard,binOp,Op.intArith]
theorem dF {b:Int}:ac P (aL .sub t cx cy (.int k a) (.int k b)) w K=K (.int k (k.wrap (a-b))):=
 ac.of λw' _=>by simp[aL,eqGuard,binOp,Op.intArith]
theorem hI {b:Int}:ac P (aL .mul t cx cy (.int k a) (.int k b)) w K=K (.int k (k.wrap (a*b))):=
 ac.of λw' _=>by simp[aL,eqGuard,binOp,Op.intArith]
theorem rQ {b:Int} (e:b≠0):ac P (aL .quo t cx cy (.int k a) (.int k b)) w K=K (.int k (k.wrap (a.tdiv b))):=
 ac.of λw' _=>by simp[aL,eqGuard,binOp,Op.intDiv,e]
theorem rR {b:Int} (e:b≠0):ac P (aL .rem t cx cy (.int k a) (.int k b)) w K=K (.int k (a.tmod b)):=
 ac.of λw' _=>by simp[aL,eqGuard,binOp,Op.intDiv,e]
theorem aO {b:Int}:ac P (aL .lss t cx cy (.int k a) (.int k b)) w K=K (.bool (decide (a<b))):=
 ac.of λw' _=>by simp[aL,eqGuard,binOp,Op.intCmp]
theorem Υ{k:IntKind}{P:Program}{t:TypeId}{cx cy:Bool}{a b:Int}{w:World}{A B:Prop}(hA:a<b->A)(h:a<b:=by omega):ac P (aL .lss t cx cy (.int k a) (.int k b)) w λv=>Split v A B:=by
 rw[aO,al];exact ⟨hA,λe=>absurd h e⟩
theorem md {b:Int}:ac P (aL .leq t cx cy (.int k a) (.int k b)) w K=K (.bool (decide (a<=b))):=
 ac.of λw' _=>by simp[aL,eqGuard,binOp,Op.intCmp]
theorem bU {b:Int}:ac P (aL .gtr t cx cy (.int k a) (.int k b)) w K=K (.bool (decide (b<a))):=
 ac.of λw' _=>by simp[aL,eqGuard,binOp,Op.intCmp]
theorem cP {b:Int}:ac P (aL .geq t cx cy (.int k a) (.int k b)) w K=K (.bool (decide (b<=a))):=
 ac.of λw' _=>by simp[aL,eqGuard,binOp,Op.intCmp]
theorem bg {b:Int}:ac P (aL .eql t cx cy (.int k a) (.int k b)) w K=K (.bool (decide (a=b))):=
 ac.of λw' _=>by
  have:(a == b)=decide (a=b):=by by_cases h:a=b<;>simp[h]
  simp[aL,eqGuard,binOp,Op.intCmp,this]
theorem bm {b:Int}:ac P (aL .neq t cx cy (.int k a) (.int k b)) w K=K (.bool (decide (a≠b))):=
 ac.of λw' _=>by
  have:(a != b)=decide (a≠b):=by by_cases h:a=b<;>simp[h,bne]
  simp[aL,eqGuard,binOp,Op.intCmp,this]
theorem zt {e:o5} {b:Int} (f:0<=b):ac P (aL .shl t cx cy (.int k a) (.int e b)) w K=K (.int k (k.wrap (a*2 ^ min b.toNat k.bits))):=
 ac.of λw' _=>by simp[aL,eqGuard,binOp,Op.shift,show ¬b<0 by omega]
theorem bG {c:Bool}:ac P (Op.unary .not (.bool c)) w K=K (.bool !c):=ac.of λw' _=>by simp[Op.unary]
theorem lD:ac P (Op.unary .neg (.int k a)) w K=K (.int k (k.wrap (0-a))):=ac.of λw' _=>by simp[Op.unary,Op.intArith]
theorem fd {s d:r9} {e:o5} (U:P.underlying s=σ (.int e)) (f:P.underlying d=σ (.int k)):
  ac P (convert s d (.int e a)) w K=K (.int k (k.wrap a)):=ac.of λw' _=>by simp[convert,run_underlying U,run_underlying f,Conv.intToInt]
theorem uO {x y:x1} {r:Bool} (a:∀w',(eqGuard .eql t (a6 cx) (a6 cy) x y).run P w'= .ok () w')
  (e:binOp .eql t x y=(do pure (.bool (<-Op.equal t x y)))) (h:∀w',Ext w w'->(Op.equal t x y).run P w'= .ok r w'):ac P (aL .eql t cx cy x y) w K=K (.bool r):=ac.of λw' J=>by
 unfold aL;rw[e,W0,a w',Result.andThen_ok,W0,h w' J];rfl
theorem IN {x y:x1} {r:Bool} (a:∀w',(eqGuard .neq t (a6 cx) (a6 cy) x y).run P w'= .ok () w')
  (e:binOp .neq t x y=(do pure (.bool (!(<-Op.equal t x y))))) (h:∀w',Ext w w'->(Op.equal t x y).run P w'= .ok r w'):ac P (aL .neq t cx cy x y) w K=K (.bool !r):=ac.of λw' J=>by
 unfold aL;rw[e,W0,a w',Result.andThen_ok,W0,h w' J];rfl
theorem zu (w:x3) (d:Nat) {p:Option Addr} (h:P.underlying t=σ (.pointer e)):(Op.equalIn (d+1) t (.pointer p) (.pointer ν)).run P w= .ok p.isNone w:=by
 cases p<;>simp[Op.equalIn,run_underlying h]
theorem ox {base:Option Addr} {c:Nat} (a:P.underlying t=σ (.slice e)):
  ac P (aL .eql t cx cy (.slice base n c) (.slice ν 0 0)) w K=K (.bool base.isNone):=uO (λ_=>rfl) rfl λw' _=>run_equal_slice_nil w' t e base n c a
theorem db {p:Option Addr} (a:P.underlying t=σ (.pointer e)):
  ac P (aL .eql t cx cy (.pointer p) (.pointer ν)) w K=K (.bool p.isNone):=uO (λ_=>rfl) rfl λw' _=>zu w' 9999 a
theorem zv {p:Option Addr} (a:P.underlying t=σ (.pointer e)):
  ac P (aL .neq t cx cy (.pointer p) (.pointer ν)) w K=K (.bool !p.isNone):=IN (λ_=>rfl) rfl λw' _=>zu w' 9999 a
theorem hJ {a:r9} {base:Option Addr} {c:Nat} (f:P.underlying t=σ (.slice e)):
  ac P (W8 #[t] a #[.slice base n c]) w K=K (Δ n):=ac.of λw' _=>by simp[W8,run_underlying f,goInt]
theorem lE {e:Array r9} {f:r9} {b:Int}:
  ac P (Z2.min_ e f #[.int k a,.int k b]) w K=K (.int k (min a b)):=ac.of λw' _=>by
 simp only[Z2.min_,List.foldlM,Z2.min2];simp only[W0,V0,Result.andThen_ok,Int.min_def];congr 2;split<;>split<;>omega
theorem uP {e:Array r9} {f:r9} {b:Int}:
  ac P (Z2.max_ e f #[.int k a,.int k b]) w K=K (.int k (max a b)):=ac.of λw' _=>by
 simp only[Z2.max_,List.foldlM,Z2.max2];simp only[W0,V0,Result.andThen_ok,Int.max_def];congr 2;split<;>split<;>omega
theorem iw {vs:Array x1} {i:Nat} (h:vs[i]? =σ v):ac P (Z7 (.tuple vs) i) w K=K v:=ac.of λw' _=>by simp[Z7,h]
theorem ix {f:Fn} {a b:Array x1}:ac P (Instr.makeFunc f a b) w K=K (.func f a b):=ac.of λ_ _=>rfl
def ju (P:W5) (t:r9):Bool:=match P.underlying t with
 |some (.struct _)|some (.array _ _)|none=>false
 |_=>true
theorem ay {b o:Nat} (a:ju P t=true) (h:w.cell? ⟨b,o,ν⟩=σ v):
  ac P (u4 t (.pointer (σ ⟨b,o,ν⟩))) w K=K v:=ac.of λw' J=>by
 have h':=iv J h;unfold ju at a;cases hu:P.underlying t with
 |none=>rw[hu] at a;cases a
 |some d=>
  rw[hu] at a;cases d<;>first|(cases a;done)|simp[u4,Instr.sureAddr,loadVar,isAgg,run_underlying hu,h']
theorem zw {d:TypeDesc} {b o k a:Nat} (hu:P.underlying t=σ d) (e:d.isRow=true) (hi:aT P t k a z) (f:cs.length=k)
  (h:w.rangeAt b o cs):ac P (u4 t (.pointer (σ ⟨b,o,ν⟩))) w K=K (.agg cs.toArray):=ac.of λw' J=>
 run_loadAt_mid (P:=P) w' b o t cs d (ne J h) hu e (by rw[hi.size,f])
theorem bR {pl:List (Nat×Nat)} {b o k a:Nat} (hu:bN P t pl) (hi:aT P t k a z) (e:cs.length=k)
  (h:w.rangeAt b o cs):ac P (u4 t (.pointer (σ ⟨b,o,ν⟩))) w K=K (.agg cs.toArray):=by
 obtain⟨f,hu,_⟩:=hu;exact zw hu rfl hi e h
theorem aU {pl:List (Nat×Nat)} {i b o off z:Nat} (m:bN P t pl) (af:pl[i]? =σ (off,z+1)):
  ac P (u5 t (.pointer (σ ⟨b,o,ν⟩)) i) w K=K (.pointer (σ ⟨b,o+off,ν⟩)):=ac.of λw' _=>by
 obtain⟨p,hu,rfl⟩:=m;rw[x8] at af;cases a:p[i]? with
 |none=>rw[S4,a] at af;cases af
 |some f=>
  rw[S4,a] at af;simp only[Z3,Y8,T9] at af;obtain⟨rfl,h⟩:=af;cases e:P.info? f.type with
  |none=>simp[e] at h
  |some j=>
   have U:j.size=z+1:=by simpa[e] using h
   simp[u5,run_underlying hu,a,Instr.sureAddr,fieldPlace,sizeOf,typeInfo,e,U,T0]
theorem zx {i:Int} {b o c z f:Nat} {h:x1} {base:Option Addr} (hu:P.underlying t=σ (.slice e)) (m:aT P e z f h)
  (p:0<=i) (hi:i<n) (a:0<n->base=σ ⟨b,o,ν⟩):
  ac P (j4 t (.slice base n c) (.int k i)) w K=K (.pointer (σ ⟨b,o+i.toNat*z,ν⟩)):=ac.of λw' _=>by
 have a:=a Ω;subst a;obtain⟨j,q,U,_⟩:=m;simp[j4,asIntOf,run_underlying hu,p,hi,sizeOf,typeInfo,q,U,T0]
theorem e5 {i:Nat} {b o c z a:Nat} {base:Option Addr} (hu:P.underlying t=σ (.slice e)) (h:aT P e z a f)
  (hi:i<n) (j:0<n->base=σ ⟨b,o,ν⟩):
  ac P (j4 t (.slice base n c) (.int k (i:Int))) w K=K (.pointer (σ ⟨b,o+i*z,ν⟩)):=by
 rw[zx (i:=(i:Int)) hu h Ω Ω j];rfl
theorem IP {i:Int} {b o z a:Nat} (hu:P.underlying t=σ (.array n e)) (h:aT P e z a f)
  (m:0<=i) (hi:i<n):
  ac P (j4 t (.pointer (σ ⟨b,o,ν⟩)) (.int k i)) w K=K (.pointer (σ ⟨b,o+i.toNat*z,ν⟩)):=ac.of λw' _=>by
 obtain⟨j,p,U,_⟩:=h;simp[j4,asIntOf,run_underlying hu,Instr.sureAddr,m,hi,sizeOf,typeInfo,p,U,T0]
theorem uQ {i:Nat} {b o z a:Nat} (hu:P.underlying t=σ (.array n e)) (h:aT P e z a f) (hi:i<n):
  ac P (j4 t (.pointer (σ ⟨b,o,ν⟩)) (.int k (i:Int))) w K=K (.pointer (σ ⟨b,o+i*z,ν⟩)):=by
 rw[IP (i:=(i:Int)) hu h Ω Ω];rfl
def lF:Option x1->Nat->Prop
 |none,l=>l=0
 |some v,l=>∃k,v= .int k l
def lG:Option x1->Nat->Nat->Prop
 |none,n,h=>h=n
 |some v,_,h=>∃k,v= .int k h
def maxOf:Option x1->Option x1->Nat->Nat->Prop
 |none,_,c,m=>m=c
 |some v,σ _,_,m=>∃k,v= .int k m
 |some _,ν,_,_=>False
theorem pN {l:Nat}:lF (σ (.int k (l:Int))) l:=⟨_,rfl⟩
theorem nf (l:Nat) (x:Int) (h:x=(l:Int)):lF (σ (.int k x)) l:=⟨k,by rw[h]⟩
theorem ng (l:Nat) (x:Int) (h:x=(l:Int)):lG (σ (.int k x)) n l:=⟨k,by rw[h]⟩
theorem jv:lF ν 0:=rfl
theorem pO:lG (σ (.int k (h:Int))) n h:=⟨_,rfl⟩
theorem jw:lG ν n n:=rfl
theorem fz {h:Option x1} {c:Nat}:maxOf ν h c c:=by cases h<;>rfl
theorem rS (w:x3) {sl:Bool} {c l:Nat} {low high mx:Option x1} (h1:lF low l) (e:lG high n h) (a:maxOf mx high c m) (f:l<=h) (aJ:h<=m) (hm:m<=c):
  (Instr.sliceBounds sl n c low high mx).run P w= .ok (l,h,m) w:=by
 cases low<;>cases high<;>cases mx<;>simp only[lF,lG,maxOf] at h1 e a<;>(try exact a.elim)<;>(try obtain⟨j,rfl⟩:=h1)<;>(try obtain⟨p,rfl⟩:=e)<;>(try obtain⟨q,rfl⟩:=a)<;>(try subst h1)<;>(try subst e)<;>(try subst a) <;>
  simp[Instr.sliceBounds,Instr.sliceBound,asIntOf,f,aJ,hm]
theorem hK {c z a l:Nat} {base:Option Addr} {low high mx:Option x1} (hu:P.underlying t=σ (.slice e)) (p:aT P e z a f)
  (h1:lF low l) (q:lG high n h) (r:maxOf mx high c m) (s:l<=h) (aJ:h<=m) (hm:m<=c):
  ac P (V4 t (.slice base n c) low high mx) w K=K (.slice (if m=l then base else base.map (·.add (l*z))) (h-l) (m-l)):=ac.of λw' _=>by
 obtain⟨j,x,U,_⟩:=p;simp[V4,Instr.slice,run_underlying hu,rS w' h1 q r s aJ hm,sizeOf,typeInfo,x,U]
theorem rT {z a l b o:Nat} {low high mx:Option x1} (hu:P.underlying t=σ (.array n e)) (p:aT P e z a f)
  (h1:lF low l) (q:lG high n h) (r:maxOf mx high n m) (s:l<=h) (aJ:h<=m) (hm:m<=n):
  ac P (V4 t (.pointer (σ ⟨b,o,ν⟩)) low high mx) w K=K (.slice (σ (if m=l then⟨b,o,ν⟩ else⟨b,o+l*z,ν⟩)) (h-l) (m-l)):=ac.of λw' _=>by
 obtain⟨j,x,U,_⟩:=p;simp[V4,Instr.sureAddr,run_underlying hu,rS w' h1 q r s aJ hm,sizeOf,typeInfo,x,U,T0]
theorem dn {parts:Array (Nat×x1)} {cs:Array x1} (h:P.built t parts.toList=σ cs):ac P (Instr.build t parts) w K=K (.agg cs):=ac.of λw' _=>
 run_build (P:=P) w' t parts cs h
end
theorem cd.part {k c l:Nat} {base:Option Addr} (U:cd w k (.slice base n c) n cs) (p:l<=h) (aJ:h<=n) (hm:h<=m) (q:m<=c):
  cd w k (.slice (if m=l then base else base.map (·.add (l*k))) (h-l) (m-l)) (h-l) ((cs.drop (l*k)).take ((h-l)*k)):=by
 obtain⟨h1,b,o,r,cap,he,s,x,a,e⟩:=U;cases he;have y:h*k<=n*k:=X6 _ aJ;have z:l*k+(h-l)*k=h*k:=by rw[<-U2];congr 1;omega
 refine⟨by simp[h1];omega,b,o+l*k,_,m-l,rfl,Ω,Ω,λA=>?_,λj v ad=>?_⟩
 .rw[a Ω,if_neg Ω];simp[T0]
 .have f:=(x4.1 ad).1;simp at f;rw[Z8 Ω,List.getElem?_drop] at ad;rw[S8];exact e _ _ ad
section
variable {P:W5} {w:x3}
structure iY (g:Nat) (w w':x3):Prop where
 os:w'.os=w.os
 tape:jn w w'
 output:w'.output=w.output
 size:w'.heap.size=w.heap.size
 aZ:∀r,r≠g->w'.heap[r]? =w.heap[r]?
theorem iY.refl (g:Nat) (w:x3):iY g w w:=⟨rfl,.jV,rfl,rfl,λ_ _=>rfl⟩
theorem iY.trans {g:Nat} {a b:x3} (h:iY g a b) (k:iY g b c):iY g a c:=
 ⟨k.os.trans h.os,k.tape.trans h.tape,k.output.trans h.output,k.size.trans h.size,λr e=>(k.aZ r e).trans (h.aZ r e)⟩
theorem iY.ab {g:Nat} {w:x3} (h:iY g w w'):ah (λr=>r=g) w w':=⟨Nat.le_of_eq h.size.symm,λr o a _ e=>by rw[h.aZ r e];exact a⟩
theorem iY.cu {g:Nat} {w:x3} (h:iY g w w') (f:ag w g e cs):cM w w':=
 ⟨h.os,h.tape,h.output,Nat.le_of_eq h.size.symm,λr o a U=>by
  by_cases j:r=g
  .subst j;unfold ag at f;rw[f] at a;cases a;simp[fq] at U
  .rw[h.aZ r j];exact a⟩
theorem zy {g:Nat} (h:ag w g e cs) (o:Nat) (v:x1):ag (w.setCell ⟨g,o,ν⟩ v) g e (cs.set o v)/\iY g w (w.setCell ⟨g,o,ν⟩ v):=by
 unfold ag at h;refine⟨?_,rfl,.jV,rfl,by simp[x3.setCell],λr a=>?_⟩
 .simp[ag,x3.setCell,Array.getElem?_modify,h]
 .simp[x3.setCell,Array.getElem?_modify,Ne.symm a]
def over (cs:List x1):Nat->List x1->List x1
 |_,[]=>cs
 |o,v::r=>over (cs.set o v) (o+1) r
theorem lH:∀ (vs cs:List x1) (o:Nat),(over cs o vs).length=cs.length
 |[],_,_=>rfl
 |v::r,cs,o=>by simp[over,lH r]
theorem nh:∀ (vs cs:List x1) (o:Nat),o+vs.length<=cs.length-> ∀j,(over cs o vs)[j]? =if o<=j/\j<o+vs.length then vs[j-o]? else cs[j]?
 |[],cs,o,_,j=>by simp[over];intro h1 a;omega
 |v::r,cs,o,h,j=>by
  simp only[c9] at h;rw[over,nh r (cs.set o v) (o+1) Θ j];simp only[c9];by_cases h1:o+1<=j/\j<o+1+r.length
  .rw[if_pos h1,if_pos Ω];rw[show j-o=(j-(o+1))+1 by omega,List.getElem?_cons_succ]
  .rw[if_neg h1];by_cases a:j=o
   .subst a;rw[if_pos Ω,c7 Ω];simp
   .rw[if_neg Ω,Y0 (Ne.symm a)]
theorem me {o:Nat} (h:o+vs.length<=cs.length):over cs o vs=cs.take o++vs++cs.drop (o+vs.length):=by
 apply Y3;intro j;rw[nh vs cs o h];by_cases h1:j<o
 .rw[if_neg Ω,Y1 Θ,Y1 Θ,Z8 h1]
 .by_cases a:j<o+vs.length
  .rw[if_pos Ω,Y1 Θ,Y2 Θ];congr 1;simp;omega
  .rw[if_neg Ω,Y2 Θ,List.getElem?_drop];congr 1;simp;omega
theorem ni {g:Nat} {e:r9}:∀ (vs:List x1) (cs:List x1) (o:Nat) (w:x3),ag w g e cs->ag (w.setCells g o vs) g e (over cs o vs)/\iY g w (w.setCells g o vs)
 |[],cs,o,w,h=>⟨h,iY.refl _ _⟩
 |v::r,cs,o,w,h=>by
  obtain⟨h1,a⟩:=zy h o v;obtain⟨f,j⟩:=ni r (cs.set o v) (o+1) _ h1;exact⟨f,a.trans j⟩
theorem rU (w:x3) (c:List x1) (e:r9):ag (w.alloc (.cells c.toArray e)) w.heap.size e c/\Ext w (w.alloc (.cells c.toArray e))/\cM w (w.alloc (.cells c.toArray e)):=
 ⟨heap_alloc_new w _,pt w _,pu w _⟩
theorem bD {k a:Nat} {K:x1->x3->Prop} (hi:aT P t k a z)
  (h:∀g w',g=w.heap.size->Ext w w'->ag w' g t z.cells.toList->K (Γ g) w'):aD P (S7 t true (.tuple #[])) w K:=by
 obtain⟨i,hi,_,_,e⟩:=hi;obtain⟨h1,f,j⟩:=rU w z.cells.toList t;refine .of ?_ j (h _ _ rfl f h1);simp[S7,zeroValue,typeInfo,hi,e,newVar,newRow]
theorem be {K:x1->x3->Prop}
  (h:∀g w',g=w.heap.size->Ext w w'->ag w' g t v.cells.toList->K (Γ g) w'):aD P (Instr.box t v) w K:=by
 obtain⟨h1,a,e⟩:=rU w v.cells.toList t;refine .of ?_ e (h _ _ rfl a h1);simp[Instr.box,newVar,newRow]
def dM (z:Array x1) (n:Nat):List x1:=((Array.range n).map (z[·% z.size]!)).toList
theorem oy (z:Array x1) (n:Nat):(dM z n).length=n:=by simp[dM]
theorem j8 {k:Nat} {parts:Array (Nat×x1)} {cs:Array x1} {K:x1->x3->Prop} (f:P.underlying t=σ (.slice e)) (hi:aT P e k m z)
  (x:n*k<=2 ^ 24) (af:Instr.fill (λj=>σ (j*k,k)) ((Array.range (n*k)).map ((if n*k=0 then #[] else z.cells)[·% (if n*k=0 then #[] else z.cells).size]!)) parts.toList=σ cs)
  (h:∀g w',g=w.heap.size->Ext w w'->ag w' g e cs.toList->K (.slice (σ ⟨g,0,ν⟩) n n) w'):aD P (Y4 t n parts) w K:=by
 obtain⟨i,hi,rfl,_,p⟩:=hi;obtain⟨h1,q,r⟩:=rU w cs.toList e;refine .of ?_ r (h _ _ rfl q h1);have s:¬(16777216<n*i.size):=Ω
 by_cases a:n*i.size=0
 .simp only[a,if_true] at af;simp[Y4,run_underlying f,sizeOf,typeInfo,hi,a,newRow];simp at af;simp[af]
 .simp only[a,if_false] at af;simp[Y4,run_underlying f,sizeOf,typeInfo,hi,s,a,newRow,zeroValue,p,af]
theorem bq {g o:Nat} {K:Unit->x3->Prop} (hi:aT P t 1 j z) (h1:v.cells= #[v]) (ad:v.oneCell'=true) (a:ag w g e cs) (m:o<cs.length)
  (h:∀w',ah (λr=>r=g) w w'->w'.heap.size=w.heap.size->ag w' g e (cs.set o v)->K () w'):aD P (o6 t (.pointer (σ ⟨g,o,ν⟩)) v) w K:=by
 obtain⟨i,hi,U,_⟩:=hi;obtain⟨p,f⟩:=zy a o v;refine .of (w':=w.setCell ⟨g,o,ν⟩ v) ?_ (f.cu a) (h _ f.ab f.size p);have q:=a.cell (x6 m);have s:(⟨g,o,ν⟩:Addr).add 0=⟨g,o,ν⟩:=rfl;simp[o6,Instr.sureAddr,storeVar,sizeOf,typeInfo,hi,U,h1,storeCells,s,run_store P w _ v _ ad,q,a.frozen]
theorem zz {k g o:Nat} {K:Unit->x3->Prop} (hi:aT P t k m z) (p:vs.length=k) (ad:∀v∈vs,v.oneCell'=true) (a:ag w g e cs) (x:o+vs.length<=cs.length)
  (h:∀w',ah (λr=>r=g) w w'->w'.heap.size=w.heap.size->ag w' g e (over cs o vs)->K () w'):aD P (o6 t (.pointer (σ ⟨g,o,ν⟩)) (.agg vs.toArray)) w K:=by
 obtain⟨q,f⟩:=ni vs cs o w a;refine .of (w':=w.setCells g o vs) ?_ (f.cu a) (h _ f.ab f.size q);exact run_storeAt_mid (P:=P) w g o t vs.toArray (λj s=>⟨by rw[a.cell (x6 (show o+j<cs.length by simp at s;omega))];rfl,a.frozen _ _⟩) (by rw[hi.size];simp[p]) (by simpa using ad)
def bW (w:x3) (g:Nat) (e:r9) (k:Nat) (v:x1) (n:Nat) (xs:List x1):Prop:=
 xs.length=n*k/\((v= .slice ν 0 0/\n=0)\/ ∃cap cs,v= .slice (σ ⟨g,0,ν⟩) n cap/\ag w g e cs/\n<=cap/\cap<=maxLen/\cs.length=cap*k/\cs.take (n*k)=xs)
theorem bW.nil (w:x3) (g:Nat) (e:r9) (k:Nat):bW w g e k (.slice ν 0 0) 0 []:=⟨Ξ,.inl ⟨rfl,rfl⟩⟩
theorem bW.full {g:Nat} {k:Nat} (h:ag w g e cs) (a:cs.length=n*k) (f:n<=maxLen):bW w g e k (.slice (σ ⟨g,0,ν⟩) n n) n cs:=
 ⟨a,.inr ⟨n,cs,rfl,h,p8 _,f,a,by rw[<-a,p9]⟩⟩
theorem bW.ab {g:Nat} {k:Nat} (h:bW w g e k v n xs) (J:ah S w w') (f:g<w.heap.size->¬S g):bW w' g e k v n xs:=
 ⟨h.1,h.2.imp id λ⟨cap,cs,h1,a,j⟩=>⟨cap,cs,h1,a.ab J (f a.lt),j⟩⟩
theorem bW.ext {g:Nat} {k:Nat} (h:bW w g e k v n xs) (J:Ext w w'):bW w' g e k v n xs:=h.ab (J.ab λ_=>False) (λ_ h=>h)
theorem bW.sl {g:Nat} {k:Nat} (h:bW w g e k v n xs):cd w k v n xs:=by
 obtain⟨h1,⟨rfl,rfl⟩|⟨cap,cs,rfl,a,f,m,q,p⟩⟩:=h
 .have:xs=[]:=j5 (by simpa using h1);subst this;exact cd.nil w k
 .refine⟨h1,g,0,_,cap,rfl,f,m,λ_=>rfl,λj v ad=>?_⟩;rw[X0];have r:=(x4.1 ad).1;rw[<-p,Z8 Ω] at ad;exact a.cell ad
theorem cd.src {k:Nat} {x:x1} {a:List x1} {f h:r9} (U:cd w k x m a) (hk:P.underlying f=σ (.slice h)) (h1:∀u∈a,u.oneCell'=true) (p:0<m):Src P k f x m a w:=by
 obtain⟨q,b,o,base,cap,rfl,_,_,e,r⟩:=U;have e:=e p;subst e;exact Src.ofSlice w hk ⟨b,o,ν⟩ m cap a q (λj u hu=>by rw[T0];exact r j u hu) h1
theorem cd.IQ {k:Nat} {x:x1} {f:List x1} {h:r9} (U:cd w k x 0 f) (hk:P.underlying e=σ (.slice h)):Src P k e x 0 [] w:=by
 obtain⟨j,b,o,base,cap,rfl,_,_,m,p⟩:=U;cases base with
 |none=>exact Src.ofNil w hk cap
 |some a=>exact Src.ofSlice w hk a 0 cap [] Ξ Ξ Ξ
theorem zA {p s L W:r9} {k M g:Nat} {x:x1} {a:List x1} {K:x1->x3->Prop}
  (B:P.underlying t=σ (.slice e)) (C:P.underlying p=σ (.slice W)) (hi:aT P e k M z) (X:z.cells.size=k)
  (N:bW w g L k v n xs) (U:cd w k x m a) (h1:∀u∈a,u.oneCell'=true) (Y:(n+m)*M<=140737488355328) (O:n+m<=maxLen)
  (h:∀E F w' G,(F=g/\G=L/\(v=E\/g<w.heap.size/\v≠ .slice ν 0 0)\/F=w.heap.size/\G=e)->bW w' F G k E (n+m) (xs++a)->ah (λr=>r=g/\v≠ .slice ν 0 0) w w'->K E w'):
  aD P (b9 #[t,p] s #[v,x]) w K:=by
 obtain⟨i,hi,rfl,rfl,Z⟩:=hi;have aa:=N.sl;obtain⟨f,H⟩:=N;have q:=U.1;have grow:∀ (base:Option Addr) (cap:Nat),v= .slice base n cap->cap<n+m->0<m->(Z2.firstCells i.size n (.slice base n cap)).run P w.drew= .ok xs.toArray w.drew->aD P (b9 #[t,p] s #[v,x]) w K:=by
  rintro base cap rfl Q hm ac;have y:=run_append_grow_src (P:=P) w t p s e i z B hi Z base n cap xs ac x m a (U.src C h1 hm) Q (by simp only[maxLen] at O;omega) (growslice_fits Q Y);have ad:n+m<=grownCap w (n+m) cap e:=grownCap_ge w _ _ _;have I:grownCap w (n+m) cap e<=maxLen:=grownCap_le_maxLen w (n+m) cap e O;have ae:Ext w (w.drew.alloc (.cells ((xs++a).toArray++Z2.zeroCells z.cells (grownCap w (n+m) cap e-(n+m))) e)):=(q8 w _).trans (pt _ _);refine .of y ((ps w _ (Nat.le_succ _)).trans (pu _ _)) (h _ w.heap.size _ _ (.inr ⟨rfl,rfl⟩) ⟨by simp[f,q,U2],.inr ⟨_,((xs++a).toArray++Z2.zeroCells z.cells (grownCap w (n+m) cap e-(n+m))).toList,rfl,?_,ad,I,?_,?_⟩⟩ (ae.ab _))
  .show _=_;rw[Array.toArray_toList];exact heap_alloc_new w.drew _
  .simp[f,q,size_zeroCells,X,<-U2];congr 1;omega
  .rw[Array.toList_append,List.toList_toArray,U2,<-f,<-q,<-o4];exact List.take_left
 rcases R7 m with rfl|hm
 .have af:a=[]:=j5 (by simpa using q);subst af;have ag:=U.IQ C;have R:∀base cap,v= .slice base n cap->n<=cap->aD P (b9 #[t,p] s #[v,x]) w K:=by
   rintro base cap rfl I;refine .of (run_append_nothing (P:=P) w t p s e i B hi base n cap I x ag) (cM.refl _) (h _ g _ _ (.inl ⟨rfl,rfl,.inl rfl⟩) ?_ (ah.refl _ _));rw[Nat.add_zero,U4];exact⟨f,H⟩
  obtain⟨rfl,rfl⟩|⟨cap,cs,rfl,_,S,_⟩:=H
  .exact R _ _ rfl (p8 _)
  .exact R _ _ rfl S
 .obtain⟨rfl,rfl⟩|⟨cap,cs,rfl,A,S,ai,T,aj⟩:=H
  .have ak:xs=[]:=j5 (by simpa using f);subst ak;exact grow ν 0 rfl Ω hm (run_firstCells_none w.drew i.size 0 0 0)
  .by_cases J:n+m<=cap
   .have al:n*i.size+a.length<=cs.length:=by rw[q,T,<-U2];exact X6 _ J
    have y:=run_append_room_src (P:=P) w t p s e i B hi g 0 n cap x m a (U.src C h1 hm) J
     (λj aq=>by rw[A.cell (x6 (show 0+n*i.size+j<cs.length by omega))];rfl) (λj _=>A.frozen _ _)
    obtain⟨am,V⟩:=ni a cs (n*i.size) w A;rw[X0] at y;refine .of y (V.cu A) (h _ g _ _ (.inl ⟨rfl,rfl,.inr ⟨A.lt,Ξ⟩⟩) ⟨by simp[f,q,U2],.inr ⟨cap,_,rfl,am,J,ai,by rw[lH,T],?_⟩⟩ (V.ab.mono λr _ h=>⟨h,Ξ⟩));rw[me al,aj,U2,<-f,<-q,<-o4];exact List.take_left
   .refine grow _ cap rfl Ω hm (run_firstCells_some w.drew i.size n _ n cap xs f λj u hu=>?_);rw[T0];obtain⟨_,b,o,base,au,he,_,_,an,y⟩:=aa;cases he;have ao:0<n:=by
     rcases R7 n with rfl|ap
     .simp at f;subst f;simp at hu
     .exact ap
    have:=an ao;cases this;simpa using y j u hu
theorem nj {p y A:r9} {k q g:Nat} {x:x1} {j:List x1} {K:x1->x3->Prop}
  (B:P.underlying t=σ (.slice e)) (C:P.underlying p=σ (.slice A)) (hi:aT P e k q z) (E:z.cells.size=k)
  (F:bW w g e k v n xs) (U:cd w k x m j) (h1:∀u∈j,u.oneCell'=true) (G:(n+m)*q<=140737488355328) (H:n+m<=maxLen)
  (h:∀f a w',(a=g\/w.heap.size<=a)->bW w' a e k f (n+m) (xs++j)->ah (λr=>r=g) w w'->K f w'):
  aD P (b9 #[t,p] y #[v,x]) w K:=
 zA B C hi E F U h1 G H λf a w' J s hm I=>by
  refine h f a w' (s.imp And.left λh=>Nat.le_of_eq h.1.symm) ?_ (I.mono λr _ h=>h.1);obtain⟨_,rfl,_⟩|⟨_,rfl⟩:=s<;>exact hm
theorem zB {f p q:r9} {H g o gQ s:Nat} {x:x1} {base:Option Addr} {B:r9} {K:x1->x3->Prop} (C:P.underlying f=σ (.slice e)) (hi:aT P e 1 H z)
  (a:ag w g B cs) (I:0<gQ->base=σ ⟨g,o,ν⟩) (T:o+gQ<=cs.length) (U:cd w 1 x n xs) (h1:∀u∈xs,u.oneCell'=true)
  (h:∀w',ah (λr=>r=g) w w'->w'.heap.size=w.heap.size->ag w' g B (over cs o (xs.take gQ))->K (Δ (min n gQ:Nat)) w'):
  aD P (Z2.copy_ #[f,p] q #[.slice base gQ s,x]) w K:=by
 obtain⟨y,b,o',J,cap,rfl,_,_,L,M⟩:=U;simp only[U1] at y;have E:(P.info? e).map (·.size)=σ 1:=hi.size;by_cases m:Nat.min n gQ=0
 .have he:xs.take gQ=[]:=j5 (by rw[j6,y];rw[Nat.min_comm];exact m);rw[he] at h;refine .of (run_copy_none (P:=P) w f p q e base J gQ s n cap C E m) (cM.refl _) ?_;have F:min n gQ=0:=m;rw[F] at h;exact h w (ah.refl _ _) rfl a
 .have F:min n gQ≠0:=m;have N:=L Ω;have O:=I Ω;subst N;subst O;have G:(xs.take gQ).length=min n gQ:=by rw[j6,y,Nat.min_comm]
  obtain⟨Q,A⟩:=ni (xs.take gQ) cs o w a;have R:=run_copy_cells (P:=P) w f p q e g o gQ s ⟨b,o',ν⟩ n cap (xs.take gQ) C E G
   (λj u hu=>by
    rw[T0];have S:=(x4.1 hu).1;rw[Z8 Ω] at hu;exact M j u hu)
   (λj S=>by rw[a.cell (x6 (show o+j<cs.length by omega))];rfl) (λj _=>a.frozen _ _) (λu hu=>h1 u (T4 hu))
  refine .of R (A.cu a) ?_;rw[G];exact h _ A.ab A.size Q
theorem am.mono {f:R3} {K e:x1->x3->Prop} (h:am P f args w K) (j:∀v w',cM w w'->K v w'->e v w'):am P f args w e:=by
 cases h with
 |code h1 a=>exact .code h1 (a.mono λ_ w' ⟨v,h1,m,a⟩=>⟨v,h1,m,j v w' m a⟩)
 |ext v w' h1 a p=>exact .ext v w' h1 a (j v w' a p)
theorem gx.mono {f:R3} {K e:x1->x3->Prop} (h:gx P f args w K) (j:∀v w',K v w'->e v w'):gx P f args w e:=by
 cases h with
 |code h1 a=>exact .code h1 (a.mono λ_ w' ⟨v,h1,a⟩=>⟨v,h1,j v w' a⟩)
 |ext v w' h1 m=>exact .ext v w' h1 (j v w' m)
end
end Go.Vc
namespace Go.Proofs.YtmgflbkdggdhoaaGreatDoor
open Go Go.Vc Go.RowKit Go.Proofs Go.Proofs.Tryz
set_option maxRecDepth 100000
theorem ap.u:x7.underlying ap=σ (.int .i64):=Ψ
theorem ap.i:aT x7 ap 1 8 (Δ 0):=aT.of Ψ
theorem ai.u:x7.underlying ai=σ (.int .i64):=Ψ
theorem ai.i:aT x7 ai 1 8 (Δ 0):=aT.of Ψ
theorem fa.u:x7.underlying fa=σ .bool:=Ψ
theorem fa.i:aT x7 fa 1 1 (.bool false):=aT.of Ψ
theorem cJ.u:x7.underlying cJ=σ (.int .u8):=Ψ
theorem cJ.i:aT x7 cJ 1 1 (.int .u8 0):=aT.of Ψ
theorem cZ.u:x7.underlying cZ=σ .string:=Ψ
theorem cZ.i:aT x7 cZ 1 16 (.string ⟨#[]⟩):=aT.of Ψ
theorem cN.u:x7.underlying cN=σ (.slice cJ):=Ψ
theorem nb.u:x7.underlying nb=σ (.slice c0):=Ψ
theorem dz.u:x7.underlying dz=σ (.pointer cI):=Ψ
theorem an.u:x7.underlying an=σ (.slice ai):=Ψ
theorem an.i:aT x7 an 1 24 (.slice ν 0 0):=aT.of Ψ
theorem c5.u:x7.underlying c5=σ (.slice an):=Ψ
theorem c5.i:aT x7 c5 1 24 (.slice ν 0 0):=aT.of Ψ
theorem j3.u:x7.underlying j3=σ (.slice fa):=Ψ
theorem j3.i:aT x7 j3 1 24 (.slice ν 0 0):=aT.of Ψ
theorem dV.u:x7.underlying dV=σ (.slice ax):=Ψ
theorem dV.i:aT x7 dV 1 24 (.slice ν 0 0):=aT.of Ψ
theorem eN.u:x7.underlying eN=σ (.slice dm):=Ψ
theorem eN.i:aT x7 eN 1 24 (.slice ν 0 0):=aT.of Ψ
theorem a8.p:bN x7 a8 [(0,1),(1,1),(2,1),(3,1),(4,1),(5,1),(6,1),(7,1)]:=bN.of Ψ
theorem a8.i:aT x7 a8 8 160 (.agg #[(Δ 0),(.slice ν 0 0),(Δ 0),(.slice ν 0 0),(.slice ν 0 0),(.slice ν 0 0),(.slice ν 0 0),(.slice ν 0 0)]):=aT.of Ψ
theorem c0.p:bN x7 c0 [(0,1),(1,1),(2,1),(3,1),(4,1)]:=bN.of Ψ
theorem c0.i:aT x7 c0 5 40 (.agg #[(.int .u8 0),(Δ 0),(Δ 0),(Δ 0),(Δ 0)]):=aT.of Ψ
theorem ax.u:x7.underlying ax=σ (.slice ap):=Ψ
theorem ax.i:aT x7 ax 1 24 (.slice ν 0 0):=aT.of Ψ
theorem aY.p:bN x7 aY [(0,1),(1,1),(2,1)]:=bN.of Ψ
theorem aY.i:aT x7 aY 3 72 (.agg #[(.slice ν 0 0),(.slice ν 0 0),(.slice ν 0 0)]):=aT.of Ψ
theorem dm.p:bN x7 dm [(0,3),(3,1)]:=bN.of Ψ
theorem dm.i:aT x7 dm 4 80 (.agg #[(.slice ν 0 0),(.slice ν 0 0),(.slice ν 0 0),(.bool false)]):=aT.of Ψ
theorem js.i:aT x7 js 1 8 (Δ 0):=aT.of Ψ
theorem uK.u:x7.underlying uK=σ (.pointer cE):=Ψ
theorem uL.u:x7.underlying uL=σ (.pointer dB):=Ψ
theorem mb.u:x7.underlying mb=σ (.pointer fw):=Ψ
theorem cU.u:x7.underlying cU=σ (.slice aY):=Ψ
theorem cU.i:aT x7 cU 1 24 (.slice ν 0 0):=aT.of Ψ
theorem dA.p:bN x7 dA [(0,1),(1,1),(2,1),(3,1),(4,1)]:=bN.of Ψ
theorem dA.i:aT x7 dA 5 88 (.agg #[(Δ 0),(.slice ν 0 0),(Δ 0),(.slice ν 0 0),(.slice ν 0 0)]):=aT.of Ψ
theorem fu.u:x7.underlying fu=σ (.int .u64):=Ψ
theorem fu.i:aT x7 fu 1 8 (.int .u64 0):=aT.of Ψ
theorem oq.i:aT x7 oq 1 8 .nilFunc:=aT.of Ψ
theorem ot.i:aT x7 ot 1 8 .nilFunc:=aT.of Ψ
theorem b4.p:bN x7 b4 [(0,1),(1,1)]:=bN.of Ψ
theorem b4.i:aT x7 b4 2 16 (.agg #[(.int .u64 0),(Δ 0)]):=aT.of Ψ
theorem pK.u:x7.underlying pK=σ (.pointer fx):=Ψ
theorem fv.u:x7.underlying fv=σ (.slice fb):=Ψ
theorem fv.i:aT x7 fv 1 24 (.slice ν 0 0):=aT.of Ψ
theorem cI.p:bN x7 cI [(0,1),(1,1),(2,1),(3,1),(4,1)]:=bN.of Ψ
theorem bA.p:bN x7 bA [(0,1)]:=bN.of Ψ
theorem bA.i:aT x7 bA 1 24 (.agg #[(.slice ν 0 0)]):=aT.of Ψ
theorem fb.p:bN x7 fb [(0,1),(1,1),(2,1)]:=bN.of Ψ
theorem fb.i:aT x7 fb 3 56 (.agg #[(.slice ν 0 0),(.slice ν 0 0),(Δ 0)]):=aT.of Ψ
theorem rM.u:x7.underlying rM=σ (.pointer hG):=Ψ
theorem eX.p:bN x7 eX [(0,1),(1,1),(2,1),(3,1)]:=bN.of Ψ
theorem hg.u:x7.underlying hg=σ (.slice jt):=Ψ
theorem hg.i:aT x7 hg 1 24 (.slice ν 0 0):=aT.of Ψ
theorem cc.p:bN x7 cc [(0,1),(1,4),(5,1),(6,1)]:=bN.of Ψ
theorem iW.u:x7.underlying iW=σ (.slice b0):=Ψ
theorem ir.u:x7.underlying ir=σ (.slice dX):=Ψ
theorem ir.i:aT x7 ir 1 24 (.slice ν 0 0):=aT.of Ψ
theorem b0.p:bN x7 b0 [(0,1),(1,1),(2,1),(3,1)]:=bN.of Ψ
theorem b0.i:aT x7 b0 4 80 (.agg #[(.slice ν 0 0),(.slice ν 0 0),(Δ 0),(.slice ν 0 0)]):=aT.of Ψ
theorem dE.u:x7.underlying dE=σ (.slice cF):=Ψ
theorem dE.i:aT x7 dE 1 24 (.slice ν 0 0):=aT.of Ψ
theorem cE.p:bN x7 cE [(0,1),(1,1),(2,1),(3,1)]:=bN.of Ψ
theorem eO.u:x7.underlying eO=σ (.pointer fy):=Ψ
theorem eO.i:aT x7 eO 1 8 (.pointer ν):=aT.of Ψ
theorem cF.p:bN x7 cF [(0,1),(1,1)]:=bN.of Ψ
theorem cF.i:aT x7 cF 2 32 (.agg #[(.slice ν 0 0),(.pointer ν)]):=aT.of Ψ
theorem fc.u:x7.underlying fc=σ (.slice cn):=Ψ
theorem fc.i:aT x7 fc 1 24 (.slice ν 0 0):=aT.of Ψ
theorem dw.u:x7.underlying dw=σ (.slice ba):=Ψ
theorem dw.i:aT x7 dw 1 24 (.slice ν 0 0):=aT.of Ψ
theorem bx.p:bN x7 bx [(0,1),(1,1),(2,1),(3,1),(4,1),(5,1),(6,1),(7,1),(8,1)]:=bN.of Ψ
theorem dB.p:bN x7 dB [(0,1),(1,1),(2,1),(3,1)]:=bN.of Ψ
theorem cn.p:bN x7 cn [(0,1),(1,1)]:=bN.of Ψ
theorem cn.i:aT x7 cn 2 24 (.agg #[(.string ⟨#[]⟩),(Δ 0)]):=aT.of Ψ
theorem dW.u:x7.underlying dW=σ (.slice b5):=Ψ
theorem dW.i:aT x7 dW 1 24 (.slice ν 0 0):=aT.of Ψ
theorem ba.p:bN x7 ba [(0,1),(1,1),(2,1),(3,1)]:=bN.of Ψ
theorem ba.i:aT x7 ba 4 80 (.agg #[(.slice ν 0 0),(.slice ν 0 0),(Δ 0),(.slice ν 0 0)]):=aT.of Ψ
theorem kL.u:x7.underlying kL=σ (.slice hh):=Ψ
theorem kL.i:aT x7 kL 1 24 (.slice ν 0 0):=aT.of Ψ
theorem fw.p:bN x7 fw [(0,1),(1,1),(2,1),(3,1)]:=bN.of Ψ
theorem eP.u:x7.underlying eP=σ (.pointer cW):=Ψ
theorem eP.i:aT x7 eP 1 8 (.pointer ν):=aT.of Ψ
theorem hh.p:bN x7 hh [(0,1),(1,1)]:=bN.of Ψ
theorem hh.i:aT x7 hh 2 32 (.agg #[(.slice ν 0 0),(.pointer ν)]):=aT.of Ψ
theorem pL.p:bN x7 pL [(0,1),(1,1)]:=bN.of Ψ
theorem h0.u:x7.underlying h0=σ (.slice eH):=Ψ
theorem h0.i:aT x7 h0 1 24 (.slice ν 0 0):=aT.of Ψ
theorem nc.u:x7.underlying nc=σ (.slice kM):=Ψ
theorem nc.i:aT x7 nc 1 24 (.slice ν 0 0):=aT.of Ψ
theorem rN.u:x7.underlying rN=σ (.slice gb):=Ψ
theorem fx.p:bN x7 fx [(0,1),(1,1),(2,1),(3,1)]:=bN.of Ψ
theorem gb.p:bN x7 gb [(0,1),(1,1),(2,1)]:=bN.of Ψ
theorem gb.i:aT x7 gb 3 24 (.agg #[(Δ 0),(Δ 0),(.int .u64 0)]):=aT.of Ψ
theorem eH.p:bN x7 eH [(0,1),(1,1)]:=bN.of Ψ
theorem eH.i:aT x7 eH 2 16 (.agg #[(Δ 0),(.int .u64 0)]):=aT.of Ψ
theorem kM.i:aT x7 kM 3 24 (.agg #[(Δ 0),(Δ 0),(.int .u64 0)]):=aT.of Ψ
theorem hG.p:bN x7 hG [(0,1),(1,1),(2,1)]:=bN.of Ψ
theorem jt.p:bN x7 jt [(0,1),(1,1)]:=bN.of Ψ
theorem jt.i:aT x7 jt 2 48 (.agg #[(.slice ν 0 0),(.slice ν 0 0)]):=aT.of Ψ
theorem dX.p:bN x7 dX [(0,1),(1,1)]:=bN.of Ψ
theorem dX.i:aT x7 dX 2 32 (.agg #[(.slice ν 0 0),(Δ 0)]):=aT.of Ψ
theorem b5.p:bN x7 b5 [(0,1),(1,1)]:=bN.of Ψ
theorem b5.i:aT x7 b5 2 32 (.agg #[(.slice ν 0 0),(Δ 0)]):=aT.of Ψ
theorem gd.u:x7.underlying gd=σ (.slice cV):=Ψ
theorem cV.p:bN x7 cV [(0,1),(1,1)]:=bN.of Ψ
theorem cV.i:aT x7 cV 2 32 (.agg #[(.slice ν 0 0),(.pointer ν)]):=aT.of Ψ
theorem iu.u:x7.underlying iu=σ (.map cG ap):=Ψ
theorem fy.p:bN x7 fy [(0,1),(1,1),(2,1),(3,1)]:=bN.of Ψ
theorem ou.u:x7.underlying ou=σ (.slice gf):=Ψ
theorem gf.p:bN x7 gf [(0,1),(1,1)]:=bN.of Ψ
theorem gf.i:aT x7 gf 2 32 (.agg #[(.slice ν 0 0),(Δ 0)]):=aT.of Ψ
theorem cW.p:bN x7 cW [(0,1),(1,1),(2,1)]:=bN.of Ψ
theorem ov.u:x7.underlying ov=σ (.int .u64):=Ψ
theorem gP.u:x7.underlying gP=σ (.map cZ ai):=Ψ
theorem fL.u:x7.underlying fL=σ (.int .i8):=Ψ
theorem fL.i:aT x7 fL 1 1 (.int .i8 0):=aT.of Ψ
theorem cG.u:x7.underlying cG=σ (.array 6 fL):=Ψ
theorem cG.i:aT x7 cG 6 6 (.agg #[(.int .i8 0),(.int .i8 0),(.int .i8 0),(.int .i8 0),(.int .i8 0),(.int .i8 0)]):=aT.of Ψ
theorem kN.u:x7.underlying kN=σ (.slice fL):=Ψ
theorem iX.u:x7.underlying iX=σ (.slice cG):=Ψ
theorem iX.i:aT x7 iX 1 24 (.slice ν 0 0):=aT.of Ψ
theorem ow.u:x7.underlying ow=σ (.int .u32):=Ψ
theorem lC.u:x7.underlying lC=σ (.map ap ai):=Ψ
theorem rO.u:x7.underlying rO=σ (.array 64 cJ):=Ψ
theorem mc.u:x7.underlying mc=σ (.array 24 cJ):=Ψ
theorem mc.i:aT x7 mc 24 24 (.agg #[(.int .u8 0),(.int .u8 0),(.int .u8 0),(.int .u8 0),(.int .u8 0),(.int .u8 0),(.int .u8 0),(.int .u8 0),(.int .u8 0),(.int .u8 0),(.int .u8 0),(.int .u8 0),(.int .u8 0),(.int .u8 0),(.int .u8 0),(.int .u8 0),(.int .u8 0),(.int .u8 0),(.int .u8 0),(.int .u8 0),(.int .u8 0),(.int .u8 0),(.int .u8 0),(.int .u8 0)]):=aT.of Ψ
theorem rP.u:x7.underlying rP=σ (.array 20 fu):=Ψ
end Go.Proofs.YtmgflbkdggdhoaaGreatDoor
namespace Go.Vc
open Go Go.RowKit
def bX:x1->Int
 | .int _ i=>i
 |_=>0
theorem wrap_i64 {x:Int} (h1: -9223372036854775808<=x) (a:x<9223372036854775808):X2.wrap x=x:=by
 simp only[o5.wrap,o5.bits,o5.signed];simp;omega
theorem wrap_u8 {x:Int} (h1:0<=x) (a:x<256):o5.u8.wrap x=x:=by
 simp only[o5.wrap,o5.bits,o5.signed];simp;omega
theorem IR {x:Int} (h1: -128<=x) (a:x<128):o5.i8.wrap x=x:=by
 simp only[o5.wrap,o5.bits,o5.signed];simp;omega
theorem wrap_u64 {x:Int} (h1:0<=x) (a:x<18446744073709551616):U3.wrap x=x:=by
 simp only[o5.wrap,o5.bits,o5.signed];simp;omega
abbrev ints (k:o5) (l:Λ):List x1:=l.map (V2 k)
theorem pP (k:o5) (l:Λ):∀u∈ints k l,u.oneCell'=true:=by
 intro u hu;obtain⟨x,_,rfl⟩:=l9.1 hu;rfl
theorem kO {i:Nat} {x:Int} (h:l[i]? =σ x):(ints k l)[i]? =σ (.int k x):=by simp[ints,h]
theorem uR {α:Type} {a b:List α} {i:Nat} {x y:α} (h:a.take i=b.take i) (e:a[i]? =σ x) (f:b[i]? =σ y) (j:x=y):a.take (i+1)=b.take (i+1):=by
 rw[u9,u9,h,e,f,j]
theorem dg {aA:x3->Prop} {B:(x3->Prop)->Prop} (G:x3->Prop) (h1:∀w,G w->aA w) (e:∀a:x3->Prop,(∀w,G w->a w)->B a):cv aA B:=e aA h1
theorem aV {aA:x1->x3->Prop} {B:(x1->x3->Prop)->Prop} (G:x1->x3->Prop) (h1:∀v w,G v w->aA v w)
  (e:∀a:x1->x3->Prop,(∀v w,G v w->a v w)->B a):cv aA B:=e aA h1
theorem gO {aA:x1->x1->x3->Prop} {B:(x1->x1->x3->Prop)->Prop} (G:x1->x1->x3->Prop) (h1:∀u v w,G u v w->aA u v w)
  (e:∀a:x1->x1->x3->Prop,(∀u v w,G u v w->a u v w)->B a):cv aA B:=e aA h1
theorem am.calls {P:W5} {f:R3} {K:x1->x3->Prop} (h:am P f args w K) (a:Enters P f):Calls P f args.toArray w λe w'=>∃v,e= .returned v/\cM w w'/\K v w':=by
 cases h with
 |code _ h=>exact h
 |ext v w' h1=>rw[a] at h1;cases h1
theorem zC (J:Ext w w') (a:cM w w'):Below w.heap.size w w':=
 ⟨a.os,a.tape.1,a.output,J.size,λk hk=>by
  have e:w.heap[k]? =σ w.heap[k]:=Array.getElem?_eq_getElem hk;rw[e];cases U:fq w.heap[k] with
  |true=>exact J.aZ k _ e U
  |false=>exact a.aZ k _ e U⟩
theorem uS {x:Addr} (h:w.cell? x=σ v):x=⟨x.block,x.off,ν⟩:=by
 obtain⟨b,o,s⟩:=x;cases s with
 |none=>rfl
 |some s=>
  unfold x3.cell? at h;split at h<;>simp at h
theorem zD {a:Option Addr} {len cap:Nat} {e:Λ}
  (h:(a=ν/\len=0/\cap=0/\e=[])\/
   ∃x,a=σ x/\len<=cap/\cap<=maxLen/\e.length=cap/\(∀i,i<e.length->w.cell? (x.add i)=σ (.int k (e.getD i 0)))/\ ∀n∈e,(Lit.int k n).wf=true):
  cd w 1 (.slice a len cap) len (ints k (e.take len))/\ ∀n∈e.take len,k.min<=n/\n<=k.max:=by
 rcases h with⟨rfl,rfl,rfl,rfl⟩|⟨x,rfl,h1,p,q,f,r⟩
 .exact⟨cd.nil _ _,Ξ⟩
 .refine⟨⟨by simp[q,h1],x.block,x.off,σ x,cap,rfl,h1,p,λz=>?_,λj v ad=>?_⟩,λn s=>?_⟩
  .have:=f 0 Ω;exact congrArg σ (uS this)
  .have y:=(x4.1 ad).1;rw[u7,j6] at y;have J:x=⟨x.block,x.off,ν⟩:=uS (v:=.int k (e.getD 0 0)) (f 0 Ω);have m:=f j Ω;rw[J,T0] at m;rw[m,<-ad,ints,x8,Z8 Ω,v8,x6 Ω];rfl
  .have:=r n (T4 s);simpa[Lit.wf] using this
def aF (k:o5) (w:x3) (v:x1) (l:Λ):Prop:=cd w 1 v l.length (ints k l)
def au (k:o5) (e:r9) (w:x3) (g:Nat) (v:x1) (l:Λ):Prop:=bW w g e 1 v l.length (ints k l)
theorem aF.ext (h:aF k w v l) (J:Ext w w'):aF k w' v l:=cd.ext h J
theorem au.ext {g:Nat} (h:au k e w g v l) (J:Ext w w'):au k e w' g v l:=bW.ext h J
theorem au.ab {g:Nat} (h:au k e w g v l) (J:ah S w w') (a:g<w.heap.size->¬S g):au k e w' g v l:=bW.ab h J a
theorem au.ls {g:Nat} (h:au k e w g v l):aF k w v l:=bW.sl h
theorem aF.of (h:cd w 1 v n (ints k l)):aF k w v l:=by
 have:l.length=n:=by simpa using h.1
 unfold aF;rw[this];exact h
theorem au.of {g:Nat} (h:bW w g e 1 v n (ints k l)):au k e w g v l:=by
 have:l.length=n:=by simpa using h.1
 unfold au;rw[this];exact h
theorem aF.le (h:aF k w v l):l.length<=9223372036854775807:=by
 have:=cd.le h;simpa[maxLen] using this
theorem aF.cells (h:aF k w v l):v.cells= #[v]/\v.oneCell'=true:=by
 obtain⟨_,_,_,_,_,rfl,_⟩:=h;exact⟨rfl,rfl⟩
theorem au.nil (k:o5) (e:r9) (w:x3) (g:Nat):au k e w g (.slice ν 0 0) []:=bW.nil w g e 1
section
variable {P:W5} {w:x3}
theorem aW {a:r9} (f:P.underlying t=σ (.slice e)) (h:aF k w v l):
  ac P (W8 #[t] a #[v]) w K=K (Δ l.length):=by
 obtain⟨_,_,_,_,_,rfl,_⟩:=h;exact hJ f
theorem bc {a:o5} {b:Nat} {i:Nat} {x:Int} (f:P.underlying t=σ (.slice e)) (hi:aT P e 1 b z) (h1:ju P e=true)
  (h:aF k w v l) (J:l[i]? =σ x):ac P (j4 t v (.int a (i:Int))) w (λp=>ac P (u4 e p) w K)=K (.int k x):=by
 have j:=(x4.1 J).1;obtain⟨_,_,_,_,_,rfl,_,_,m,q⟩:=h;rw[e5 f hi j m,U1,ay h1 (q i _ (kO J))]
theorem fM {a:o5} {b:Nat} {i:Nat} {x:Int} (f:y=(i:Int)) (j:P.underlying t=σ (.slice e)) (hi:aT P e 1 b z) (h1:ju P e=true)
  (h:aF k w v l) (J:l[i]? =σ x):ac P (j4 t v (.int a y)) w (λp=>ac P (u4 e p) w K)=K (.int k x):=by
 subst f;exact bc j hi h1 h J
theorem iZ {p:r9} {b g:Nat} {x:x1} {m:Λ} {K:x1->x3->Prop} (j:P.underlying t=σ (.slice e)) (hi:aT P e 1 b z) (q:z.cells.size=1)
  (h:au k e w g v l) (J:aF k w x m) (s:(l.length+m.length)*b<=140737488355328) (y:l.length+m.length<=9223372036854775807)
  (A:∀f a w',(a=g\/w.heap.size<=a)->au k e w' a f (l++m)->ah (λr=>r=g) w w'->K f w'):aD P (b9 #[t,t] p #[v,x]) w K:=
 nj j j hi q h J (pP _ _) s (by simpa[maxLen] using y) λf a w' h1 B C=>A f a w' h1 (au.of (by rw[ints,Z0];exact B)) C
theorem ew {b:Nat} {x:Int} {K:x1->x3->Prop} (j:P.underlying t=σ (.slice e)) (hi:aT P e 1 b z) (q:z.cells.size=1)
  (h:∀v g w',g=w.heap.size->Ext w w'->au k e w' g v [x]->K v w'):aD P (Y4 t 1 #[(0,.int k x)]) w K:=
 j8 j hi Ω (cs:=#[.int k x]) (by
   have U:∀ (a:Array x1),a.size=1->a.setIfInBounds 0 (.int k x)= #[.int k x]:=λa f=>by
    apply Array.ext
    .simp[f]
    .intro i h1 r;have:i=0:=by simp[f] at h1;exact h1
     subst this;simp
   simp only[Instr.fill,x1.cells,List.zipIdx];simp;exact U _ Ξ) λg w' m J p=>h _ g w' m J (au.of (n:=1) (bW.full p rfl (by simp[maxLen])))
theorem am.free {f:R3} {K:x1->x3->Prop} (h:am P f args w K):gx P f args w λv w'=>cM w w'/\K v w':=by
 cases h with
 |code h1 a=>exact .code h1 (a.mono λ_ w' ⟨v,h1,e,a⟩=>⟨v,h1,e,a⟩)
 |ext v w' h1 a j=>exact .ext v w' h1 ⟨a,j⟩
theorem bV {a:Addr}:ac P (bM (.pointer (σ a))) w K=K (.pointer (σ a)):=ac.of λ_ _=>by
 simp[bM,ra,execOp]
theorem aM {u:r9} {pl:List (Nat×Nat)} {b off z:Nat} {K:x1->x1->Prop} (a:bN P t pl) (i:Nat) (f:ag w b e cs) (ad:cs[(pl[i]?.getD (0,0)).1]? =σ v) (af:pl[i]? =σ (off,z+1):=by rfl) (h:ju P u=true:=by kernel_rfl):
  ac P (u5 t (Γ b) i) w (λx=>ac P (u4 u x) w (K x))=K (.pointer (σ ⟨b,0+off,ν⟩)) v:=by
 rw[af] at ad;rw[aU a af,ay h (f.cell (by rw[X0];exact ad))]
theorem aQ {u:r9} {pl:List (Nat×Nat)} {b off z:Nat} {K:x1->x1->x1->Prop} (a:bN P t pl) (i:Nat) (f:ag w b e cs) (ad:cs[(pl[i]?.getD (0,0)).1]? =σ v) (af:pl[i]? =σ (off,z+1):=by rfl) (h:ju P u=true:=by kernel_rfl):
  ac P (bM (Γ b)) w (λy=>ac P (u5 t y i) w (λx=>ac P (u4 u x) w (K y x)))=K (Γ b) (.pointer (σ ⟨b,0+off,ν⟩)) v:=by
 rw[bV,aM a i f ad af h]
theorem zE {a f:o5} {k:Nat} {K:x1->x3->Prop} (p:P.underlying t=σ (.slice e)) (hi:aT P e k j z) (y:n*j<=281474976710656) (A:n<=9223372036854775807)
  (h:∀g w',g=w.heap.size->Ext w w'->ag w' g e (dM z.cells (n*k))->K (.slice (σ ⟨g,0,ν⟩) n n) w'):aD P (Instr.makeSlice t (.int a (n:Int)) (.int f (n:Int))) w K:=by
 obtain⟨i,hi,rfl,rfl,q⟩:=hi;have r:(i.bytes:Int)*(n:Int)<=281474976710656:=by
  rw[Int.mul_comm];have h:((n*i.bytes:Nat):Int)<=281474976710656:=Ω
  rwa [Int.natCast_mul] at h
 have m:=run_make (P:=P) w t e i z p hi q a f n n Ω (Int.le_refl _) r Ω;have hm:madeCells z.cells ((n:Int).toNat*i.size)=(dM z.cells (n*i.size)).toArray:=by rw[dM,Array.toArray_toList];rfl
 rw[hm] at m;obtain⟨h1,s,x⟩:=rU w (dM z.cells (n*i.size)) e;exact .of m x (h _ _ rfl s h1)
theorem IS (v:x1) (n:Nat):dM #[v] n=r8 n v:=by
 apply List.ext_getElem
 .simp[dM]
 .intro i h1 a;simp[dM,Nat.mod_one]
theorem jx {f j:o5} {a:Nat} {K:x1->x3->Prop} (m:P.underlying t=σ (.slice e)) (hi:aT P e 1 a (.int k 0)) (p:n*a<=281474976710656) (q:n<=9223372036854775807)
  (h:∀g w',g=w.heap.size->Ext w w'->ag w' g e (ints k (r8 n 0))->K (.slice (σ ⟨g,0,ν⟩) n n) w'):aD P (Instr.makeSlice t (.int f (n:Int)) (.int j (n:Int))) w K:=
 zE m hi p q λg w' r J s=>h g w' r J (by
  have e:dM (V2 k 0).cells (n*1)=ints k (r8 n 0):=by rw[U1];show dM #[_] n=_;rw[IS];simp[ints]
  rw[<-e];exact s)
theorem fN {pl:List (Nat×Nat)} {b o k a:Nat} (hu:bN P t pl) (hi:aT P t k a z) (e:cs.length=k)
  (h:w.rangeAt b o cs):ac P (do loadVar t (<-asAddr (.pointer (σ ⟨b,o,ν⟩)))) w K=K (.agg cs.toArray):=ac.of λw' J=>by
 obtain⟨f,hu,_⟩:=hu;have:=run_loadVar_mid (P:=P) w' b o t cs (.struct f) (ne J h) hu rfl (by rw[hi.size,e]);simp only[asAddr,W0,V0,Result.andThen_ok,this]
theorem IT (h:vs.length=cs.length):over cs 0 vs=vs:=by
 rw[me Ω];simp[h]
theorem ch {k f g:Nat} {K:Unit->x3->Prop} (hi:aT P t k f z) (j:vs.length=k) (q:cs.length=k) (ad:∀v∈vs,v.oneCell'=true) (m:ag w g e cs)
  (h:∀w',ah (λr=>r=g) w w'->w'.heap.size=w.heap.size->ag w' g e vs->K () w'):aD P (o6 t (Γ g) (.agg vs.toArray)) w K:=
 zz hi j ad m Ω λw' h1 p a=>h w' h1 p (by rw[IT Ω] at a;exact a)
end
section
variable {P:W5} {w w' aa:x3} {t:r9} {cx cy:Bool} {k:o5} {a b:Int} {A B:Prop} {x y z:x1} {K:x1->Prop}
theorem bo:ac P (Z7 (.tuple #[x,y]) 0) w K=K x:=iw rfl
theorem bp:ac P (Z7 (.tuple #[x,y]) 1) w K=K y:=iw rfl
theorem fO:ac P (Z7 (.tuple #[x,y,z]) 0) w K=K x:=iw rfl
theorem fP:ac P (Z7 (.tuple #[x,y,z]) 1) w K=K y:=iw rfl
theorem fQ:ac P (Z7 (.tuple #[x,y,z]) 2) w K=K z:=iw rfl
theorem bH (h:a<b) (e:A):ac P (aL .lss t cx cy (.int k a) (.int k b)) w λv=>Split v A B:=by
 rw[aO,al];exact⟨λ_=>e,λf=>absurd h f⟩
theorem cp (h:¬a<b) (e:B):ac P (aL .lss t cx cy (.int k a) (.int k b)) w λv=>Split v A B:=by
 rw[aO,al];exact⟨λf=>absurd f h,λ_=>e⟩
theorem Ext.put {g:Nat} (J:Ext w w') (a:ah (λr=>r=g) w' aa) (h:w.heap.size<=g):Ext w aa:=J.then a λr e he=>by
 have he:r=g:=he;omega
theorem aH {α:Type} {l:List α} {i:Nat} (h:i<l.length):∃x,l[i]? =σ x:=⟨_,x6 h⟩
end
abbrev ak:=Nat->Prop
def ka (S:ak) (w:x3) (k:Nat) (v:x1) (n:Nat) (cs:List x1):Prop:=
 cs.length=n*k/\ ∃b o base cap,v= .slice base n cap/\n<=cap/\cap<=maxLen/\(0<n->base=σ ⟨b,o,ν⟩)/\(0<cs.length->S b)/\w.rangeAt b o cs
theorem ka.sl {S:ak} {k:Nat} (h:ka S w k v n cs):cd w k v n cs:=by
 obtain⟨h1,b,o,base,cap,a,e,f,j,_,m⟩:=h;exact⟨h1,b,o,base,cap,a,e,f,j,m⟩
theorem zF {b o:Nat} (h:w.rangeAt b o cs) (a:0<cs.length):b<w.heap.size:=by
 have:=h 0 cs[0] (x6 a);obtain⟨c,e,f,j,_⟩:=uN this;exact (n9.1 j).1
theorem ka.ab {S T:ak} {k:Nat} (h:ka S w k v n cs) (J:ah T w w') (m:∀r,r<w.heap.size->S r->¬T r):ka S w' k v n cs:=by
 obtain⟨h1,b,o,base,cap,p,q,s,x,e,f⟩:=h;refine⟨h1,b,o,base,cap,p,q,s,x,e,?_⟩;rcases R7 cs.length with a|a
 .intro j v ad;have:=(x4.1 ad).1;omega
 .exact j7 J (m b (zF f a) (e a)) f
theorem ka.mono {S T:ak} {k:Nat} (h:ka S w k v n cs) (f:∀r,r<w.heap.size->S r->T r):ka T w k v n cs:=by
 obtain⟨h1,b,o,base,cap,j,m,p,q,s,a⟩:=h;exact⟨h1,b,o,base,cap,j,m,p,q,λe=>f b (zF a e) (s e),a⟩
class ao (α:Type) where
 n:Nat
 rep:Bool->ak->ak->x3->List x1->α->Prop
 len:∀ {m S R w cs a},rep m S R w cs a->cs.length=n
 one:∀ {m S R w cs a},rep m S R w cs a-> ∀u∈cs,u.oneCell'=true
 ab:∀ {m S R T w w' cs a},rep m S R w cs a->ah T w w'->(∀r,r<w.heap.size->S r\/R r->¬T r)->rep m S R w' cs a
 mono:∀ {m S S' R R' w cs a},rep m S R w cs a->(∀r,r<w.heap.size->S r->S' r)->(∀r,r<w.heap.size->R r->R' r)->rep m S' R' w cs a
 hE:∀ {m S R w cs a},rep m S R w cs a->rep false (λ_=>False) (λr=>S r\/R r) w cs a
section
variable {α β:Type} [ao α] [ao β] {m:Bool} {S R T:ak} {w w':x3}
abbrev bE (S R:ak) (w:x3) (cs:List x1) (a:α):Prop:=ao.rep true S R w cs a
abbrev Seen (R:ak) (w:x3) (cs:List x1) (a:α):Prop:=ao.rep false (λ_=>False) R w cs a
abbrev ee:ak:=λ_=>True
theorem bI {a:α} (h:ao.rep m S R w cs a) (J:Ext w w'):ao.rep m S R w' cs a:=ao.ab h (J.ab λ_=>False) λ_ _ _ h=>h
theorem mf {a:α} (h:ao.rep m S R w cs a):ao.rep m (λr=>S r/\r<w.heap.size) R w cs a:=ao.mono h (λ_ h1 e=>⟨e,h1⟩) λ_ _ h=>h
theorem i7 {a:α} (h:ao.rep m S R w cs a):Seen ee w cs a:=ao.mono (ao.hE h) (λ_ _ h=>h.elim) λ_ _ _=>trivial
theorem pQ {a:α} {Q:ak} (h:ao.rep m S R w cs a) (e:∀r,r<w.heap.size->S r\/R r->Q r):Seen Q w cs a:=ao.mono (ao.hE h) (λ_ _ h=>h.elim) e
instance:ao Int where
 n:=1
 rep _ _ _ _ cs a:=cs=[Δ a]
 len h:=by subst h;rfl
 one h:=by subst h;intro u hu;simp at hu;subst hu;rfl
 ab h _ _:=h
 mono h _ _:=h
 hE h:=h
instance:ao Bool where
 n:=1
 rep _ _ _ _ cs a:=cs=[.bool a]
 len h:=by subst h;rfl
 one h:=by subst h;intro u hu;simp at hu;subst hu;rfl
 ab h _ _:=h
 mono h _ _:=h
 hE h:=h
instance:ao ByteArray where
 n:=1
 rep _ _ _ _ cs a:=cs=[.string a]
 len h:=by subst h;rfl
 one h:=by subst h;intro u hu;simp at hu;subst hu;rfl
 ab h _ _:=h
 mono h _ _:=h
 hE h:=h
def i9 (_:o5):Type:=Int
instance (k:o5):ao (i9 k) where
 n:=1
 rep _ _ _ _ cs a:=cs=[.int k a]
 len h:=by subst h;rfl
 one h:=by subst h;intro u hu;simp at hu;subst hu;rfl
 ab h _ _:=h
 mono h _ _:=h
 hE h:=h
def Rd (α:Type):Type:=α
instance Q3:ao (Rd α) where
 n:=ao.n α
 rep _ _ R w cs a:=ao.rep (α:=α) false (λ_=>False) R w cs a
 len h:=ao.len (α:=α) h
 one h:=ao.one (α:=α) h
 ab h J e:=ao.ab (α:=α) h J λr f h=>e r f (.inr (h.elim False.elim id))
 mono h _ j:=ao.mono (α:=α) h (λ_ _ h=>h) j
 hE h:=ao.mono (α:=α) h (λ_ _ h=>h) λ_ _ h=>.inr h
instance Q4:ao (α×β) where
 n:=ao.n α+ao.n β
 rep m S R w cs a:=∃c d A B,cs=c++d/\(∀r,A r->S r)/\(∀r,B r->S r)/\(m=true-> ∀r,A r->¬B r)/\ao.rep m A R w c a.1/\ao.rep m B R w d a.2
 len:=by
  rintro m S R w cs a ⟨c,d,A,B,rfl,_,_,_,h1,e⟩;simp[ao.len h1,ao.len e]
 one:=by
  rintro m S R w cs a ⟨c,d,A,B,rfl,_,_,_,h1,e⟩ u hu;rcases o7.1 hu with hu|hu
  .exact ao.one h1 u hu
  .exact ao.one e u hu
 ab:=by
  rintro m S R T w w' cs a ⟨c,d,A,B,rfl,j,p,s,h1,e⟩ J q;exact⟨c,d,A,B,rfl,j,p,s,ao.ab h1 J λr f h=>q r f (h.imp (j r) id),ao.ab e J λr f h=>q r f (h.imp (p r) id)⟩
 mono:=by
  rintro m S S' R R' w cs a ⟨c,d,A,B,rfl,j,p,s,h1,e⟩ q x;exact⟨c,d,λr=>A r/\r<w.heap.size,λr=>B r/\r<w.heap.size,rfl,λr h=>q r h.2 (j r h.1),λr h=>q r h.2 (p r h.1),λhm r h k=>s hm r h.1 k.1,
   ao.mono h1 (λr f h=>⟨h,f⟩) x,ao.mono e (λr f h=>⟨h,f⟩) x⟩
 hE:=by
  rintro m S R w cs a ⟨c,d,A,B,rfl,j,p,s,h1,e⟩;exact⟨c,d,λ_=>False,λ_=>False,rfl,λ_ h=>h.elim,λ_ h=>h.elim,(λh=>by cases h),ao.mono (ao.hE h1) (λ_ _ h=>h) λr _ h=>h.imp (j r) id,
   ao.mono (ao.hE e) (λ_ _ h=>h) λr _ h=>h.imp (p r) id⟩
def mg (m:Bool) (R:ak) (F:Nat->ak) (w:x3) (vs:List (List x1)) (l:List α):Prop:=
 vs.length=l.length/\ ∀ (i:Nat) (c:List x1) (a:α),vs[i]? =σ c->l[i]? =σ a->ao.rep m (F i) R w c a
structure zG (m:Bool) (S:ak) (g:Nat) (F:Nat->ak):Prop where
 sub:∀i r,F i r->S r
 top:m=true-> ∀i,¬F i g
 gC:m=true-> ∀i j r,i≠j->F i r->¬F j r
theorem mg.len {F:Nat->ak} {vs:List (List x1)} {l:List α} (h:mg m R F w vs l):∀c∈vs,c.length=ao.n α:=by
 intro c a;obtain⟨i,hi,rfl⟩:=List.mem_iff_getElem.1 a;exact ao.len (h.2 i _ _ (x6 hi) (x6 (h.1▸hi)))
theorem mg.one {F:Nat->ak} {vs:List (List x1)} {l:List α} (h:mg m R F w vs l):∀u∈vs.flatten,u.oneCell'=true:=by
 intro u hu;obtain⟨c,a,hu⟩:=List.mem_flatten.1 hu;obtain⟨i,hi,rfl⟩:=List.mem_iff_getElem.1 a;exact ao.one (h.2 i _ _ (x6 hi) (x6 (h.1▸hi))) u hu
theorem pR {k:Nat}:∀ {vs:List (List x1)},(∀c∈vs,c.length=k)->vs.flatten.length=vs.length*k
 |[],_=>Ξ
 |c::r,h=>by
  have:=pR (vs:=r) λx J=>h x (.tail _ J);simp only[List.flatten_cons,o4,this,h c (.head _),c9,U2];omega
theorem nk {k:Nat}:∀ {vs:List (List x1)},(∀c∈vs,c.length=k)-> ∀ {i j:Nat} {c:List x1},vs[i]? =σ c->j<k->vs.flatten[i*k+j]? =c[j]?
 |gR::r,h,0,j,c,a,e=>by
  simp only[List.getElem?_cons_zero,Y8] at a;subst a;rw[List.flatten_cons,Y1 (by rw[h _ (.head _)];omega)];simp
 |gR::r,h,i+1,j,c,a,e=>by
  simp only[List.getElem?_cons_succ] at a;have f:=h gR (.head _);rw[List.flatten_cons,Y2 (by rw[f,U2];omega),f,U2,show i*k+1*k+j-k=i*k+j by omega];exact nk (λx J=>h x (.tail _ J)) a e
 |[],_,i,_,c,a,_=>by simp at a
instance instList:ao (List α) where
 n:=1
 rep m S R w cs l:=∃v,cs=[v]/\ ∃ (vs:List (List x1)) (g:Nat) (F:Nat->ak),zG m S g F/\mg m R F w vs l/\ka (λr=>S r\/R r) w (ao.n α) v l.length vs.flatten/\
  (m=true->(v= .slice ν 0 0\/S g)/\ ∃e,bW w g e (ao.n α) v l.length vs.flatten)
 len:=by rintro m S R w cs a ⟨v,rfl,_⟩;rfl
 one:=by
  rintro m S R w cs a ⟨v,rfl,vs,g,F,_,_,⟨_,_,_,_,_,rfl,_⟩,_⟩ u hu;simp at hu;subst hu;rfl
 ab:=by
  rintro m S R T w w' cs a ⟨v,rfl,vs,g,F,p,he,U,hm⟩ J s;refine⟨v,rfl,vs,g,F,p,⟨he.1,λi c a y z=>ao.ab (he.2 i c a y z) J λr q h=>s r q (h.imp (p.sub i r) id)⟩,U.ab J s,λh=>?_⟩;obtain⟨h1,e,f⟩:=hm h;refine⟨h1,e,?_⟩;rcases h1 with rfl|h1
  .obtain⟨B,⟨_,x⟩|⟨_,_,x,_⟩⟩:=f
   .exact⟨B,.inl ⟨rfl,x⟩⟩
   .cases x
  .exact f.ab J λq=>s g q (.inl h1)
 mono:=by
  rintro m S S' R R' w cs a ⟨v,rfl,vs,g,F,p,he,U,hm⟩ s A;refine⟨v,rfl,vs,g,λi r=>F i r/\r<w.heap.size,⟨λi r h=>s r h.2 (p.sub i r h.1),λh i f=>p.top h i f.1,λh i j r C h1 f=>p.gC h i j r C h1.1 f.1⟩,
   ⟨he.1,λi c a y z=>ao.mono (he.2 i c a y z) (λr q h=>⟨h,q⟩) A⟩,U.mono λr q h=>h.imp (s r q) (A r q),λh=>?_⟩
  obtain⟨h1,e,f⟩:=hm h;refine⟨?_,e,f⟩;obtain⟨_,⟨x,_⟩|⟨_,_,x,E,_⟩⟩:=f
  .exact .inl x
  .rcases h1 with h1|h1
   .exact .inl h1
   .exact .inr (s g E.lt h1)
 hE:=by
  rintro m S R w cs a ⟨v,rfl,vs,g,F,p,he,U,hm⟩;exact⟨v,rfl,vs,g,λ_ _=>False,⟨λ_ _ h=>h,(λh=>by cases h),λh=>by cases h⟩,
   ⟨he.1,λi c a y z=>ao.mono (ao.hE (he.2 i c a y z)) (λ_ _ h=>h) λr _ h=>h.imp (p.sub i r) id⟩,U.mono λr _ h=>.inr h,λh=>by cases h⟩
end
section
variable {P:W5} {w:x3} {α β:Type} [ao α] [ao β] {m:Bool} {S R:ak}
theorem ja {l:List α} (h:ao.rep m S R w [v] l):∃ (vs:List (List x1)) (g:Nat) (F:Nat->ak),zG m S g F/\mg m R F w vs l/\ka (λr=>S r\/R r) w (ao.n α) v l.length vs.flatten/\
  (m=true->(v= .slice ν 0 0\/S g)/\ ∃e,bW w g e (ao.n α) v l.length vs.flatten):=by
 obtain⟨_,a,h⟩:=h;cases a;exact h
theorem gD {a:α} (h:ao.rep m S R w [v] a):v.oneCell'=true:=ao.one h v (.head _)
theorem pS {l:List α} (h:ao.rep m S R w [v] l):v.cells= #[v]:=by
 obtain⟨_,_,_,_,_,⟨_,_,_,_,_,rfl,_⟩,_⟩:=ja h;rfl
theorem pT {l:List α} (h:ao.rep m S R w [v] l):l.length<=9223372036854775807:=by
 obtain⟨_,_,_,_,_,h,_⟩:=ja h;have:=h.sl.le;simpa[maxLen] using this
theorem gE:ao.rep m S R w [.slice ν 0 0] ([]:List α):=
 ⟨_,rfl,[],0,λ_ _=>False,⟨λ_ _ h=>h.elim,λ_ _ h=>h,λ_ _ _ _ _ h=>h.elim⟩,⟨rfl,λi c a e=>by simp at e⟩,
  ⟨Ξ,0,0,ν,0,rfl,p8 _,X3 _,λh=>absurd h (Nat.lt_irrefl _),λh=>by simp at h,λj v h=>by simp at h⟩,
  λ_=>⟨.inl rfl,0,bW.nil w 0 0 _⟩⟩
theorem zH {F:Nat->ak} {vs:List (List x1)} (h:mg m R F w vs l):vs.flatten=ints .i64 l:=by
 have:vs=l.map λx=>[V2 .i64 x]:=by
  apply List.ext_getElem
  .simp[h.1]
  .intro i h1 a;have e:i<l.length:=by simpa using a
   have:=h.2 i _ _ (x6 h1) (x6 e);rw[List.getElem_map];exact this
 subst this;clear h;induction l with
 |nil=>rfl
 |cons x l f=>simp only[U7,List.flatten_cons,f];rfl
theorem dc (h:ao.rep m S R w [v] l):aF .i64 w v l:=by
 obtain⟨vs,g,F,_,he,U,_⟩:=ja h;have:=U.sl;rw[zH he] at this;exact this
theorem hL {a:r9} {l:List α} (f:P.underlying t=σ (.slice e)) (h:ao.rep m S R w [v] l):
  ac P (W8 #[t] a #[v]) w K=K (Δ l.length):=by
 obtain⟨_,_,_,_,_,⟨_,_,_,_,_,rfl,_⟩,_⟩:=ja h;exact hJ f
theorem kb {x:o5} {i b:Nat} {l:List α} {a:α} (A:y=(i:Int)) (B:P.underlying t=σ (.slice e)) (hi:aT P e (ao.n α) b z)
  (h:ao.rep m S R w [v] l) (f:l[i]? =σ a) (C:∀b o cs,w.rangeAt b o cs->ao.rep m S R w cs a->K (.pointer (σ ⟨b,o,ν⟩))):ac P (j4 t v (.int x y)) w K:=by
 subst A;obtain⟨vs,g,F,E,he,⟨_,b,o,base,cap,rfl,_,_,G,_,H⟩,_⟩:=ja h;have p:=(x4.1 f).1;rw[e5 B hi p G];obtain⟨c,q⟩:∃c,vs[i]? =σ c:=⟨_,x6 (by rw[he.1];exact p)⟩;have s:=he.2 i c a q f;have I:=ao.len s;refine C _ _ c (λj u hu=>?_) (ao.mono s (λr _ h=>E.sub i r h) λ_ _ h=>h);have J:=(x4.1 hu).1;rw[S8];refine H (i*ao.n α+j) u ?_;rw[nk he.len q Ω];exact hu
theorem hM {q:o5} {i b:Nat} {l:List α} {a:α} (r:ao.n α=1) (s:y=(i:Int)) (x:P.underlying t=σ (.slice e)) (hi:aT P e (ao.n α) b z)
  (h1:ju P e=true) (h:ao.rep m S R w [v] l) (A:l[i]? =σ a) (B:∀u,ao.rep m S R w [u] a->K u):
  ac P (j4 t v (.int q y)) w λp=>ac P (u4 e p) w K:=by
 refine kb s x hi h A λb o cs C f=>?_;have j:=ao.len f;rw[r] at j;obtain⟨u,rfl⟩:=W7.1 j;rw[ay h1 (by have:=C 0 u rfl;simpa using this)];exact B u f
theorem lI {pl:List (Nat×Nat)} {j:o5} {i b:Nat} {l:List α} {a:α} (hu:bN P e pl) (q:y=(i:Int)) (r:P.underlying t=σ (.slice e)) (hi:aT P e (ao.n α) b z)
  (h:ao.rep m S R w [v] l) (s:l[i]? =σ a) (x:∀cs,ao.rep m S R w cs a->K (.agg cs.toArray)):
  ac P (j4 t v (.int j y)) w λp=>ac P (u4 e p) w K:=by
 refine kb q r hi h s λb o cs A f=>?_;rw[bR hu hi (ao.len f) A];exact x cs f
theorem oz {g:Nat} {k:Nat} (h:bW w g e k v n xs) (a:v= .slice ν 0 0\/S g):ka S w k v n xs:=by
 obtain⟨h1,⟨rfl,rfl⟩|⟨cap,cs,rfl,f,m,p,r,q⟩⟩:=h
 .have:xs=[]:=j5 (by simpa using h1);subst this;exact⟨Ξ,0,0,ν,0,rfl,p8 _,X3 _,λh=>absurd h (Nat.lt_irrefl _),λh=>by simp at h,λj v h=>by simp at h⟩
 .refine⟨h1,g,0,_,cap,rfl,m,p,λ_=>rfl,λ_=>a.resolve_left Ξ,λj v ad=>?_⟩;rw[X0];have s:=(x4.1 ad).1;rw[<-q,Z8 Ω] at ad;exact f.cell ad
open Classical in
theorem IU {Q W X:r9} {b:Nat} {x:x1} {us:List (List x1)} {l l':List α} {G:Nat->ak} {K:x1->x3->Prop} (Y:P.underlying t=σ (.slice e)) (Z:P.underlying Q=σ (.slice W)) (hi:aT P e (ao.n α) b z) (aa:z.cells.size=ao.n α)
  (h:bE S R w [v] l) (J:cd w (ao.n α) x l'.length us.flatten) (H:mg true R G w us l') (ac:∀i j r,i≠j->G i r->¬G j r)
  (B:∀r,r<w.heap.size->S r->(∀i,¬G i r)/\¬R r) (ae:(l.length+l'.length)*b<=140737488355328) (af:l.length+l'.length<=9223372036854775807)
  (ag:∀m w',bE (λr=>S r\/(∃i,G i r)\/w.heap.size<=r) R w' [m] (l++l')->ah S w w'->K m w'):aD P (b9 #[t,Q] X #[v,x]) w K:=by
 obtain⟨vs,g,F,s,he,U,hm⟩:=ja h;obtain⟨I,an,T⟩:=hm rfl;refine zA Y Z hi aa T J H.one ae (by simpa[maxLen] using af) ?_;intro m C w' ai aj L M;have N:∀r,r=g/\v≠ .slice ν 0 0->S r:=λr ⟨h1,f⟩=>h1▸I.resolve_left f;have al:=T;have O:(m= .slice ν 0 0)\/(C=g/\S g/\g<w.heap.size)\/C=w.heap.size:=by
  rcases aj with⟨h1,_,f|f⟩|⟨h1,_⟩
  .rcases I with p|p
   .exact .inl (f▸p)
   .obtain⟨_,⟨q,_⟩|⟨_,_,_,q,_⟩⟩:=al
    .exact .inl (f▸q)
    .exact .inr (.inl ⟨h1,p,q.lt⟩)
  .exact .inr (.inl ⟨h1,I.resolve_left f.2,f.1⟩)
  .exact .inr (.inr h1)
 refine ag m w' ⟨m,rfl,vs++us,if m= .slice ν 0 0 then w.heap.size else C,λi r=>if i<l.length then F i r/\r<w.heap.size else G (i-l.length) r/\r<w.heap.size,⟨λi r h=>?_,λ_ i h=>?_,λ_ i j r am h1 f=>?_⟩,⟨by simp[he.1,H.1],λi c a hi E=>?_⟩,?_,λ_=>⟨?_,ai,?_⟩⟩ (M.mono λr _ h=>N r h)
 .split at h
  .exact .inl (s.sub i r h.1)
  .exact .inr (.inl ⟨_,h.1⟩)
 .have y:(if m= .slice ν 0 0 then w.heap.size else C)<w.heap.size:=by split at h<;>exact h.2
  split at y
  .omega
  .rename_i ad;rw[if_neg ad] at h;rcases O with h1|⟨rfl,f,p⟩|h1
   .exact ad h1
   .split at h
    .exact s.top rfl i h.1
    .exact (B _ p f).1 _ h.1
   .omega
 .split at h1<;>split at f
  .exact s.gC rfl i j r am h1.1 f.1
  .exact (B r h1.2 (s.sub i r h1.1)).1 _ f.1
  .exact (B r h1.2 (s.sub j r f.1)).1 _ h1.1
  .exact ac (i-l.length) (j-l.length) r Ω h1.1 f.1
 .have V:∀r,r<w.heap.size->R r->¬(r=g/\v≠ .slice ν 0 0):=λr A h1 f=>(B r A (N r f)).2 h1;by_cases y:i<l.length
  .rw[Y1 (by rw[he.1];exact y)] at hi;rw[Y1 y] at E;simp only[if_pos y];refine ao.ab (mf (he.2 i c a hi E)) M λr A h1 f=>?_;rcases h1 with h1|h1
   .exact s.top rfl i (f.1▸h1.1)
   .exact V r A h1 f
  .rw[Y2 (by rw[he.1];omega),he.1] at hi;rw[Y2 Ω] at E;simp only[if_neg y];refine ao.ab (mf (H.2 _ c a hi E)) M λr A h1 f=>?_;rcases h1 with h1|h1
   .exact (B r A (N r f)).1 _ h1.1
   .exact V r A h1 f
 .rw[o4,List.flatten_append];refine oz L ?_;rcases O with h1|⟨rfl,f,_⟩|rfl
  .exact .inl h1
  .exact .inr (.inl (.inl f))
  .exact .inr (.inl (.inr (.inr (p8 _))))
 .rcases O with h1|⟨rfl,f,_⟩|rfl
  .exact .inl h1
  .by_cases ad:m= .slice ν 0 0
   .exact .inl ad
   .rw[if_neg ad];exact .inr (.inl f)
  .split
   .exact .inr (.inr (.inr (p8 _)))
   .exact .inr (.inr (.inr (p8 _)))
 .rw[o4,List.flatten_append];by_cases ad:m= .slice ν 0 0
  .subst ad;obtain⟨p,⟨_,q⟩|⟨_,_,q,_⟩⟩:=L
   .exact⟨p,.inl ⟨rfl,q⟩⟩
   .cases q
  .rw[if_neg ad];exact L
theorem nl {E:r9} {b:Nat} {x:x1} {l:List α} {a:α} {A:ak} {K:x1->x3->Prop} (y:P.underlying t=σ (.slice e)) (hi:aT P e (ao.n α) b z) (F:z.cells.size=ao.n α)
  (h:bE S R w [v] l) (J:cd w (ao.n α) x 1 cs) (H:bE A R w cs a) (B:∀r,r<w.heap.size->S r->¬(A r\/R r)) (f:(l.length+1)*b<=140737488355328) (I:l.length+1<=9223372036854775807)
  (L:∀m w',bE (λr=>S r\/A r\/w.heap.size<=r) R w' [m] (l++[a])->ah S w w'->K m w'):aD P (b9 #[t,t] E #[v,x]) w K:=by
 refine IU (l':=[a]) (us:=[cs]) (G:=λi r=>i=0/\A r) y y hi F h (by simpa using J) ⟨rfl,λi c b p f=>?_⟩ (λi j r M h1 q=>M (h1.1.trans q.1.symm)) (λr C U=>⟨λi h=>B r C U (.inl h.2),λh=>B r C U (.inr h)⟩) (by simpa using f) (by simpa using I)
  λm w' h1 q=>L m w' (ao.mono h1 (λr _ h=>h.imp id (Or.imp (λ⟨_,h⟩=>h.2) id)) λ_ _ h=>h) q
 have s:=(x4.1 p).1;have s:i=0:=by simpa using s
 subst s;simp at p f;subst p f;exact ao.mono H (λr _ h=>⟨rfl,h⟩) λ_ _ h=>h
end
theorem zI:∀ (c:List x1) (i:Nat) (z:Array x1),(i+c.length<=z.size)->((c.zipIdx i).foldl (λcs (x:x1×Nat)=>cs.setIfInBounds x.2 x.1) z).toList=z.toList.take i++c++z.toList.drop (i+c.length)
 |[],i,z,h=>Ξ
 |x::r,i,z,h=>by
  simp only[c9] at h;rw[List.zipIdx_cons,U8,zI r (i+1) _ Θ];simp only[Array.toList_setIfInBounds,c9];rw[List.drop_set_of_lt Ω,List.take_set,u9,x6 Θ];simp only[o9];rw[T2 _ _ Θ];have e:i-(z.toList.take i).length=0:=Θ
  rw[e,show i+1+r.length=i+(r.length+1) by omega];simp
theorem zJ {k:Nat} {z:Array x1} (a:z.size=k) (ad:v.cells.size=k):Instr.fill (λj=>σ (j*k,k)) z [(0,v)]=σ v.cells:=by
 have h:=zI v.cells.toList 0 z Θ;simp only[Instr.fill,Nat.zero_mul,X0];rw[if_neg Θ];congr 1;apply Array.toList_inj.1;rw[<-Array.foldl_toList,Array.toList_zipIdx,h];simp;omega
section
variable {P:W5} {w:x3} {α β:Type} [ao α] [ao β] {m:Bool} {S R:ak}
theorem kc {b:Nat} {x:x1} {a:α} {A:ak} {K:x1->x3->Prop} (y:P.underlying t=σ (.slice e)) (hi:aT P e (ao.n α) b z) (I:ao.n α<=100000)
  (J:x.cells=cs.toArray) (p:bE A R w cs a)
  (B:∀v w',Ext w w'->bE (λr=>A r\/w.heap.size<=r) R w' [v] [a]->cd w' (ao.n α) v 1 cs->K v w'):aD P (Y4 t 1 #[(0,x)]) w K:=by
 have C:=ao.len p;refine j8 y hi Ω (cs:=x.cells) (zJ Ξ (by rw[J];simpa using C)) λg w' L q f=>?_;have f:ag w' g e cs:=by rw[J] at f;simpa using f
 have hm:bW w' g e (ao.n α) (.slice (σ ⟨g,0,ν⟩) 1 1) 1 cs:=bW.full f Ω (by simp[maxLen]);refine B _ w' q ⟨_,rfl,[cs],g,λi r=>i=0/\A r/\r<w.heap.size,⟨λi r h=>.inl h.2.1,λ_ i h=>Ω,λ_ i j r E h1 F=>E (h1.1.trans F.1.symm)⟩,⟨rfl,λi c a' m s=>?_⟩,?_,λ_=>⟨.inr (.inr Ω),e,by simpa using hm⟩⟩ hm.sl
 .have G:i=0:=by simpa using (x4.1 m).1
  subst G;simp at m s;subst m s;exact bI (ao.mono p (λr H h=>⟨rfl,h,H⟩) λ_ _ h=>h) q
 .have:=oz (S:=λr=>(A r\/w.heap.size<=r)\/R r) hm (.inr (.inl (.inr Ω)));simpa using this
end
theorem cz.range {B:x1->x3->(x1->x3->Prop)->Prop} (n:Nat) (I:Nat->x3->Prop)
  (m:n<=9223372036854775807) (e:I 0 w)
  (f:∀ (i:Nat) (w:x3) (k:x1->x3->Prop),i<n->I i w->(∀w',I (i+1) w'->k (Δ (X2.wrap ((i:Int)+1))) w')->B (Δ (i:Int)) w k)
  (j:∀ (w:x3) (k:x1->x3->Prop),I n w->B (Δ (n:Int)) w k):cz (Δ 0) w B:=by
 refine⟨λt w=>∃i:Nat,t=Δ (i:Int)/\i<=n/\I i w,λt _=>n-(bX t).toNat,⟨0,rfl,X3 _,e⟩,?_⟩;rintro _ w ⟨i,rfl,hi,h⟩;by_cases a:i<n
 .refine f i w _ a h λw' h'=>⟨⟨i+1,?_,a,h'⟩,?_⟩
  .rw[wrap_i64 Ω Ω];rfl
  .rw[wrap_i64 Ω Ω];simp only[bX];omega
 .have:i=n:=Ω
  subst this;exact j w _ h
theorem bZ.range {a:x1} {B:x1->x1->x3->(x1->x1->x3->Prop)->Prop} (n:Nat) (I:Nat->x1->x3->Prop)
  (p:n<=9223372036854775807) (f:I 0 a w)
  (j:∀ (i:Nat) (a:x1) (w:x3) (k:x1->x1->x3->Prop),i<n->I i a w->(∀a' w',I (i+1) a' w'->k a' (Δ (X2.wrap ((i:Int)+1))) w')->B a (Δ (i:Int)) w k)
  (m:∀ (a:x1) (w:x3) (k:x1->x1->x3->Prop),I n a w->B a (Δ (n:Int)) w k):bZ a (Δ 0) w B:=by
 refine⟨λa t w=>∃i:Nat,t=Δ (i:Int)/\i<=n/\I i a w,λa t _=>n-(bX t).toNat,⟨0,rfl,X3 _,f⟩,?_⟩;rintro a _ w ⟨i,rfl,hi,h⟩;by_cases e:i<n
 .refine j i a w _ e h λa' w' h'=>⟨⟨i+1,?_,e,h'⟩,?_⟩
  .rw[wrap_i64 Ω Ω];rfl
  .rw[wrap_i64 Ω Ω];simp only[bX];omega
 .have:i=n:=Ω
  subst this;exact m a w _ h
theorem jZ.range {a b:x1} {B:x1->x1->x1->x3->(x1->x1->x1->x3->Prop)->Prop} (n:Nat) (I:Nat->x1->x1->x3->Prop)
  (q:n<=9223372036854775807) (j:I 0 a b w)
  (m:∀ (i:Nat) (a b:x1) (w:x3) (k:x1->x1->x1->x3->Prop),i<n->I i a b w->(∀a' e w',I (i+1) a' e w'->k a' e (Δ (X2.wrap ((i:Int)+1))) w')->B a b (Δ (i:Int)) w k)
  (p:∀ (a b:x1) (w:x3) (k:x1->x1->x1->x3->Prop),I n a b w->B a b (Δ (n:Int)) w k):jZ a b (Δ 0) w B:=by
 refine⟨λa b t w=>∃i:Nat,t=Δ (i:Int)/\i<=n/\I i a b w,λa b t _=>n-(bX t).toNat,⟨0,rfl,X3 _,j⟩,?_⟩;rintro a b _ w ⟨i,rfl,hi,h⟩;by_cases f:i<n
 .refine m i a b w _ f h λa' e w' h'=>⟨⟨i+1,?_,f,h'⟩,?_⟩
  .rw[wrap_i64 Ω Ω];rfl
  .rw[wrap_i64 Ω Ω];simp only[bX];omega
 .have:i=n:=Ω
  subst this;exact p a b w _ h
theorem rm.range {a b c:x1} {B:x1->x1->x1->x1->x3->(x1->x1->x1->x1->x3->Prop)->Prop} (n:Nat) (I:Nat->x1->x1->x1->x3->Prop)
  (r:n<=9223372036854775807) (m:I 0 a b c w)
  (p:∀ (i:Nat) (a b c:x1) (w:x3) (k:x1->x1->x1->x1->x3->Prop),i<n->I i a b c w->(∀a' e f w',I (i+1) a' e f w'->k a' e f (Δ (X2.wrap ((i:Int)+1))) w')->B a b c (Δ (i:Int)) w k)
  (q:∀ (a b c:x1) (w:x3) (k:x1->x1->x1->x1->x3->Prop),I n a b c w->B a b c (Δ (n:Int)) w k):rm a b c (Δ 0) w B:=by
 refine⟨λa b c t w=>∃i:Nat,t=Δ (i:Int)/\i<=n/\I i a b c w,λa b c t _=>n-(bX t).toNat,⟨0,rfl,X3 _,m⟩,?_⟩;rintro a b c _ w ⟨i,rfl,hi,h⟩;by_cases j:i<n
 .refine p i a b c w _ j h λa' e f w' h'=>⟨⟨i+1,?_,j,h'⟩,?_⟩
  .rw[wrap_i64 Ω Ω];rfl
  .rw[wrap_i64 Ω Ω];simp only[bX];omega
 .have:i=n:=Ω
  subst this;exact q a b c w _ h
theorem pz.range {a b c d:x1} {B:x1->x1->x1->x1->x1->x3->(x1->x1->x1->x1->x1->x3->Prop)->Prop} (n:Nat) (I:Nat->x1->x1->x1->x1->x3->Prop)
  (s:n<=9223372036854775807) (p:I 0 a b c d w)
  (q:∀ (i:Nat) (a b c d:x1) (w:x3) (k:x1->x1->x1->x1->x1->x3->Prop),i<n->I i a b c d w->(∀a' e f j w',I (i+1) a' e f j w'->k a' e f j (Δ (X2.wrap ((i:Int)+1))) w')->B a b c d (Δ (i:Int)) w k)
  (r:∀ (a b c d:x1) (w:x3) (k:x1->x1->x1->x1->x1->x3->Prop),I n a b c d w->B a b c d (Δ (n:Int)) w k):pz a b c d (Δ 0) w B:=by
 refine⟨λa b c d t w=>∃i:Nat,t=Δ (i:Int)/\i<=n/\I i a b c d w,λa b c d t _=>n-(bX t).toNat,⟨0,rfl,X3 _,p⟩,?_⟩;rintro a b c d _ w ⟨i,rfl,hi,h⟩;by_cases m:i<n
 .refine q i a b c d w _ m h λa' e f j w' h'=>⟨⟨i+1,?_,m,h'⟩,?_⟩
  .rw[wrap_i64 Ω Ω];rfl
  .rw[wrap_i64 Ω Ω];simp only[bX];omega
 .have:i=n:=Ω
  subst this;exact r a b c d w _ h
section
variable {P:W5} {w:x3} {m:Bool} {S R:ak}
theorem IV (l:Λ):(l.map λx=>[V2 k x]).flatten=ints k l:=by
 induction l with
 |nil=>rfl
 |cons x l a=>simp only[U7,List.flatten_cons,a];rfl
theorem nn {g:Nat} (h:au .i64 e w g v l):bE (λr=>r=g) R w [v] l:=by
 have af:(l.map λx=>[V2 .i64 x]).flatten=ints .i64 l:=IV l;refine⟨v,rfl,l.map λx=>[Δ x],g,λ_ _=>False,⟨λ_ _ h=>h.elim,λ_ _ h=>h,λ_ _ _ _ _ h=>h.elim⟩,⟨Ξ,λi c a f j=>?_⟩,?_,λ_=>⟨.inr rfl,e,?_⟩⟩
 .rw[x8,j] at f;simp at f;exact f.symm
 .rw[af];exact oz h (.inr (.inl rfl))
 .rw[af];exact h
def i9.val (x:i9 k):Int:=x
theorem zK (h:bE S R w [v] l):∃g e,au .i64 e w g v l/\(v= .slice ν 0 0\/S g):=by
 obtain⟨vs,g,F,_,he,U,hm⟩:=ja h;obtain⟨h1,e,a⟩:=hm rfl;rw[zH he] at a;exact⟨g,e,a,h1⟩
end
end Go.Vc
namespace Go.Proofs.YtmgflbkdggdhoaaGreatDoor
open Go Go.Vc Go.RowKit Go.Proofs Go.Proofs.Tryz
set_option maxRecDepth 100000
def right (k:Int):Prop:=1<=k/\k<=2147483648
def cq (a k:Int):Prop:=right k/\0<=a/\a<=k
instance (k:Int):Decidable (right k):=by unfold right;infer_instance
instance (a k:Int):Decidable (cq a k):=by unfold cq;infer_instance
theorem zL {k:Int}:am x7 HT [Δ k] w λv w'=>v= .bool (decide (right k))/\Ext w w':=by
 refine az func186 ?_;simp only[cv,cP,md,al];refine⟨λh=>⟨?_,Ext.refl _⟩,λh=>⟨?_,Ext.refl _⟩⟩
 .congr 1;simp[right,h]
 .rw[decide_eq_false];intro a;exact h a.1
theorem jy {k:Int}:am x7 Hg [Δ a,Δ k] w λv w'=>v= .bool (decide (cq a k))/\Ext w w':=by
 refine az func135 ?_;simp only[cv];refine zL.mono ?_;rintro _ V _ ⟨rfl,J⟩;simp only[cP,md,al];refine⟨λh=>⟨λe=>⟨?_,J⟩,λe=>⟨?_,J⟩⟩,λh=>⟨?_,J⟩⟩
 .congr 1;simp[cq,h,e]
 .rw[decide_eq_false];intro f;exact e f.2.1
 .rw[decide_eq_false];intro f;exact h f.1
theorem IW {k:Int}:am x7 HJ [Δ k] w λv w'=>v= .bool (decide (right k))/\Ext w w':=by
 refine az func174 ?_;simp only[cv,bU,md,al];refine⟨λh=>⟨?_,Ext.refl _⟩,λh=>⟨?_,Ext.refl _⟩⟩
 .congr 1;have h':1<=k:=Ω
  simp[right,h']
 .rw[decide_eq_false];intro a;have:=a.1;omega
theorem zM {k:Int}:am x7 GN [Δ a,Δ k] w λv w'=>v= .bool (decide (cq a k))/\Ext w w':=by
 refine az func104 ?_;simp only[cv];refine IW.mono ?_;rintro _ V _ ⟨rfl,J⟩;simp only[cP,md,al];refine⟨λh=>⟨λe=>⟨?_,J⟩,λe=>⟨?_,J⟩⟩,λh=>⟨?_,J⟩⟩
 .congr 1;simp[cq,h,e]
 .rw[decide_eq_false];intro f;exact e f.2.1
 .rw[decide_eq_false];intro f;exact h f.1
def aN:Λ->Int
 |[]=>1
 |x::r=>x*aN r
theorem zN:∀ (a b:Λ),aN (a++b)=aN a*aN b
 |[],b=>by simp[aN]
 |x::a,b=>by simp[aN,zN a b,Int.mul_assoc]
theorem rV {i:Nat} {x:Int} (h:l[i]? =σ x):aN (l.take (i+1))=aN (l.take i)*x:=by
 rw[u9,h,zN];simp[aN]
def b1 (l:Λ):Prop:=l.length<=6/\ ∀x∈l,1<=x/\x<=32
theorem b1.take (h:b1 l) (i:Nat):b1 (l.take i):=⟨by rw[j6];have:=h.1;omega,λx J=>h.2 x (T4 J)⟩
theorem b1.drop (h:b1 l) (i:Nat):b1 (l.drop i):=⟨by rw[List.length_drop];have:=h.1;omega,λx J=>h.2 x (List.mem_of_mem_drop J)⟩
theorem mh:∀ (l:Λ),(∀x∈l,1<=x/\x<=32)->1<=aN l/\aN l<=32 ^ l.length
 |[],_=>by simp[aN]
 |x::r,h=>by
  obtain⟨h1,a⟩:=mh r λy e=>h y (.tail _ e);obtain⟨f,j⟩:=h x (.head _);simp only[aN,c9];constructor
  .have:=Int.mul_le_mul f h1 Ω Ω;simpa using this
  .have:=Int.mul_le_mul j a Ω Ω;rw[Int.pow_succ];rw[Int.mul_comm (32 ^ r.length) 32];exact this
theorem prod_bound (h:b1 l):1<=aN l/\aN l<=1073741824:=by
 obtain⟨h1,a⟩:=mh l h.2;refine⟨h1,Int.le_trans a ?_⟩;have:(32:Int) ^ l.length<=32 ^ 6:=by
  have e:=h.1
  match l.length,e with
  |0,_=>decide
  |1,_=>decide
  |2,_=>decide
  |3,_=>decide
  |4,_=>decide
  |5,_=>decide
  |6,_=>decide
 simpa using this
def ci:Λ->Λ->Int->Option Int
 |[],[],n=>σ n
 |k::s,v::t,n=>if 0<=v/\v<k then ci s t (n*k+v) else ν
 |_,_,_=>ν
theorem uT:∀ (s t:Λ) (n:Int),s.length≠t.length->ci s t n=ν
 |[],[],_,h=>absurd rfl h
 |[],_::_,_,_=>rfl
 |_::_,[],_,_=>rfl
 |k::s,v::t,n,h=>by
  unfold ci;split
  .exact uT s t _ (by simpa using h)
  .rfl
def cS:Λ->Int->Λ
 |[],_=>[]
 |k::s,n=>(n / aN s) % k::cS s n
theorem jb:∀ (s:Λ) (n:Int),(cS s n).length=s.length
 |[],_=>rfl
 |_::s,n=>by simp[cS,jb s n]
theorem zO:∀ {s:Λ} {n:Int} {i:Nat} {k:Int},s[i]? =σ k->(cS s n)[i]? =σ ((n / aN (s.drop (i+1))) % k)
 |a::s,n,0,k,h=>by simp at h;subst h;simp[cS]
 |a::s,n,i+1,k,h=>by
  simp only[List.getElem?_cons_succ] at h;simp only[cS,List.getElem?_cons_succ,List.drop_succ_cons];exact zO h
theorem np:∀ {s t:Λ} {m n:Int},(∀x∈s,1<=x/\x<=32)->ci s t m=σ n->m*aN s<=n/\n<(m+1)*aN s
 |[],[],m,n,_,h=>by simp[ci] at h;subst h;simp[aN];omega
 |k::s,v::t,m,n,U,h=>by
  unfold ci at h;split at h
  .rename_i ad;have a:=np (λx J=>U x (.tail _ J)) h;have j:=(mh s λx J=>U x (.tail _ J)).1;simp only[aN];have e:m*(k*aN s)=m*k*aN s:=(Int.mul_assoc _ _ _).symm;have f:(m+1)*(k*aN s)=(m*k+k)*aN s:=by rw[<-Int.mul_assoc,Int.add_mul,Int.one_mul]
   rw[e,f];constructor
   .refine Int.le_trans ?_ a.1;exact Int.mul_le_mul_of_nonneg_right Ω Ω
   .refine Int.lt_of_lt_of_le a.2 ?_;exact Int.mul_le_mul_of_nonneg_right Ω Ω
  .cases h
 |[],_::_,_,_,_,h=>by cases h
 |_::_,[],_,_,_,h=>by cases h
def bi:Λ->List (Λ)
 |[]=>[[]]
 |k::s=>(X4 k.toNat).flatMap λ(v:Nat)=>(bi s).map λt=>(v:Int)::t
theorem h3:∀ {s:Λ},(∀x∈s,1<=x/\x<=32)->(bi s).length=(aN s).toNat
 |[],_=>rfl
 |k::s,h=>by
  have a:=h3 (s:=s) λx J=>h x (.tail _ J);have hk:=h k (.head _);have e:=(mh s λx J=>h x (.tail _ J)).1;simp only[bi,aN,List.length_flatMap,u7,a];rw[List.map_const',List.length_range,List.sum_replicate_nat,Int.toNat_mul Ω Ω]
theorem rW:∀ {s x:Λ},x∈bi s->x.length=s.length
 |[],x,h=>by simp[bi] at h;subst h;rfl
 |k::s,x,h=>by
  simp only[bi,List.mem_flatMap,l9] at h;obtain⟨v,_,t,a,rfl⟩:=h;simp[rW a]
theorem uU {s x:Λ} (h:(bi s)[j]? =σ x):x.length=s.length:=rW (x5 h)
theorem oA (h:aF .i64 w sv l) (U:b1 l):
  am x7 Ib [.agg #[sv]] w λv w'=>v=Δ (aN l)/\Ext w w':=by
 refine az func218 ?_;refine be λg w0 m e f=>?_;rw[aM bA.p 0 f rfl,aW an.u (h.ext e)];refine⟨λn t V=>Ext w V/\ ∃i:Nat,t=Δ i/\i<=l.length/\n=Δ (aN (l.take i)),λ_ t _=>l.length-(bX t).toNat,⟨e,0,rfl,X3 _,rfl⟩,?_⟩;rintro _ _ V ⟨J,i,rfl,hi,rfl⟩;have q:=U.1;simp only[aO,al];refine⟨λr=>?_,λs=>⟨?_,J⟩⟩
 .obtain⟨x,a⟩:=aH (l:=l) (i:=i) Ω;rw[bc an.u ai.i Ψ (h.ext J) a];have j:=prod_bound (U.take (i+1));rw[rV a] at j;simp only[hI,aP];rw[wrap_i64 Ω Ω,wrap_i64 Ω Ω,<-rV a];refine⟨⟨J,i+1,rfl,Ω,rfl⟩,?_⟩;simp only[bX];omega
 .have:i=l.length:=Ω
  rw[this,p9]
theorem IX {i:Nat} (h:aF .i64 w sv l) (U:b1 l) (hi:i<l.length):
  am x7 IE [.agg #[sv],Δ i] w λv w'=>v=Δ (aN (l.drop (i+1)))/\Ext w w':=by
 have B:=U.1;refine az func266 ?_;refine be λg w0 C f j=>?_;have a:=h.ext f;simp only[cv,aO,al];refine⟨λE=>Ω,λ_=>?_⟩;rw[aM bA.p 0 j rfl,aW an.u a];simp only[cP,al];refine⟨λG=>Ω,λ_=>?_⟩;rw[aM bA.p 0 j rfl];simp only[aP];have r:X2.wrap ((i:Int)+1)=((i+1:Nat):Int):=by rw[wrap_i64 Ω Ω];omega
 rw[r];have s:=a;obtain⟨_,b,o,base,cap,rfl,H,I,J,K⟩:=id a;rw[hK an.u ai.i (l:=i+1) (h:=l.length) (m:=cap) pN jw fz Ω Ω Ω];have e:=cd.part (l:=i+1) (h:=l.length) (m:=cap) s Ω Ω Ω Ω;generalize y:(x1.slice (if cap=i+1 then base else V5 (λx=>x.add ((i+1)*1)) base) (l.length-(i+1)) (cap-(i+1)))=q at e ⊢;have z:((ints .i64 l).drop ((i+1)*1)).take ((l.length-(i+1))*1)=ints .i64 (l.drop (i+1)):=by
  rw[b8 Ξ,U1,ints,<-List.map_drop]
 rw[z] at e;rw[dn (cs:=#[q]) (by subst y;kernel_rfl)];refine (oA (aF.of e) (U.drop (i+1))).mono ?_;rintro _ aa _ ⟨rfl,A⟩;exact⟨rfl,f.trans A⟩
def kP (s t:Λ):x1:=match ci s t 0 with
 |some n=>.tuple #[Δ n,Δ 0]
 |none=>.tuple #[Δ 0,Δ 3]
theorem zP {s t:Λ} (h:aF .i64 w sv s) (j:aF .i64 w aI t) (U:b1 s):
  am x7 HR [.agg #[sv],aI] w λv w'=>v=kP s t/\Ext w w':=by
 have G:=U.1;refine az func184 ?_;refine be λg w0 H a q=>?_;rw[aW an.u (j.ext a),aM bA.p 0 q rfl,aW an.u (h.ext a)];simp only[bm,al];refine⟨λI=>⟨?_,a⟩,λy=>?_⟩
 .unfold kP;rw[uT _ _ _ Ω]
 .have y:s.length=t.length:=Ω
  rw[aW an.u (j.ext a)];refine⟨λ_ _ n c V=>Ext w0 V/\ ∃ (i:Nat) (m:Int),c=Δ i/\i<=t.length/\n=Δ m/\0<=m/\m<aN (s.take i)/\ci s t 0=ci (s.drop i) (t.drop i) m,λ_ _ _ c _=>t.length-(bX c).toNat,
   ⟨Ext.refl _,0,0,rfl,X3 _,rfl,Int.le_refl _,by simp[aN],rfl⟩,?_⟩
  rintro _ _ _ _ V ⟨f,i,m,rfl,hi,rfl,z,K,e⟩;have J:=a.trans f;simp only[aO,al];refine⟨λL=>?_,λM=>⟨?_,J⟩⟩
  .obtain⟨v,ad,A⟩:∃v,t[i]? =σ v/\t.drop i=v::t.drop (i+1):=⟨t[i],x6 Ω,X5 Ω⟩;obtain⟨k,hk,B⟩:∃k,s[i]? =σ k/\s.drop i=k::s.drop (i+1):=⟨s[i],x6 Ω,X5 Ω⟩;rw[A,B] at e;have C:=prod_bound (U.take (i+1));have N:=prod_bound (U.take i);have O:=U.2 k (x5 hk);rw[rV hk] at C;have r:¬(0<=v/\v<k)->kP s t= .tuple #[Δ 0,Δ 3]:=λE=>by unfold kP;rw[e];simp[ci,E]
   rw[bc an.u ai.i Ψ (j.ext J) ad];simp only[cv,aO,al,bQ];refine⟨λP=>⟨(r Ω).symm,J⟩,λQ=>?_⟩;rw[aM bA.p 0 (q.ext f) rfl,bc an.u ai.i Ψ (h.ext J) hk];simp only[cP,al];refine⟨λR=>⟨(r Ω).symm,J⟩,λS=>?_⟩;rw[aM bA.p 0 (q.ext f) rfl,bc an.u ai.i Ψ (h.ext J) hk];have W:0<=m*k/\m*k+k<=aN (s.take i)*k:=by
    constructor
    .exact Int.mul_nonneg z Ω
    .have:=Int.mul_le_mul_of_nonneg_right (show m+1<=aN (s.take i) by omega) (show 0<=k by omega);rw[Int.add_mul,Int.one_mul] at this;exact this
   simp only[hI,aP];rw[wrap_i64 (x:=m*k) Ω Ω,wrap_i64 (x:=m*k+v) Ω Ω,wrap_i64 (x:=(i:Int)+1) Ω Ω];refine⟨⟨f,i+1,m*k+v,rfl,Ω,rfl,Ω,by rw[rV hk];omega,?_⟩,?_⟩
   .rw[e];simp[ci,show 0<=v/\v<k from⟨Ω,Ω⟩]
   .simp only[bX];omega
  .have:i=t.length:=Ω
   rw[this,List.drop_of_length_le Ω,List.drop_of_length_le Ω] at e;unfold kP;rw[e];rfl
theorem IY {r s:x1} {e:Nat} {a b:Λ} (h1:cd w 1 r e (ints .i64 a)) (z:cd w 1 s h (ints .i64 b)):
  am x7 yU [r,s] w λv w'=>v= .bool (decide (a=b))/\Ext w w':=by
 have O:a.length=e:=by simpa using h1.1
 have P:b.length=h:=by simpa using z.1
 have A:=h1.le;obtain⟨_,Q,R,S,U,rfl,W,X,E,G⟩:=h1;obtain⟨_,Y,Z,ab,ac,rfl,ad,ae,H,I⟩:=z;refine az func12 ?_;simp only[hJ an.u,bm,al];refine⟨λB=>⟨?_,Ext.refl _⟩,λC=>?_⟩
 .rw[decide_eq_false];rintro rfl;omega
 .have C:e=h:=Ω
  refine⟨λt4 j V=>Ext w V/\ ∃i:Nat,j=Δ i/\i<=e/\a.take i=b.take i,λ_ j _=>e-(bX j).toNat,⟨Ext.refl _,0,rfl,X3 _,rfl⟩,?_⟩;rintro t4 _ V ⟨J,i,rfl,hi,m⟩;simp only[aO,al,er];refine⟨λp aa K _ _=>?_,λaf=>⟨?_,J⟩⟩
  .have p:i<e:=Ω
   have J:=J.trans K;obtain⟨x,q⟩:=aH (l:=a) (i:=i) Ω;obtain⟨y,f⟩:=aH (l:=b) (i:=i) Ω;have L:=iv J (G i _ (kO q));have M:=iv J (I i _ (kO f));rw[e5 an.u ai.i p E,U1,ay Ψ L,e5 an.u ai.i (C▸p) H,U1,ay Ψ M];simp only[bm,al,aP];refine⟨λB=>⟨?_,J⟩,λag=>⟨⟨J,i+1,?_,Ω,uR m q f Ω⟩,?_⟩⟩
   .rw[decide_eq_false];rintro rfl;rw[q] at f;cases f;exact B rfl
   .rw[wrap_i64 Ω (by simp only[maxLen] at A;omega)];rfl
   .rw[wrap_i64 Ω (by simp only[maxLen] at A;omega)];simp only[bX];omega
  .have N:i=e:=Ω
   subst N;rw[decide_eq_true];rw[b8 Ω,b8 Ω] at m;exact m
theorem IZ {s:x1} {a:Λ} (h1:cd w 1 s n (ints .i64 a)) (z:n<=1000000):
  am x7 yZ [s] w λv w'=>Ext w w'/\ ∃g,w.heap.size<=g/\bW w' g ai 1 v n (ints .i64 a):=by
 have f:=h1;obtain⟨j,A,B,C,E,rfl,G,H,m,I⟩:=h1;refine az func47 ?_;simp only[ox an.u,ce];refine⟨λe=>⟨Ext.refl _,w.heap.size,p8 _,?_⟩,λ_=>?_⟩
 .have:n=0:=by
   rcases R7 n with h|h
   .exact h
   .rw[m h] at e;cases e
  subst this;have:ints .i64 a=[]:=j5 (by simpa using j);rw[this];exact bW.nil _ _ _ _
 .refine j8 an.u ai.i Ω (cs:=#[]) Ψ ?_;intro g V K J p;refine nj (g:=g) an.u an.u ai.i rfl (bW.full p rfl Ω) (f.ext J) (pP _ _) Ω (by simp only[maxLen];omega) ?_;intro L q aa M x y;refine⟨J.then y (by rintro r N rfl;omega),q,?_,?_⟩
  .have:=J.size;omega
  .simpa using x
theorem I0 {r s:x1} {e:Nat} {a b:Λ} (h1:cd w 1 r e (ints .i64 a)) (z:cd w 1 s h (ints .i64 b)):
  am x7 zj [r,s] w λv w'=>v= .bool (decide (a=b))/\Ext w w':=by
 have O:a.length=e:=by simpa using h1.1
 have P:b.length=h:=by simpa using z.1
 have A:=h1.le;obtain⟨_,Q,R,S,U,rfl,W,X,E,G⟩:=h1;obtain⟨_,Y,Z,ab,ac,rfl,ad,ae,H,I⟩:=z;refine az func188 ?_;simp only[hJ ax.u,bm,al];refine⟨λB=>⟨?_,Ext.refl _⟩,λC=>?_⟩
 .rw[decide_eq_false];rintro rfl;omega
 .have C:e=h:=Ω
  refine⟨λt4 j V=>Ext w V/\ ∃i:Nat,j=Δ i/\i<=e/\a.take i=b.take i,λ_ j _=>e-(bX j).toNat,⟨Ext.refl _,0,rfl,X3 _,rfl⟩,?_⟩;rintro t4 _ V ⟨J,i,rfl,hi,m⟩;simp only[aO,al,er];refine⟨λp aa K _ _=>?_,λaf=>⟨?_,J⟩⟩
  .have p:i<e:=Ω
   have J:=J.trans K;obtain⟨x,q⟩:=aH (l:=a) (i:=i) Ω;obtain⟨y,f⟩:=aH (l:=b) (i:=i) Ω;have L:=iv J (G i _ (kO q));have M:=iv J (I i _ (kO f));rw[e5 ax.u ap.i p E,U1,ay Ψ L,e5 ax.u ap.i (C▸p) H,U1,ay Ψ M];simp only[bm,al,aP];refine⟨λB=>⟨?_,J⟩,λag=>⟨⟨J,i+1,?_,Ω,uR m q f Ω⟩,?_⟩⟩
   .rw[decide_eq_false];rintro rfl;rw[q] at f;cases f;exact B rfl
   .rw[wrap_i64 Ω (by simp only[maxLen] at A;omega)];rfl
   .rw[wrap_i64 Ω (by simp only[maxLen] at A;omega)];simp only[bX];omega
  .have N:i=e:=Ω
   subst N;rw[decide_eq_true];rw[b8 Ω,b8 Ω] at m;exact m
theorem I1 {s:x1} {a:Λ} (h1:cd w 1 s n (ints .i64 a)) (z:n<=1000000):
  am x7 zg [s] w λv w'=>Ext w w'/\ ∃g,w.heap.size<=g/\bW w' g ap 1 v n (ints .i64 a):=by
 have f:=h1;obtain⟨j,A,B,C,E,rfl,G,H,m,I⟩:=h1;refine az func166 ?_;simp only[ox ax.u,ce];refine⟨λe=>⟨Ext.refl _,w.heap.size,p8 _,?_⟩,λ_=>?_⟩
 .have:n=0:=by
   rcases R7 n with h|h
   .exact h
   .rw[m h] at e;cases e
  subst this;have:ints .i64 a=[]:=j5 (by simpa using j);rw[this];exact bW.nil _ _ _ _
 .refine j8 ax.u ap.i Ω (cs:=#[]) Ψ ?_;intro g V K J p;refine nj (g:=g) ax.u ax.u ap.i rfl (bW.full p rfl Ω) (f.ext J) (pP _ _) Ω (by simp only[maxLen];omega) ?_;intro L q aa M x y;refine⟨J.then y (by rintro r N rfl;omega),q,?_,?_⟩
  .have:=J.size;omega
  .simpa using x
theorem zQ {e:x1} {a b:Λ} (h1:aF .i64 w e a) (h:aF .i64 w f b):
  am x7 yU [e,f] w λv w'=>v= .bool (decide (a=b))/\Ext w w':=IY h1 h
theorem kd {s:x1} {a:Λ} (h1:aF .i64 w s a) (e:a.length<=1000000):
  am x7 yZ [s] w λv w'=>Ext w w'/\ ∃g,w.heap.size<=g/\au .i64 ai w' g v a:=IZ h1 e
theorem I2 {e:x1} {a b:Λ} (h1:aF .i64 w e a) (h:aF .i64 w f b):
  am x7 zj [e,f] w λv w'=>v= .bool (decide (a=b))/\Ext w w':=I0 h1 h
theorem uV {s:x1} {a:Λ} (h1:aF .i64 w s a) (e:a.length<=1000000):
  am x7 zg [s] w λv w'=>Ext w w'/\ ∃g,w.heap.size<=g/\au .i64 ap w' g v a:=I1 h1 e
theorem I3 {n:Int} (h:aF .i64 w sv l) (U:b1 l) (s:0<=n) (S:n<aN l):
  am x7 It [.agg #[sv],Δ n] w λv w'=>Ext w w'/\ ∃aI g,v= .tuple #[aI,Δ 0]/\w.heap.size<=g/\au .i64 ai w' g aI (cS l n):=by
 have W:=U.1;have X:=prod_bound U;refine az func243 ?_;refine be λg w0 Y x a=>?_;have Z:=h.cells;simp only[cv,aO,al];refine⟨λab=>Ω,λ_=>?_⟩;rw[bR bA.p bA.i rfl a.range];refine (oA (h.ext x) U).mono ?_;rintro _ V _ ⟨rfl,f⟩;simp only[cP,al];refine⟨λac=>Ω,λ_=>?_⟩;have j:=x.trans f;rw[aM bA.p 0 (a.ext f) rfl,aW an.u (h.ext j)];refine jx an.u ai.i Ω Ω ?_;intro C aa ad y I;simp only[hJ an.u];have J:=j.trans y;have s0:=x.size;have ae:=f.size;have af:=a.lt;refine⟨λt m=>Ext w m/\Ext w0 m/\ ∃i:Nat,t=Δ i/\i<=l.length/\ag m C ai (ints .i64 ((cS l n).take i++r8 (l.length-i) 0)),λt _=>l.length-(bX t).toNat,
  ⟨J,f.trans y,0,rfl,X3 _,by simpa using I⟩,?_⟩
 rintro _ m ⟨z,A,i,rfl,hi,E⟩;simp only[aO,al];refine⟨λB=>?_,λah=>?_⟩
 .have B:i<l.length:=Ω
  rw[bR bA.p bA.i rfl (a.ext A).range];refine (IX (h.ext z) U B).mono ?_;rintro _ aj _ ⟨rfl,K⟩;simp only[er];intro ak L _ _;have q:=K.trans L;have G:=z.trans q;obtain⟨k,hk⟩:∃k,l[i]? =σ k:=⟨l[i],x6 Ω⟩;have ao:=U.2 k (x5 hk);have ap:=prod_bound (U.drop (i+1));have M:0<=n / aN (l.drop (i+1)):=Int.ediv_nonneg s Ω;have aq:n / aN (l.drop (i+1))<=n:=Int.ediv_le_self _ s;rw[rQ Ω,Int.tdiv_eq_ediv_of_nonneg s,wrap_i64 Ω Ω,
   aM bA.p 0 ((a.ext A).ext q) rfl,bc an.u ai.i Ψ (h.ext G) hk,
   rR Ω,Int.tmod_eq_emod_of_nonneg M,e5 an.u ai.i B (λ_=>rfl),U1]
  refine bq ai.i rfl rfl (E.ext q) (by simp[jb];omega) ?_;intro av H aw N;simp only[aP];rw[wrap_i64 Ω Ω];have ax:=y.size;have ay:=j.size;refine⟨⟨G.then H (by rintro r O rfl;omega),(A.trans q).then H (by rintro r O rfl;omega),i+1,rfl,Ω,?_⟩,?_⟩
  .have P:=zO (n:=n) hk;have e:(ints .i64 ((cS l n).take i++r8 (l.length-i) 0)).set (0+i) (Δ (n / aN (l.drop (i+1)) % k))=ints .i64 ((cS l n).take (i+1)++r8 (l.length-(i+1)) 0):=by
    have Q:((cS l n).take i).length=i:=by rw[j6,jb];omega
    rw[X0,ints,<-V8];congr 1;rw[List.set_append,if_neg Ω,Q,V7,show l.length-i=(l.length-(i+1))+1 by omega,List.replicate_succ,List.set_cons_zero,u9,P];simp
   rw[<-e];exact N
  .simp only[bX];omega
 .have R:i=l.length:=Ω
  subst R;refine⟨z,_,C,rfl,by have:=j.size;omega,au.of (n:=l.length) (bW.full ?_ (by simp[ints,jb]) (by simp[maxLen];omega))⟩;have e:(cS l n).take l.length++r8 (l.length-l.length) 0=cS l n:=by rw[V7,b8 (by rw[jb];omega)];simp
  rw[<-e];exact E
def h4 (x:Int):Prop:=1<=x/\x<=32
instance (x:Int):Decidable (h4 x):=by unfold h4;infer_instance
theorem I4 {x:Int}:am x7 rL [Δ x] w λv w'=>v= .bool (decide (¬h4 x))/\Ext w w':=by
 refine az func255 ?_;simp only[cv,aO,bU,al];refine⟨λh=>⟨?_,Ext.refl _⟩,λh=>⟨?_,Ext.refl _⟩⟩
 .rw[decide_eq_true];intro a;have:=a.1;omega
 .congr 1;have:(32<x)=(¬h4 x):=propext ⟨λe a=>by have:=a.2;omega,λe=>by
   by_cases f:32<x
   .exact f
   .exact absurd ⟨Ω,Ω⟩ e⟩
  simp only[this]
theorem I5 (h:aF .i64 w sv l):
  am x7 uD [sv,.func (.func rL) #[] #[]] w λv w'=>Ext w w'/\ ∃n:Int,v=Δ n/\((0<=n)=¬∀x∈l,h4 x):=by
 have r:=h.le;refine az func102 ?_;rw[aW an.u h];refine⟨λ_ t V=>Ext w V/\ ∃i:Nat,t=Δ i/\i<=l.length/\ ∀x∈l.take i,h4 x,λ_ t _=>l.length-(bX t).toNat,⟨Ext.refl _,0,rfl,X3 _,Ξ⟩,?_⟩;rintro _ _ V ⟨J,i,rfl,hi,e⟩;simp only[aO,al];refine⟨λs=>?_,λz=>⟨J,-1,rfl,?_⟩⟩
 .obtain⟨x,f⟩:=aH (l:=l) (i:=i) Ω;rw[bc an.u ai.i Ψ (h.ext J) f];show am x7 rL [Δ x] V _;refine I4.mono ?_;rintro _ aa _ ⟨rfl,j⟩;simp only[al,aP];refine⟨λm=>⟨J.trans j,i,rfl,?_⟩,λp=>?_⟩
  .exact propext ⟨λ_ q=>m (q x (x5 f)),λ_=>Ω⟩
  .rw[wrap_i64 Ω Ω];refine⟨⟨J.trans j,i+1,rfl,Ω,λy a=>?_⟩,?_⟩
   .rw[u9,f] at a;rcases o7.1 a with a|a
    .exact e y a
    .simp at a;subst a;exact Z9.1 p
   .simp only[bX];omega
 .have:i=l.length:=Ω
  rw[this,p9] at e;exact propext ⟨λh=>Ω,λh=>absurd e h⟩
theorem I6 (h:aF .i64 w sv l):
  am x7 uG [sv,.func (.func rL) #[] #[]] w λv w'=>v= .bool (decide (¬∀x∈l,h4 x))/\Ext w w':=by
 refine az func191 ?_;refine (I5 h).mono ?_;rintro _ V _ ⟨J,n,rfl,a⟩;simp only[cP];exact⟨by congr 1;simp only[a],J⟩
def I7 (w:x3) (l:Λ) (v:x1) (w':x3):Prop:=
 Ext w w'/\
   (¬b1 l->v= .tuple #[.agg #[.slice ν 0 0],Δ 1])/\
   (b1 l->4096<aN l->v= .tuple #[.agg #[.slice ν 0 0],Δ 5])/\
   (b1 l->aN l<=4096-> ∃g aI,v= .tuple #[.agg #[aI],Δ 0]/\w.heap.size<=g/\au .i64 ai w' g aI l)
theorem I8 (h:aF .i64 w sv l):am x7 H9 [sv] w (I7 w l):=by
 refine az func216 ?_;refine bD bA.i λW V aq a m=>?_;have av:=m.lt;refine aV (λv aa=>Ext w aa/\Ext V aa/\ ∃c:Bool,v= .bool c/\((c=true)=¬b1 l)) ?_ ?_
 .rintro _ aa ⟨J,q,c,rfl,E⟩;simp only[ce];refine⟨λX=>?_,λaf=>?_⟩
  .have G:¬b1 l:=by rw[<-E];exact X
   rw[dn (cs:=#[.slice ν 0 0]) Ψ];refine ch (vs:=[.slice ν 0 0]) bA.i rfl rfl (by simp;rfl) (m.ext q) ?_;intro aw Y ax Z;rw[fN bA.p bA.i rfl Z.range];exact⟨J.then Y (by rintro r s rfl;omega),λ_=>rfl,λh=>absurd h G,λh=>absurd h G⟩
  .have e:b1 l:=by
    have H:¬(c=true):=by simp[af]
    rw[E] at H;exact Classical.not_not.1 H
   have ay:=e.1;refine (kd (h.ext J) Ω).mono ?_;rintro aI I _ ⟨x,K,aB,hm⟩;have L:=hm.ls.cells;rw[dn (cs:=#[aI]) (by obtain⟨_,_,_,_,_,rfl,_⟩:=hm.ls;kernel_rfl)];refine bD bA.i λgs aC aD y ac=>?_;refine ch (vs:=[aI]) bA.i rfl rfl (by intro u hu;simp at hu;subst hu;exact L.2) ac ?_;intro z M aE N;rw[bR bA.p bA.i rfl N.range];have aG:=x.size;have aH:=y.size;have aJ:=q.size;have aK:ah (λr=>r=gs) I z:=(y.ab _).trans M;have A:Ext I z:=y.then M (by rintro r s rfl;omega);have ad:=(J.trans x).trans A;have O:au .i64 ai z K aI l:=hm.ext A;refine (oA O.ls e).mono ?_;rintro _ ae _ ⟨rfl,f⟩;have P:=ad.trans f;have Q:ag ae W bA [.slice ν 0 0]:=m.ext (((q.trans x).trans A).trans f);simp only[bU,al];refine⟨λaj=>?_,λak=>?_⟩
   .rw[dn (cs:=#[.slice ν 0 0]) Ψ];refine ch (vs:=[.slice ν 0 0]) bA.i rfl rfl (by simp;rfl) Q ?_;intro ao j ap B;rw[fN bA.p bA.i rfl B.range];exact⟨P.then j (by rintro r s rfl;omega),λh=>absurd e h,λ_ _=>rfl,λ_ h=>Ω⟩
   .rw[bR bA.p bA.i rfl (N.ext f).range];refine ch (vs:=[aI]) bA.i rfl rfl (by intro u hu;simp at hu;subst hu;exact L.2) Q ?_;intro ao j ap B;rw[fN bA.p bA.i rfl B.range];have aL:=a.size;exact⟨P.then j (by rintro r s rfl;omega),λh=>absurd e h,λ_ h=>Ω,λ_ _=>⟨K,aI,rfl,Ω,(O.ext f).ab j Ω⟩⟩
 .intro aA R;rw[aW an.u (h.ext a)];simp only[bU,al];refine⟨λaj=>R _ _ ⟨a,Ext.refl _,true,rfl,?_⟩,λak=>?_⟩
  .exact propext ⟨λ_ U=>by have:=U.1;omega,λ_=>rfl⟩
  .refine (I6 (h.ext a)).mono ?_;rintro _ aa _ ⟨rfl,S⟩;refine R _ _ ⟨a.trans S,S,_,rfl,?_⟩;rw[decide_eq_true_eq];exact propext ⟨λC U=>C U.2,λC U=>C ⟨Ω,U⟩⟩
theorem uW {P:W5} (f:0<=a) (h1:a<4294967296):
  ac P (aL .and t cx cy (.int .u64 a) (.int .u64 4294967295)) w K=K (.int .u64 a):=ac.of λw' _=>by
 obtain⟨n,rfl⟩:=W6 f;have p:n<4294967296:=Ω
 have e:(U5 64 (n:Int) &&& U5 64 4294967295).toNat=n:=by
  rw[BitVec.toNat_and,BitVec.toNat_ofInt,BitVec.toNat_ofInt];have h:((n:Int) % ((2 ^ 64:Nat):Int)).toNat=n:=Ω
  have j:((4294967295:Int) % ((2 ^ 64:Nat):Int)).toNat=2 ^ 32-1:=Φ
  rw[h,j,Nat.and_two_pow_sub_one_eq_mod];omega
 have m:(U5 U3.bits (n:Int) &&& U5 U3.bits 4294967295).toNat=n:=e;simp only[aL,eqGuard,binOp,Op.intBits,m];rw[wrap_u64 Ω Ω];rfl
theorem pU {P:W5} (f:0<=a) (h1:a<4294967296):
  ac P (aL .shr t cx cy (.int .u64 a) (.int .u64 32)) w K=K (.int .u64 0):=ac.of λw' _=>by
 have e:a.fdiv (2 ^ min 32 U3.bits)=0:=by
  have:(2:Int) ^ min 32 U3.bits=4294967296:=rfl;rw[this,Int.fdiv_eq_ediv_of_nonneg _ Ω];omega
 simp[aL,eqGuard,binOp,Op.shift,e]
theorem I9 {x:Int} (J:0<=x/\x<65536) (e:0<=y/\y<65536):
  am x7 Iw [.int .u64 x,.int .u64 y] w λv w'=>v= .tuple #[.int .u64 0,.int .u64 (x*y)]/\Ext w w':=by
 have h:0<=x*y/\x*y<4294967296:=⟨Int.mul_nonneg J.1 e.1,by
  have:x*y<=65535*65535:=Int.mul_le_mul Ω Ω e.1 Ω;omega⟩
 refine az func256 ?_;refine am.mono (K:=λv w'=>v= .tuple #[.int .u64 0,.int .u64 (x*y)]/\Ext w w') ?_ ?_
 .refine az func273 ?_;rw[uW Ω Ω,pU Ω Ω,uW Ω Ω,pU Ω Ω];simp only[hI,Int.zero_mul,Int.mul_zero];rw[wrap_u64 (x:=x*y) Ω Ω,show U3.wrap 0=0 from rfl,pU (a:=x*y) Ω Ω];simp only[aP,Int.add_zero];rw[show U3.wrap 0=0 from rfl,uW Ω Ω,pU Ω Ω];simp only[hI,aP,Int.zero_mul,Int.mul_zero,Int.add_zero,show U3.wrap 0=0 from rfl];rw[pU Ω Ω];simp only[hI,aP,Int.add_zero,show U3.wrap 0=0 from rfl];exact⟨trivial,Ext.refl _⟩
 .rintro _ V _ ⟨rfl,f⟩;rw[bo,bp];exact⟨rfl,f⟩
theorem zR {dY:x1} {c:Int} (h:aF .i64 w dY [c]) (X:n<65536):
  am x7 Ia [dY,Δ n] w λv w'=>Ext w w'/\ ∃g,w.heap.size<=g/\au .i64 ap w' g v (r8 n c):=by
 refine az func217 ?_;refine dg (λV=>w=V) ?_ ?_
 .rintro _ rfl;rw[aW ax.u h,fd ai.u ov.u,fd ai.u ov.u,wrap_u64 Ξ Ξ,wrap_u64 Ω Ω];refine (I9 (x:=([c].length:Int)) Ξ Ω).mono ?_;rintro _ aa _ ⟨rfl,z⟩;rw[bo,bp];have E:(([c].length:Int)*n)=(n:Int):=Ξ
  rw[E];refine dg (λa=>aa=a) ?_ ?_
  .rintro _ rfl;rw[fd ov.u ai.u,wrap_i64 Ω Ω];refine jx ax.u ap.i Ω Ω ?_;intro g Y Z G H;have J:=z.trans G;have ab:=z.size;refine zB ax.u ap.i H (o:=0) (λ_=>rfl) Ξ (h.ext J) (pP _ _) ?_;intro ac I ad A;have K:=J.then I (by rintro r L rfl;omega);have st:over (ints .i64 (r8 n 0)) 0 ((ints .i64 [c]).take n)=ints .i64 (r8 (min 1 n) c++r8 (n-min 1 n) 0):=by
    rcases R7 n with rfl|e
    .simp[over]
    .rw[b8 Θ,me Θ];have:min 1 n=1:=Ω
     simp[this,ints]
   rw[st] at A;refine⟨λt f=>Ext w f/\ ∃i:Nat,t=Δ i/\i<=n/\(0<n->0<i)/\ag f g ap (ints .i64 (r8 i c++r8 (n-i) 0)),λt _=>n-(bX t).toNat,
    ⟨K,min 1 n,Ξ,Ω,Ω,A⟩,?_⟩
   rintro _ f ⟨p,i,rfl,hi,ae,q⟩;simp only[hJ ax.u,aO,al,er];refine⟨λM N s _ _=>?_,λaf=>?_⟩
   .have M:i<n:=Ω
    have B:=q.ext s;rw[hK ax.u ap.i (l:=i) (h:=n) (m:=n) pN jw fz Ω Ω Ω,
     hK ax.u ap.i (l:=0) (h:=i) (m:=n) jv pO fz Ω Ω Ω]
    have O:cd N 1 (.slice (σ ⟨g,0,ν⟩) n n) n (ints .i64 (r8 i c++r8 (n-i) 0)):=(bW.full B (by simp<;>omega) (by simp[maxLen]<;>omega)).sl;have e:=O.part (l:=0) (h:=i) (m:=n) Ω Ω Ω Ω;have P:((ints .i64 (r8 i c++r8 (n-i) 0)).drop (0*1)).take ((i-0)*1)=ints .i64 (r8 i c):=by
     simp[ints]
    rw[P] at e;refine zB ax.u ap.i B (o:=i) (λ_=>?_) (by simp<;>omega) e (pP _ _) ?_
    .rw[if_neg Ω];simp[T0]
    .intro ah Q aj C;have ak:=p.size;have an:=s.size;have R:over (ints .i64 (r8 i c++r8 (n-i) 0)) i ((ints .i64 (r8 i c)).take (n-i))=ints .i64 (r8 (i+min i (n-i)) c++r8 (n-(i+min i (n-i))) 0):=by
      apply Y3;intro j;rw[nh _ _ _ (by simp[ints]<;>omega)];simp only[ints,Z0,List.map_replicate,List.getElem?_append,List.getElem?_take,List.getElem?_replicate,j6,List.length_replicate]
      repeat' split
      all_goals first|rfl|omega
     rw[R] at C;have S:min (i-0) (n-i)=min i (n-i):=Ω
     simp only[aP,S];have U:X2.wrap ((i:Int)+((min i (n-i):Nat):Int))=((i+min i (n-i):Nat):Int):=by rw[wrap_i64 Ω Ω];omega
     rw[U];refine⟨⟨(p.trans s).then Q (by rintro r L rfl;omega),_,rfl,Ω,Ω,C⟩,?_⟩;simp only[bX,u6];omega
   .have:i=n:=Ω
    subst this;rw[V7,List.replicate_zero,U4] at q;exact⟨p,g,Ω,au.of (n:=i) (bW.full q Ξ (by simp[maxLen];omega))⟩
  .intro aA y;refine aV (λv a=>v= .bool false/\aa=a) ?_ ?_
   .rintro _ _ ⟨rfl,rfl⟩;rw[a1];exact y _ rfl
   .intro ao W;simp only[bU,al];refine⟨λh=>Ω,λ_=>W _ _ ⟨?_,rfl⟩⟩;rw[decide_eq_false];omega
 .intro aA y;simp only[aO,al];exact⟨λh=>Ω,λ_=>y _ rfl⟩
def leads (v:x1) (r:Nat):Prop:=∃a n c,v= .slice (σ a) n c/\a.block=r
theorem bO {g:Nat} (h:au k e w g v l) {r:Nat} (f:leads v r):r=g/\g<w.heap.size:=by
 obtain⟨a,n,c,rfl,rfl⟩:=f;obtain⟨_,⟨h,_⟩|⟨cap,cs,h,j,_⟩⟩:=h
 .cases h
 .cases h;exact⟨rfl,j.lt⟩
theorem br {g:Nat} (h:au k e w g v l) (J:ah S w w') (a:∀r,leads v r->¬S r):au k e w' g v l:=by
 refine⟨h.1,h.2.imp id λ⟨cap,cs,h1,f,j⟩=>⟨cap,cs,h1,f.ab J (a g ⟨_,_,_,h1,rfl⟩),j⟩⟩
def dd (w:x3) (g a:Nat) (sv:x1) (aj:Λ) (k:Int) (cs:Λ):Prop:=
 (∃a6 gs,ag w g cW [sv,Δ k,a6]/\au .i64 ai w gs sv aj/\au .i64 ap w a a6 cs)/\(g≠a/\¬leads sv a/\aN aj<=4096)/\b1 aj/\cs.length=(aN aj).toNat
theorem dd.ext {g a:Nat} {k:Int} {cs:Λ} (h:dd w g a sv aj k cs) (J:Ext w w'):dd w' g a sv aj k cs:=by
 obtain⟨⟨a6,gs,h1,e,f⟩,j⟩:=h;exact⟨⟨a6,gs,h1.ext J,e.ext J,f.ext J⟩,j⟩
def zS (w:x3) (l:Λ) (k a:Int) (v:x1) (w':x3):Prop:=
 Ext w w'/\
  (¬b1 l->v= .tuple #[.pointer ν,Δ 1])/\
  (b1 l->4096<aN l->v= .tuple #[.pointer ν,Δ 5])/\
  (b1 l->aN l<=4096->¬cq a k->v= .tuple #[.pointer ν,Δ 3])/\
  (b1 l->aN l<=4096->cq a k-> ∃g e sv,v= .tuple #[Γ g,Δ 0]/\w.heap.size<=g/\w.heap.size<=e/\(∀r,leads sv r->w.heap.size<=r)/\
   dd w' g e sv l k (r8 (aN l).toNat a))
theorem uX {k z:Int} (h:aF .i64 w sv l):am x7 HA [sv,Δ k,Δ z] w (zS w l k z):=by
 refine az func163 ?_;refine (I8 h).mono ?_;rintro v V _ ⟨I,W,X,Y⟩;obtain⟨aI,e,rfl,Z,he⟩:∃ (aI:x1) (e:Int),v= .tuple #[.agg #[aI],Δ e]/\aI.oneCell'=true/\
   ((e=1/\¬b1 l)\/(e=5/\b1 l/\4096<aN l)\/(e=0/\b1 l/\aN l<=4096/\ ∃g,w.heap.size<=g/\au .i64 ai V g aI l)):=by
  by_cases U:b1 l
  .by_cases y:aN l<=4096
   .obtain⟨g,aI,rfl,h1,J⟩:=Y U y;exact⟨aI,0,rfl,J.ls.cells.2,.inr (.inr ⟨rfl,U,y,g,h1,J⟩)⟩
   .exact⟨_,_,X U Ω,rfl,.inr (.inl ⟨rfl,U,Ω⟩)⟩
  .exact⟨_,_,W U,rfl,.inl ⟨rfl,U⟩⟩
 rw[bo,bp];refine bD bA.i λaM aa aO ab ad=>?_;refine ch (vs:=[aI]) bA.i rfl rfl (by intro u hu;simp at hu;subst hu;exact Z) ad ?_;intro ae ag aP ah;have K:Ext V ae:=ab.then ag (by rintro r j rfl;omega);have L:=I.trans K;simp only[bm,al];refine⟨λaj=>⟨L,?_⟩,λaQ=>?_⟩
 .rcases he with⟨rfl,A⟩|⟨rfl,U,y⟩|⟨rfl,_⟩
  .exact⟨λ_=>rfl,λh=>absurd h A,λh=>absurd h A,λh=>absurd h A⟩
  .exact⟨λh=>absurd U h,λ_ _=>rfl,λ_ h=>Ω,λ_ h=>Ω⟩
  .exact absurd rfl aj
 .obtain⟨rfl,U,y,gs,aR,hm⟩:e=0/\b1 l/\aN l<=4096/\ ∃g,w.heap.size<=g/\au .i64 ai V g aI l:=by
   rcases he with⟨rfl,A⟩|⟨rfl,U,y⟩|h
   .omega
   .omega
   .exact h
  have aS:=prod_bound U;refine jy.mono ?_;rintro _ aT _ ⟨rfl,C⟩;have M:=L.trans C;simp only[bG,ce];refine⟨λaf=>⟨M,λh=>absurd U h,λ_ h=>Ω,λ_ _ _=>rfl,λ_ _ h=>by simp[h] at af⟩,λak=>?_⟩;have an:cq z k:=by simpa using ak
  simp only[cv,er];intro N E _ _;have ao:=M.trans E;have B:=(K.trans C).trans E;have O:=(ah.ext C).ext E;rw[bR bA.p bA.i rfl O.range,bR bA.p bA.i rfl O.range];have aU:=I.size;have aV:=B.size;have P:((aN l).toNat:Int)=aN l:=Ω
  have Q:∀ {s:x3} {q:x1} {x:Nat},Ext N s->N.heap.size<=x->au .i64 ap s x q (r8 (aN l).toNat z)->
    ac x7 (Instr.build cW #[(0,.agg #[aI]),(1,Δ k),(2,q)]) s λav=>aD x7 (Instr.box cW av) s λaw R=>zS w l k z (.tuple #[aw,Δ 0]) R:=by
   intro s q x m S j;rw[dn (cs:=#[aI,Δ k,q]) (by
    obtain⟨_,_,_,_,_,rfl,_⟩:=j.ls;obtain⟨_,_,_,_,_,rfl,_⟩:=hm.ls;kernel_rfl)]
   refine be λg R aW G ay=>?_;have aX:=m.size;have aA:leads q x:=by
    obtain⟨aY,⟨_,aB⟩|⟨cap,cs,rfl,_⟩⟩:=j
    .simp at aB;omega
    .exact⟨_,_,_,rfl,rfl⟩
   have aZ:=(bO j aA).2;refine⟨(ao.trans m).trans G,λh=>absurd U h,λ_ h=>Ω,λ_ _ h=>absurd an h,λ_ _ _=>⟨g,x,aI,rfl,Ω,Ω,λr aC=>?_,⟨q,gs,ay,((hm.ext B).ext m).ext G,j.ext G⟩,⟨Ω,λaE=>?_,y⟩,U,Ξ⟩⟩
   .have:=(bO hm aC).1;omega
   .have:=bO hm aE;omega
  constructor
  .refine ew ax.u ap.i rfl λdY aq aG aH a H=>⟨.inl a,?_⟩;refine (oA ((hm.ext B).ext a).ls U).mono ?_;rintro _ aJ _ ⟨rfl,f⟩;refine⟨.inl (a.trans f),?_⟩;rw[<-P];refine (zR (H.ext f).ls Ω).mono ?_;rintro q s _ ⟨m,x,S,j⟩;have aK:=a.size;have aL:=f.size;exact⟨.inl ((a.trans f).trans m),Q ((a.trans f).trans m) Ω j⟩
  .refine (oA (hm.ext B).ls U).mono ?_;rintro _ aG _ ⟨rfl,a⟩;refine⟨.inl a,?_⟩;refine ew ax.u ap.i rfl λdY aq aJ aH f H=>⟨.inl (a.trans f),?_⟩;rw[<-P];refine (zR H.ls Ω).mono ?_;rintro q s _ ⟨m,x,S,j⟩;have aK:=a.size;have aL:=f.size;exact⟨.inl ((a.trans f).trans m),Q ((a.trans f).trans m) Ω j⟩
theorem nq {g:Nat} {a:List x1} {o:Nat} (h:ag w g e cs) (f:∀j v,a[j]? =σ v->cs[o+j]? =σ v):w.rangeAt g o a:=λj v ad=>h.cell (f j v ad)
theorem zT {g a:Nat} {t:Λ} {k:Int} {cs:Λ} (h:dd w g a sv aj k cs) (e:aF .i64 w aI t):
  am x7 Ig [Γ g,aI] w λv w'=>v=kP aj t/\Ext w w':=by
 obtain⟨⟨a6,gs,f,hm,m⟩,_,U,_⟩:=h;refine az func223 ?_;rw[db eP.u];simp only[Z4,a1];rw[bV,aU cW.p rfl,bR (cs:=[sv]) bA.p bA.i rfl (nq f (by
  intro j v ad
  match j,ad with
  |0,ad=>exact ad))]
 refine (zP hm.ls e U).mono ?_;rintro _ V _ ⟨rfl,J⟩;unfold kP;cases ci aj t 0 with
 |none=>rw[bo,bp];exact⟨rfl,J⟩
 |some n=>rw[bo,bp];exact⟨rfl,J⟩
def oB (aj t cs:Λ):x1:=match ci aj t 0 with
 |some n=>.tuple #[Δ (cs.getD n.toNat 0),Δ 0]
 |none=>.tuple #[Δ 0,Δ 3]
theorem zU {t cs:Λ} {n:Int} (U:b1 aj) (a:cs.length=(aN aj).toNat) (h:ci aj t 0=σ n):n=(n.toNat:Int)/\n.toNat<cs.length:=by
 have:=np U.2 h;simp only[Int.zero_mul,Int.zero_add,Int.one_mul] at this;omega
theorem uY {g e:Nat} {t:Λ} {k:Int} {cs:Λ} (h:dd w g e sv aj k cs) (f:aF .i64 w aI t):
  am x7 H6 [Γ g,aI] w λv w'=>v=oB aj t cs/\Ext w w':=by
 refine az func207 ?_;refine (zT h f).mono ?_;rintro _ V _ ⟨rfl,J⟩;obtain⟨⟨a6,gs,j,hm,m⟩,_,U,q⟩:=h.ext J;unfold kP oB;cases hi:ci aj t 0 with
 |none=>
  rw[bo,bp];simp only[bm,al];exact⟨λ_=>⟨trivial,J⟩,λh=>by simp at h⟩
 |some n=>
  obtain⟨r,a⟩:=zU U q hi;rw[bo,bp];simp only[bm,al];refine⟨λh=>absurd rfl h,λ_=>?_⟩;rw[aQ cW.p 2 j rfl,
   fM r ax.u ap.i Ψ m.ls (x6 a)]
  refine⟨?_,J⟩;rw[v8,x6 a];rfl
def rX (aj t:Λ) (k c:Int) (cs:Λ):Λ:=match ci aj t 0 with
 |some n=>if cq c k then cs.set n.toNat c else cs
 |none=>cs
def zV (aj t:Λ) (k c:Int):Int:=match ci aj t 0 with
 |some _=>if cq c k then 0 else 3
 |none=>3
theorem Ja {g e:Nat} {t:Λ} {k c:Int} {cs:Λ} (h:dd w g e sv aj k cs) (A:aF .i64 w aI t):
  am x7 HC [Γ g,aI,Δ c] w λv w'=>v=Δ (zV aj t k c)/\ah (λr=>r=e) w w'/\dd w' g e sv aj k (rX aj t k c cs):=by
 refine az func165 ?_;refine (zT h A).mono ?_;rintro _ V _ ⟨rfl,J⟩;have h1:=h.ext J;obtain⟨⟨a6,gs,a,hm,f⟩,_,U,j⟩:=h1;unfold kP zV rX;cases hi:ci aj t 0 with
 |none=>
  rw[bo,bp];simp only[bm,al];exact⟨λ_=>⟨trivial,J.ab _,h.ext J⟩,λh=>by simp at h⟩
 |some n=>
  obtain⟨M,N⟩:=zU U j hi;rw[bo,bp];simp only[bm,al];refine⟨λh=>absurd rfl h,λ_=>?_⟩;rw[aQ cW.p 1 a rfl];refine jy.mono ?_;rintro _ aa _ ⟨rfl,m⟩;have s:=(h.ext J).ext m;by_cases x:cq c k
  .simp only[x,decide_true,bG,Y6,a1,if_true];obtain⟨⟨a6,gs,a,hm,f⟩,⟨B,y⟩,U,j⟩:=s;have O:=f;obtain⟨P,⟨rfl,Q⟩|⟨cap,full,rfl,C,E,G,H,z⟩⟩:=f
   .omega
   .rw[aQ cW.p 2 a rfl,
     zx (i:=n) ax.u ap.i Ω Ω (λ_=>rfl)]
    refine bq ap.i rfl rfl C Ω ?_;intro R q S I;refine⟨trivial,((J.trans m).ab _).trans q,⟨_,gs,a.ab q Ω,br hm q (λr K L=>y.1 (L▸K)),?_⟩,⟨B,y⟩,U,by simp[j]⟩;refine⟨Ξ,.inr ⟨cap,full.set (0+n.toNat*1) (Δ c),?_,I,by simpa using E,G,by simpa using H,?_⟩⟩
    .simp
    .simp only[c8,X0,U1] at z ⊢;rw[List.take_set,z,ints,ints,V8]
  .simp only[x,decide_false,bG,X9,bQ,if_false];exact⟨trivial,(J.trans m).ab _,s⟩
def cA (b:Int):Bool:=decide (b=32\/b=9\/b=10\/b=13)
def bK (b:Int):Bool:=decide (33<=b/\b<=126)
def nr:Nat->Λ->List (Λ)×Bool
 |0,_=>([],true)
 |n+1,p=>
  match p.dropWhile cA with
  |[]=>([],true)
  |b::q=>
   if bK b then
    match (b::q).dropWhile bK with
    |[]=>([(b::q).takeWhile bK],true)
    |c::r=>if cA c then (((b::q).takeWhile bK)::(nr n (c::r)).1,(nr n (c::r)).2) else ([],false)
   else ([],false)
def lex (p:Λ):List (Λ)×Bool:=nr (p.length+1) p
theorem oC (f:Int->Bool):∀ (l:Λ),(l.dropWhile f).length<=l.length
 |[]=>p8 _
 |x::l=>by
  rw[List.dropWhile_cons];split
  .exact Y9 (oC f l) (Nat.le_succ _)
  .exact p8 _
theorem rY {f:Int->Bool} {x:Int} (h:f x=true):((x::l).dropWhile f).length<=l.length:=by
 rw[List.dropWhile_cons,if_pos h];exact oC f l
theorem zW:∀ {n m:Nat} {p:Λ},p.length<n->p.length<m->nr n p=nr m p
 |n+1,m+1,p,j,hm=>by
  unfold nr;have h1:=oC cA p;cases f:p.dropWhile cA with
  |nil=>rfl
  |cons b q=>
   rw[f] at h1;simp only;by_cases a:bK b=true
   .rw[if_pos a,if_pos a];have e:=rY (l:=q) a;cases h:(b::q).dropWhile bK with
    |nil=>rfl
    |cons c r=>
     rw[h] at e;simp only[c9] at h1 e;simp only;rw[zW (n:=n) (m:=m) (p:=c::r) (by rw[c9];omega) (by rw[c9];omega)]
   .rw[if_neg a,if_neg a]
theorem ke (p:Λ):lex p=match p.dropWhile cA with
  |[]=>([],true)
  |b::q=>
   if bK b then
    match (b::q).dropWhile bK with
    |[]=>([(b::q).takeWhile bK],true)
    |c::r=>if cA c then (((b::q).takeWhile bK)::(lex (c::r)).1,(lex (c::r)).2) else ([],false)
   else ([],false):=by
 unfold lex
 conv=>lhs;unfold nr
 have h1:=oC cA p;cases f:p.dropWhile cA with
 |nil=>rfl
 |cons b q=>
  rw[f] at h1;simp only;by_cases a:bK b=true
  .rw[if_pos a,if_pos a];have e:=rY (l:=q) a;cases h:(b::q).dropWhile bK with
   |nil=>rfl
   |cons c r=>
    rw[h] at e;simp only[c9] at h1 e;simp only;rw[zW (n:=p.length) (m:=(c::r).length+1) (p:=c::r) (by rw[c9];omega) Ω]
  .rw[if_neg a,if_neg a]
theorem pV:∀ (n:Nat) (p:Λ),p.length<=n->(lex p).1.length<=p.length
 |n,p,m=>by
  rw[ke];have h1:=oC cA p;cases h:p.dropWhile cA with
  |nil=>simp
  |cons b q=>
   rw[h] at h1;simp only;by_cases a:bK b=true
   .rw[if_pos a];have e:=rY (l:=q) a;cases j:(b::q).dropWhile bK with
    |nil=>simp only[c9,List.length_nil] at h1 ⊢;omega
    |cons c r=>
     rw[j] at e;simp only[c9] at h1 e;simp only;by_cases f:cA c=true
     .rw[if_pos f]
      match n with
      |0=>omega
      |n+1=>
       have:=pV n (c::r) (by rw[c9];omega);simp only[c9] at this ⊢;omega
     .rw[if_neg f];simp
   .rw[if_neg a];simp
theorem rZ:∀ (n:Nat) (p:Λ),p.length<=n-> ∀w∈(lex p).1,w≠[]/\(∀b∈w,bK b=true)/\w.length<=p.length
 |n,p,z,w,hw=>by
  rw[ke] at hw;have h1:=oC cA p;cases e:p.dropWhile cA with
  |nil=>rw[e] at hw;simp at hw
  |cons b q=>
   rw[e] at h1 hw;simp only at hw;have y:(b::q).length<=p.length:=h1;by_cases a:bK b=true
   .rw[if_pos a] at hw;have f:=rY (l:=q) a;have j:(b::q).takeWhile bK≠[]/\(∀x∈(b::q).takeWhile bK,bK x=true)/\((b::q).takeWhile bK).length<=p.length:=
     ⟨by rw[List.takeWhile_cons,if_pos a];simp,λx J=>List.all_takeWhile (l:=b::q) (p:=bK) |> List.all_eq_true.1 |> λh=>h x J,Y9 (List.takeWhile_sublist _).length_le y⟩
    cases m:(b::q).dropWhile bK with
    |nil=>
     rw[m] at hw;simp only[o8] at hw;subst hw;exact j
    |cons c r=>
     rw[m] at f hw;simp only[c9] at h1 f;simp only at hw;by_cases s:cA c=true
     .rw[if_pos s] at hw;rcases W9.1 hw with rfl|hw
      .exact j
      .match n with
       |0=>omega
       |n+1=>
        have:=rZ n (c::r) (by rw[c9];omega) w hw;exact⟨this.1,this.2.1,Y9 this.2.2 (by rw[c9];omega)⟩
     .rw[if_neg s] at hw;simp at hw
   .rw[if_neg a] at hw;simp at hw
def aw:Int:=4611686018427387904
def gg (b:Int):Bool:=decide (48<=b/\b<=57)
def eY (n b:Int):Int:=min aw (10*n+(b-48))
def kf:Λ->Option Int
 |[]=>ν
 |l=>if l.all gg then σ (l.foldl eY 0) else ν
def gh:Λ->Option Int
 |45::l=>(kf l).map λn=>-n
 |l=>kf l
theorem Jb {n b:Int} (e:0<=n) (a:gg b=true):0<=eY n b/\eY n b<=aw:=by
 have a:=of_decide_eq_true a;unfold eY aw;omega
theorem r0:∀ {l:Λ} {n:Int},l.all gg=true->0<=n/\n<=aw->0<=l.foldl eY n/\l.foldl eY n<=aw
 |[],n,_,a=>a
 |b::l,n,h,a=>by
  rw[List.all_cons,V1] at h;exact r0 (l:=l) h.2 (Jb a.1 h.1)
structure aE where
 toks:List (Λ)
 told:Int
 big:Bool
 shared:List (Λ×List (Λ×Int))
deriving DecidableEq
def dN (s:aE):Option (Λ×aE):=match s.toks with
 |[]=>ν
 |w::l=>σ (w,{s with toks:=l})
def bh (lo hi:Int) (s:aE):Option (Int×aE):=match dN s with
 |none=>ν
 |some (w,s)=>match gh w with
  |none=>ν
  |some n=>if lo<=n/\n<=hi then σ (n,s) else ν
def bd (b:Bool) (s:aE):aE:={s with big:=s.big||b}
def cO {α:Type} (f:List α->aE->Option (α×aE)):Nat->List α->aE->Option (List α×aE)
 |0,acc,s=>σ (acc,s)
 |n+1,acc,s=>match f acc s with
  |none=>ν
  |some (a,s)=>cO f n (acc++[a]) s
def eZ (n:Int) (a:Nat) (s:aE):Option (Λ×aE):=cO (λacc s=>match bh 0 (n-1) s with
 |none=>ν
 |some (v,s)=>if v∈acc then ν else σ (v,s)) a [] s
def iy:Λ->Λ->aE->Option (Λ×aE)
 |[],acc,s=>σ (acc,s)
 |k::l,acc,s=>match bh 0 (k-1) s with
  |none=>ν
  |some (v,s)=>iy l (acc++[v]) s
def dO (sizes:Λ) (acc:List (Λ×Int)) (s:aE):Option ((Λ×Int)×aE):=match iy sizes [] s with
 |none=>ν
 |some (t,s)=>match bh 0 aw s with
  |none=>ν
  |some (c,s)=>if t∈acc.map (·.1) then ν else σ ((t,c),s)
def dP (sizes:Λ) (s:aE):Option (List (Λ×Int)×aE):=match bh (-aw) aw s with
 |none=>ν
 |some (n,s)=>
  if n<0 then match s.shared[(-n-1).toNat]? with
   |none=>ν
   |some (z,l)=>if z=sizes then σ (l,s) else ν
  else cO (dO sizes) n.toNat [] (bd (decide (16384<min (s.told+n) aw)) {s with told:=min (s.told+n) aw})
def dq (sizes:Λ):Bool:=decide (4096<aN (sizes.map λk=>min k 4097))
structure cw where
 scope:Λ
 sizes:Λ
 other:Int
 lines:List (Λ×Int)
deriving DecidableEq
def c6 (all:Λ) (s:aE):Option (cw×aE):=match bh (-aw) aw s with
 |none=>ν
 |some (a,s)=>match eZ all.length a.natAbs s with
  |none=>ν
  |some (scope,s)=>
   let sizes:=scope.map λv=>all.getD v.toNat 0
   match bh 0 aw (bd (decide (6<a.natAbs)||dq sizes) s) with
   |none=>ν
   |some (other,s)=>match dP sizes s with
    |none=>ν
    |some (lines,s)=>σ (⟨scope,sizes,other,lines⟩,if a<0 then {s with shared:=s.shared++[(sizes,lines)]} else s)
def fR (most:Int) (_:Λ) (s:aE):Option (Int×aE):=match bh 1 most s with
 |none=>ν
 |some (z,s)=>σ (z,bd (decide (32<z)) s)
structure b2 where
 name:Λ
 k:Int
 sizes:Λ
 funs:List cw
deriving DecidableEq
def hN (s:aE):Option (b2×aE):=match dN s with
 |none=>ν
 |some (name,s)=>match bh 1 aw (bd (decide (64<name.length)) s) with
  |none=>ν
  |some (n,s)=>match bh 1 aw (bd (decide (64<n)) s) with
   |none=>ν
   |some (most,s)=>match bh 0 aw s with
    |none=>ν
    |some (a,s)=>match bh 1 aw (bd (decide (256<a)) s) with
     |none=>ν
     |some (k,s)=>match cO (fR most) n.toNat [] (bd (decide (2147483648<k)) s) with
      |none=>ν
      |some (sizes,s)=>match cO (λ_ s=>c6 sizes s) a.toNat [] s with
       |none=>ν
       |some (funs,s)=>σ (⟨name,k,sizes,funs⟩,s)
def gi (p:Λ):Option b2:=if 65536<p.length then ν else match hN ⟨(lex p).1,0,false,[]⟩ with
 |none=>ν
 |some (f,s)=>if s.toks=[]/\(lex p).2=true/\s.big=false then σ f else ν
def mi (n:Int) (a:Bool) (v:Int):Prop:=0<=n/\n<=4611686018427387909/\(a=true->v=aw)/\(a=false->v=min aw n)
theorem Jc {n b v:Int} {a:Bool} (h:mi n a v) (p:48<=b/\b<=57):
  mi (if a=true\/461168601842738790<n then n else 10*n+(b-48)) (a||decide (461168601842738790<n)) (eY v b):=by
 obtain⟨h1,f,j,m⟩:=h;unfold eY mi aw at*;cases a with
 |true=>
  have:=j rfl;rw[if_pos (.inl rfl)];exact⟨h1,f,λ_=>Ω,λh=>by cases h⟩
 |false=>
  have:=m rfl;by_cases e:461168601842738790<n
  .rw[if_pos (.inr e),decide_eq_true e];exact⟨h1,f,λ_=>Ω,λh=>by cases h⟩
  .rw[if_neg (by simp[e]),decide_eq_false e];exact⟨Ω,Ω,(λh=>by cases h),λ_=>Ω⟩
theorem Jd:mi 0 false 0:=by unfold mi aw;exact⟨Ω,Ω,(λh=>by cases h),λ_=>Ω⟩
theorem Je {n v:Int} {a:Bool} (h:mi n a v):v=if a=true\/4611686018427387904<n then 4611686018427387904 else n:=by
 obtain⟨h1,m,f,j⟩:=h;unfold aw at*;cases a with
 |true=>rw[if_pos (.inl rfl)];exact f rfl
 |false=>
  have:=j rfl;by_cases e:4611686018427387904<n
  .rw[if_pos (.inr e)];omega
  .rw[if_neg (by simp[e])];omega
structure Cell where
 v:Int
 st:Nat
structure kQ where
 i:Nat
 c:Cell
structure r1 where
 olds:Nat
 cells:Nat
 st:Nat
structure aC where
 cells:List Cell
 olds:List kQ
 marks:List r1
 iz:Nat
def aC.bT (t:aC):Λ:=t.cells.map (·.v)
def aC.set (t:aC) (i:Nat) (x:Int):aC:=match t.cells[i]? with
 |none=>t
 |some c=>match t.marks.getLast? with
  |none=>{t with cells:=t.cells.set i ⟨x,c.st⟩}
  |some m=>if c.st<m.st/\i<m.cells then {t with olds:=t.olds++[⟨i,c⟩],cells:=t.cells.set i ⟨x,m.st⟩} else {t with cells:=t.cells.set i ⟨x,c.st⟩}
def aC.grow (t:aC) (n:Nat):aC:={t with cells:=t.cells++r8 n ⟨0,0⟩}
def back (os:List kQ) (cs:List Cell):List Cell:=os.foldr (λo cs=>cs.set o.i o.c) cs
theorem pW:∀ (os:List kQ) (cs:List Cell),(back os cs).length=cs.length
 |[],_=>rfl
 |o::os,cs=>by
  have:=pW os cs;show ((back os cs).set o.i o.c).length=_;rw[c8,this]
theorem back_append (a b:List kQ) (cs:List Cell):back (a++b) cs=back a (back b cs):=by unfold back;rw[List.foldr_append]
theorem uZ:∀ {os:List kQ} {cs:List Cell} {n:Nat},(back os cs).take n=back (os.filter λo=>decide (o.i<n)) (cs.take n)
 |[],cs,n=>rfl
 |o::os,cs,n=>by
  show ((back os cs).set o.i o.c).take n=_;by_cases h:o.i<n
  .rw[List.filter_cons_of_pos (by simpa using h),List.take_set,uZ];rfl
  .rw[List.filter_cons_of_neg (by simpa using h),List.take_set_of_le Ω,uZ]
theorem zX {os:List kQ} {cs:List Cell} (h:∀o∈os,o.i<n):(back os cs).take n=back os (cs.take n):=by
 rw[uZ,List.filter_eq_self.2 λo a=>by simpa using h o a]
theorem zY:∀ {os:List kQ} {cs a:List Cell} {i:Nat},cs.length=a.length->(∃o∈os,o.i=i)->(back os cs)[i]? =(back os a)[i]?
 |[],_,_,_,_,⟨_,h,_⟩=>by cases h
 |o::os,cs,a,i,e,hm=>by
  show ((back os cs).set o.i o.c)[i]? =((back os a).set o.i o.c)[i]?;rw[Y7,Y7];by_cases h:o.i=i
  .rw[if_pos h,if_pos h,pW,pW,e]
  .rw[if_neg h,if_neg h];obtain⟨x,J,he⟩:=hm;rcases W9.1 J with rfl|J
   .exact absurd he h
   .exact zY e ⟨x,J,he⟩
theorem zZ:∀ {os:List kQ} {cs a:List Cell} {i:Nat},cs[i]? =a[i]? ->cs.length=a.length->(back os cs)[i]? =(back os a)[i]?
 |[],_,_,_,h,_=>h
 |o::os,cs,a,i,h,e=>by
  show ((back os cs).set o.i o.c)[i]? =((back os a).set o.i o.c)[i]?;rw[Y7,Y7,pW,pW,e,zZ h e]
def eh:aC->List aC->Prop
 |t,[]=>t.marks=[]/\t.olds=[]/\ ∀c∈t.cells,c.st<=t.iz
 |t,s::h=>eh s h/\(∀c∈t.cells,c.st<=t.iz)/\ ∃m new,t.marks=s.marks++[m]/\m.olds=s.olds.length/\m.cells=s.cells.length/\t.olds=s.olds++new/\m.cells<=t.cells.length/\(back new t.cells).take m.cells=s.cells/\
   (∀c∈s.cells,c.st<m.st)/\(∀c∈t.cells,c.st<=m.st)/\(∀ (i:Nat) c,i<m.cells->t.cells[i]? =σ c->c.st=m.st-> ∃o∈new,o.i=i)/\(∀o∈new,o.i<m.cells)/\m.st<=t.iz/\s.iz<=t.iz
theorem eh.grow {h:List aC} {t:aC} (hk:eh t h):eh (t.grow n) h:=by
 cases h with
 |nil=>
  refine⟨hk.1,hk.2.1,λc a=>?_⟩;rcases o7.1 a with a|a
  .exact hk.2.2 c a
  .rw[(List.mem_replicate.1 a).2];exact X3 _
 |cons s h=>
  obtain⟨h1,j,m,new,p,q,a3,a4,a5,r,w,x,a9,e,y,z⟩:=hk;have f:∀ {b:Nat},(∀c∈t.cells,c.st<=b)-> ∀c∈(t.grow n).cells,c.st<=b:=λA c a=>by
   rcases o7.1 a with a|a
   .exact A c a
   .rw[(List.mem_replicate.1 a).2];exact X3 _
  refine⟨h1,f j,m,new,p,q,a3,a4,by show m.cells<=(t.cells++_).length;rw[o4];omega,?_,w,f x,λi c hi a he=>?_,e,y,z⟩
  .show (back new (t.cells++_)).take m.cells=_;rw[zX e,List.take_append_of_le_length a5,<-zX e];exact r
  .have a:(t.cells++r8 n ⟨0,0⟩)[i]? =σ c:=a;rw[Y1 Ω] at a;exact a9 i c hi a he
theorem Jf {s:aC} {m:r1} {l:List r1} (h:l=s.marks++[m]):l.getLast? =σ m:=by rw[h,List.getLast?_concat]
theorem eh.set {h:List aC} {t:aC} {i:Nat} {x:Int} (hk:eh t h):eh (t.set i x) h:=by
 unfold aC.set;cases q:t.cells[i]? with
 |none=>exact hk
 |some c=>
  have F:=(x4.1 q).1;have y:=x5 q;have r:∀ {b st:Nat},(∀c∈t.cells,c.st<=b)->st<=b-> ∀d∈t.cells.set i ⟨x,st⟩,d.st<=b:=λM B d a=>by
   rcases X8 a with a|rfl
   .exact M d a
   .exact B
  cases h with
  |nil=>
   obtain⟨h1,w,G⟩:=hk;simp only[h1,List.getLast?_nil];exact⟨rfl,w,r G (G c y)⟩
  |cons s h=>
   obtain⟨h1,w,m,new,C,H,a3,a4,a5,I,J,z,a9,K,E,L⟩:=hk;simp only[Jf C];by_cases A:c.st<m.st/\i<m.cells
   .rw[if_pos A];refine⟨h1,r w E,m,new++[⟨i,c⟩],C,H,a3,by show t.olds++_=_;rw[a4,U6],by show m.cells<=(t.cells.set i _).length;rw[c8];exact a5,?_,J,r z (p8 _),λj d e a he=>?_,λo p=>?_,E,L⟩
    .show (back (new++[⟨i,c⟩]) (t.cells.set i _)).take m.cells=_;rw[back_append];have:back [⟨i,c⟩] (t.cells.set i ⟨x,m.st⟩)=t.cells:=by
      show (t.cells.set i _).set i c=_;rw[List.set_set];refine Y3 λj=>?_;rw[Y7];by_cases e:i=j
      .subst e;rw[if_pos rfl,if_pos F,q]
      .rw[if_neg e]
     rw[this];exact I
    .have a:(t.cells.set i ⟨x,m.st⟩)[j]? =σ d:=a;by_cases f:i=j
     .exact⟨⟨i,c⟩,Ξ,f⟩
     .rw[Y7,if_neg f] at a;obtain⟨o,p,he⟩:=a9 j d e a he;exact⟨o,List.mem_append_left _ p,he⟩
    .rcases o7.1 p with p|p
     .exact K o p
     .rw[o8.1 p];exact A.2
   .rw[if_neg A];refine⟨h1,r w (w c y),m,new,C,H,a3,a4,by show m.cells<=(t.cells.set i _).length;rw[c8];exact a5,?_,J,r z (z c y),λj d e a he=>?_,K,E,L⟩
    .rw[<-I];show (back new (t.cells.set i _)).take m.cells=_;refine Y3 λj=>?_;by_cases e:j<m.cells
     .rw[Z8 e,Z8 e];by_cases f:i=j
      .subst f;have B:c.st=m.st:=by
        have:=z c y;have:¬c.st<m.st:=λaJ=>A ⟨aJ,e⟩;omega
       exact zY (by rw[c8]) (a9 i c e q B)
      .exact zZ (by rw[Y7,if_neg f]) (by rw[c8])
     .rw[Z6 (by rw[j6];omega),Z6 (by rw[j6];omega)]
    .have a:(t.cells.set i ⟨x,c.st⟩)[j]? =σ d:=a;by_cases f:i=j
     .subst f;rw[Y7,if_pos rfl,if_pos F] at a;cases a;exact a9 i c e q he
     .rw[Y7,if_neg f] at a;exact a9 j d e a he
theorem aC.pX {t:aC} {i:Nat} {x:Int}:(t.set i x).bT=t.bT.set i x:=by
 unfold aC.set aC.bT;cases a:t.cells[i]? with
 |none=>rw[List.set_eq_of_length_le (by rw[u7];exact List.getElem?_eq_none_iff.1 a)]
 |some c=>
  simp only;cases t.marks.getLast? with
  |none=>simp only;rw[V8]
  |some m=>simp only;split<;>rw[V8]
theorem aC.Jg {t:aC}:(t.grow n).bT=t.bT++r8 n 0:=by
 unfold aC.grow aC.bT;rw[Z0,List.map_replicate]
end Go.Proofs.YtmgflbkdggdhoaaGreatDoor
