/- own texts, made small by a tool (wip/ holds them as they were written): no statement of the seat. -/
import Derived.RangeFuncNested
import Derived.RangeFuncLeaves
import Derived.OrdersIn
import Derived.KernelRfl
import Derived.Deep.Upon
import Derived.RangeFuncBound
import Derived.Deep.MidRow
import Derived.Laws.Cover3
import Derived.Laws.Pointers
import Derived.Laws.StructEq
import Derived.Laws.Tables
import Derived.Below
import Derived.Laws.MakeOwn
import Derived.Lib.Overlaps
import Derived.Lib.AppendZerosOnto
import Derived.Lib.SliceRun
import Derived.OpenShut
import Derived.Lib.ConvBytes
import Derived.Laws.BytesArg
import Derived.Laws.Concat
import Derived.MapKept
import Derived.Carry
import Derived.WideKeyArr
import Derived.WideKeyMaps
import Derived.Laws.IdiomRangeMap
import Derived.Shelf.SlSortCmp.NoneTotal
import Derived.Shelf.SlSortCmp.WholeK
import Derived.Ground.SlsfProg
import Derived.WideKeyEntry
import Derived.WalkKit
import Derived.Test.YtgbkinibgjmodaaGreatDoorProg
import Derived.Test.YtgbkinibgjmodaaGreatDoorChecked
set_option linter.unusedVariables false
set_option linter.unusedSimpArgs false
set_option linter.unnecessarySimpa false
open Array renaming getElem?_eq_some_iff→j6,getElem?_toList→S4
open BitVec renaming ofInt→U8
open Bool renaming not_true→Y1,not_false→X5,and_eq_true→U4,or_eq_false_iff→S2
open Decidable renaming not_not→X4
open Go renaming Value→x1,World→x2,TypeId→r9,IntKind→o6,Builtin→l7,Program→W7,Oper→T0,Operand→S0
open Go.Addr renaming add_mid→U7
open Go.Builtin renaming append_→l9,len_→Y3
open Go.Instr renaming loadAt→x6,fieldAt→x7,storeAt→o5,indexAt→n0,buildSlice→Z7,extract→Z9,sliceAt→W6,alloc→S7
open Go.IntKind renaming i64→Y6,u64→U6
open Go.Proofs.Tryz renaming prog→x3
open Go.Result renaming andThen→W5
open Go.Sem renaming run_bind→W0,run_pure→V1
open Go.Sort renaming Holds→S1
open Go.Value renaming int→V4
open Int renaming toNat_natCast→j0
open List renaming getElem?_eq_getElem→y0,getElem?_eq_some_iff→x4,mem_of_getElem?→x5,getElem?_map→x8,length_map→u4,getD_eq_getElem?_getD→u5,length_append→u9,take_add_one→r8,length_take→o4,replicate→o7,take_length→o9,mem_append→n9,take_of_length_le→l5,mem_singleton→j4,length_cons→j5,getElem?_append_left→j9,mem_map→Z1,getElem?_append_right→Z2,map_append→Z3,eq_nil_of_length_eq_zero→Z5,getElem?_take_of_lt→Y2,length_set→X2,append_nil→X6,ext_getElem?→X8,length_eq_one_iff→X9,range→W3,getElem?_set_ne→W8,drop_eq_getElem_cons→V0,getElem?_set_self→V9,mem_of_mem_take→U3,set_append_right→U9,mem_cons→T1,map_set→T2,getElem_mem→T6,map_cons→S3,length_drop→R5
open Nat renaming le_refl→o8,mul_le_mul_right→Y5,le_trans→Y9,zero_le→X3,sub_self→W9,zero_add→V3,add_mul→U5,beq→T3,mul_one→T5,le_succ→S6,add_assoc→S8
open Ne renaming symm→T9
open Option renaming isNone_some→Z0,toList_some→Z4,map_some→Y0,map→U1,getD_some→T4
open Option.some renaming injEq→Y8
open Prod.mk renaming injEq→T8
set_option maxHeartbeats 16000000
open Option renaming some→σ,none→ν
abbrev Λ:=List Int
namespace Go
theorem Ω{p:Prop}(h:p:=by omega):p:=h
theorem Ψ{p:Prop}(h:p:=by kernel_rfl):p:=h
theorem Φ{p:Prop}(h:p:=by decide):p:=h
theorem Ξ{p:Prop}(h:p:=by simp):p:=h
theorem Θ{p:Prop}(h:p:=by simp;omega):p:=h
abbrev Γ(n:Nat):Value:=.pointer (some ⟨n,0,none⟩)
abbrev Δ:Int→Value:=Value.int .i64
end Go
variable {a y:Int}{c w w':x2}{S:Nat->Prop}{I U X h j m n o:Nat}{aE s1 sv v z:x1}{args cs vs xs:List x1}{K:x1->Prop}{l szs:Λ}{D:List Nat}{k:o6}{V e t:r9}{cx cy:Bool}
namespace Go.Vc
open Go Go.RowKit
def fK:Obj->Bool
 | .loop _=>false
 | .deferred _=>false
 | .mapIter ..=>false
 |_=>true
def book:Obj->Bool
 | .loop _=>true
 | .deferred _=>true
 |_=>false
theorem Cf {o:Obj} (h:book o=true):fK o=false:=by cases o<;>first|rfl|cases h
def p3:Obj->Bool
 | .mapIter ..=>true
 |_=>false
theorem Cg {o:Obj} (h:p3 o=true):fK o=false:=by cases o<;>first|rfl|cases h
structure Ext (w w':x2):Prop where
 size:w.heap.size<=w'.heap.size
 a7:∀ (r:Nat) (o:Obj),w.heap[r]? =σ o->fK o=true->w'.heap[r]? =σ o
theorem Ext.refl (w:x2):Ext w w:=⟨o8 _,λ_ _ h _=>h⟩
theorem Ext.trans {a b:x2} (h:Ext a b) (k:Ext b c):Ext a c:=
 ⟨Y9 h.size k.size,λr o J I=>k.a7 r o (h.a7 r o J I) I⟩
structure ag (S:Nat->Prop) (w w':x2):Prop where
 size:w.heap.size<=w'.heap.size
 a7:∀ (r:Nat) (o:Obj),w.heap[r]? =σ o->fK o=true->¬S r->w'.heap[r]? =σ o
theorem Ext.aa (S:Nat->Prop) (h:Ext w w'):ag S w w':=⟨h.size,λr o J I _=>h.a7 r o J I⟩
theorem ag.ext (h:ag S w w') (U:∀r,r<w.heap.size->¬S r):Ext w w':=
 ⟨h.size,λr o J I=>h.a7 r o J I (U r (j6.1 J).1)⟩
theorem ag.refl (S:Nat->Prop) (w:x2):ag S w w:=⟨o8 _,λ_ _ h _ _=>h⟩
theorem ag.trans {a b:x2} (h:ag S a b) (k:ag S b c):ag S a c:=
 ⟨Y9 h.size k.size,λr o U I J=>k.a7 r o (h.a7 r o U I J) I J⟩
theorem ag.mono {T:Nat->Prop} {a b:x2} (h:ag S a b) (U:∀r,r<a.heap.size->S r->T r):ag T a b:=
 ⟨h.size,λr o J I V=>h.a7 r o J I λW=>V (U r (j6.1 J).1 W)⟩
theorem Ext.then {a b:x2} (h:Ext a b) (k:ag S b c) (U:∀r,r<a.heap.size->¬S r):Ext a c:=
 ⟨Y9 h.size k.size,λr o J I=>k.a7 r o (h.a7 r o J I) I (U r (j6.1 J).1)⟩
def iU (w w':x2):Prop:=w'.tape=w.tape/\w.drawn<=w'.drawn
theorem iU.jx (h:w'.tape=w.tape:=by rfl) (k:w'.drawn=w.drawn:=by rfl):iU w w':=⟨h,Nat.le_of_eq k.symm⟩
theorem iU.trans {a b:x2} (k:iU b c) (h:iU a b):iU a c:=⟨k.1.trans h.1,Y9 h.2 k.2⟩
structure cN (w w':x2):Prop where
 os:w'.os=w.os
 tape:iU w w'
 output:w'.output=w.output
 size:w.heap.size<=w'.heap.size
 a7:∀ (r:Nat) (o:Obj),w.heap[r]? =σ o->fK o=false->w'.heap[r]? =σ o
structure ch (n:Nat) (w w':x2):Prop where
 os:w'.os=w.os
 tape:iU w w'
 output:w'.output=w.output
 size:w.heap.size<=w'.heap.size
 a7:∀ (r:Nat) (o:Obj),w.heap[r]? =σ o->book o=true->w'.heap[r]? =σ o
 old:∀ (r:Nat) (o:Obj),r<n->w.heap[r]? =σ o->fK o=false->w'.heap[r]? =σ o
theorem cN.b (h:cN w w'):ch n w w':=⟨h.os,h.tape,h.output,h.size,λr o J I=>h.a7 r o J (Cf I),λr o _ J I=>h.a7 r o J I⟩
theorem ch.refl (n:Nat) (w:x2):ch n w w:=⟨rfl,.jx,rfl,o8 _,λ_ _ h _=>h,λ_ _ _ h _=>h⟩
theorem ch.trans {a b:x2} (h:ch n a b) (k:ch n b c):ch n a c:=
 ⟨k.os.trans h.os,k.tape.trans h.tape,k.output.trans h.output,Y9 h.size k.size,λr o J I=>k.a7 r o (h.a7 r o J I) I,λr o U J I=>k.old r o U (h.old r o U J I) I⟩
theorem ch.step {a b:x2} (h:ch n a b) (k:ch m b c) (hm:a.heap.size<=m):ch n a c:=
 ⟨k.os.trans h.os,k.tape.trans h.tape,k.output.trans h.output,Y9 h.size k.size,λr o J I=>k.a7 r o (h.a7 r o J I) I,
  λr o U J I=>k.old r o (Nat.lt_of_lt_of_le (j6.1 J).1 hm) (h.old r o U J I) I⟩
theorem ch.dv (h:ch n w w') (U:w.heap.size<=n):cN w w':=
 ⟨h.os,h.tape,h.output,h.size,λr o J I=>h.old r o (Nat.lt_of_lt_of_le (j6.1 J).1 U) J I⟩
def eE (w w':x2):Prop:=∀ (r:Nat) (o:Obj),w.heap[r]? =σ o->p3 o=true->w'.heap[r]? =σ o
theorem eE.refl (w:x2):eE w w:=λ_ _ h _=>h
theorem eE.trans {a b:x2} (h:eE a b) (k:eE b c):eE a c:=λr o J I=>k r o (h r o J I) I
theorem cN.k0 (h:cN w w'):eE w w':=λr o J I=>h.a7 r o J (Cg I)
abbrev eZ:=Bool×Nat
theorem cN.refl (w:x2):cN w w:=⟨rfl,.jx,rfl,o8 _,λ_ _ h _=>h⟩
theorem cN.trans {a b:x2} (h:cN a b) (k:cN b c):cN a c:=
 ⟨k.os.trans h.os,k.tape.trans h.tape,k.output.trans h.output,Y9 h.size k.size,λr o J I=>k.a7 r o (h.a7 r o J I) I⟩
theorem p4 (w:x2) (n:Nat):Ext w {w with drawn:=n}:=⟨o8 _,λ_ _ h _=>h⟩
theorem ov (w:x2) (n:Nat) (h:w.drawn<=n):cN w {w with drawn:=n}:=⟨rfl,⟨rfl,h⟩,rfl,o8 _,λ_ _ h _=>h⟩
theorem ow (w:x2) (o:Obj):Ext w {w with heap:=w.heap.push o}:=
 ⟨Ξ,λr o' h _=>by
  have I:=(j6.1 h).1;simp only[Array.getElem?_push];rw[if_neg Ω];exact h⟩
theorem ox (w:x2) (o:Obj):cN w {w with heap:=w.heap.push o}:=
 ⟨rfl,.jx,rfl,Ξ,λr o' h _=>by
  have I:=(j6.1 h).1;simp only[Array.getElem?_push];rw[if_neg Ω];exact h⟩
inductive ed where
 |v (x:x1)
 |b (c:Bool)
 |u
def ed.val:ed->x1
 | .v x=>x
 | .b c=>.bool c
 | .u=>undef
def ed.ofConst:x1->ed
 | .bool c=>.b c
 |x=>.v x
theorem ed.Ch (x:x1):(ed.ofConst x).val=x:=by cases x<;>rfl
abbrev Env:=List (Nat×ed)
def look:Env->Nat->Option ed
 |[],_=>ν
 |(s,x)::r,t=>bif T3 s t then σ x else look r t
def ej (e:Env):S0->Option ed
 | .tmp t=>look e t
 | .const x=>σ (ed.ofConst x)
 | .global g=>σ (.v (Γ g))
 | .func f=>σ (.v (.func (.func f) #[] #[]))
def cJ (e:Env) (x:S0):x1:=
 match ej e x with
 |some y=>y.val
 |none=>undef
def known (e:Env):List S0->Bool
 |[]=>true
 |x::r=>(ej e x).isSome&&known e r
def S1 (N:Nat) (e:Env) (a:Act):Prop:=
 a.tmps.size=N/\ ∀t x,look e t=σ x->a.tmps.getD t undef=x.val
theorem S1.ej {N:Nat} {e:Env} {a:Act} (h:S1 N e a) {x:S0} {y:ed} (I:Vc.ej e x=σ y):a.eval x=y.val:=by
 cases x with
 |tmp t=>exact h.2 t y I
 |const v=>simp[Vc.ej] at I;subst I;simp[Act.eval,ed.Ch]
 |global g=>simp[Vc.ej] at I;subst I;rfl
 |func f=>simp[Vc.ej] at I;subst I;rfl
theorem S1.eval {N:Nat} {e:Env} {a:Act} (h:S1 N e a) {x:S0} (J:(Vc.ej e x).isSome=true):a.eval x=cJ e x:=by
 obtain⟨y,I⟩:=Option.isSome_iff_exists.1 J;rw[h.ej I];simp[cJ,I]
theorem sd {e:Env}:∀ {l:List S0},known e l=true-> ∀x∈l,(ej e x).isSome=true
 |[],_,_,I=>by cases I
 |y::r,h,x,I=>by
  simp only[known,U4] at h;cases I with
  |head=>exact h.1
  |tail _ I=>exact sd h.2 x I
def dC (e:Env) (d:Option Tmp) (x:ed):Env:=
 match d with
 |some t=>(t,x)::e
 |none=>e
def io (N:Nat) (d:Option Tmp):Bool:=
 match d with
 |some t=>Nat.blt t N
 |none=>true
theorem S1.put {N:Nat} {e:Env} {a:Act} (h:S1 N e a) {d:Option Tmp} (V:io N d=true) {x:ed} (W:x.val=v):
  S1 N (dC e d x) (a.put d v):=by
 cases d with
 |none=>exact h
 |some t=>
  have X:t<N:=by simpa[io,Nat.blt_eq] using V
  refine⟨by simp[Act.put,h.1],λs y I=>?_⟩;simp only[dC,look] at I;cases J:T3 t s with
  |true=>
   have U:t=s:=Nat.eq_of_beq_eq_true J;subst U;simp only[J,cond_true,Y8] at I;subst I;simp[Act.put,h.1,X,W]
  |false=>
   have U:t≠s:=Nat.ne_of_beq_eq_false J;simp only[J,cond_false] at I;have:=h.2 s y I;simp only[Act.put,Array.getD_eq_getD_getElem?] at this ⊢;rw[Array.getElem?_setIfInBounds_ne U];exact this
def dX (r:Option Nat):Fence:={Fence.wide with round:=r}
theorem se (r:Option Nat) (n:Nat):(dX r).depth.isSome=true->1<=n:=λh=>by simp[dX,Fence.wide] at h
theorem vx {r:Option Nat} {P:W7} {f:FuncId} {args:Array x1} {R:Ending->x2->Prop}
  (h:Calls P f args w R):CallsIn (dX r) n P f args w R:=by
 have:=(callsIn_wide (n:=n)).2 h;exact this
section
variable (P:W7)
def aA {α:Type} (s:Sem α) (w:x2) (K:α->x2->Prop):Prop:=∃v w',s.run P w= .ok v w'/\cN w w'/\K v w'
def p5 {α:Type} (free:eZ) (s:Sem α) (w:x2) (K:α->x2->Prop):Prop:=∃v w',s.run P w= .ok v w'/\(free.1=false->ch free.2 w w')/\K v w'
def Split (x:x1) (A B:Prop):Prop:=∃c,x= .bool c/\(c=true->A)/\(c=false->B)
def aL:Bool->S0
 |true=>.const (.bool true)
 |false=>.tmp 0
def mX:S0->Bool
 | .const _=>true
 |_=>false
theorem Ci (op:BinOp) (t:r9) (x y:S0) (a b:x1):eqGuard op t x y a b=eqGuard op t (aL (mX x)) (aL (mX y)) a b:=by
 cases x<;>cases y<;>rfl
def aC (op:BinOp) (t:r9) (cx cy:Bool) (a b:x1):Sem x1:=do eqGuard op t (aL cx) (aL cy) a b;binOp op t a b
def p6 (s:Sem Next):Sem x1:=do
 match <-s with
 | .value v=>pure v
 |_=>stuck "no value"
def aY (x:x1):Sem x1:=p6 (execOp (λ_=>x) {dst:=ν,op:=.nilCheck (.tmp 0),type:=0,pos:= "",after:=#[],guard:=ν})
def bT (I:S0->x1):List S0->List x1
 |[]=>[]
 |x::r=>I x::bT I r
theorem p7 (I:S0->x1):∀l,bT I l=l.map I
 |[]=>rfl
 |x::r=>by simp[bT,p7 I r]
theorem sf (I:S0->x1) (l:Array S0):(bT I l.toList).toArray=l.map I:=by
 apply Array.toList_inj.1;simp[p7]
def partsOf (I:S0->x1):List (Nat×S0)->List (Nat×x1)
 |[]=>[]
 |x::r=>(x.1,I x.2)::partsOf I r
theorem vy (I:S0->x1):∀l,partsOf I l=l.map λ(i,x)=>(i,I x)
 |[]=>rfl
 |x::r=>by simp[partsOf,vy I r]
theorem Cj (I:S0->x1) (l:Array (Nat×S0)):(partsOf I l.toList).toArray=l.map λ(i,x)=>(i,I x):=by
 apply Array.toList_inj.1;simp[vy]
def opsOf:Op->List S0
 | .alloc _| .ready _| .waits _=>[]
 | .move x| .assign x| .box _ x| .load _ x| .nilCheck x| .unOp _ _ x| .convert _ _ x| .sliceToArrayPointer _ x| .makeInterface _ x
 | .makeChan _ x| .fieldAddr _ x _| .field _ x _| .range _ x| .next x _| .entry x| .typeAssert x _ _ _| .extract x _| .panic x| .recv _ x _=>[x]
 | .pick c a b=>[c,a,b]
 | .build _ I| .buildSlice _ _ I=>I.toList.map (·.2)
 | .store _ a v| .binOp _ _ a v _| .makeSlice _ a v| .indexAddr _ a v| .index _ a v| .lookup _ a v _| .mapEntry _ a v| .send a v=>[a,v]
 | .makeFunc _ first J=>first.toList++J.toList
 | .makeMap _ r=>match r with
  |some x=>[x]
  |none=>[]
 | .slice _ x l h m=>x::((match l with
  |some y=>[y]
  |none=>[])++((match h with
  |some y=>[y]
  |none=>[])++(match m with
  |some y=>[y]
  |none=>[])))
 | .mapUpdate _ m k v| .entryStore _ m k v| .insert _ m k v=>[m,k,v]
 | .call c=>match c.callee with
  | .value f=>f::c.args.toList
  | .invoke r _=>r::c.args.toList
  | .builtin _=>c.args.toList
 | .go _| .defer _| .select ..=>[]
theorem Ck {op:Op} (h1:∀c,op≠ .go c) (J:∀c,op≠ .defer c) (U:∀cs b,op≠ .select cs b):∀x∈op.operands,x∈opsOf op:=by
 intro x I;cases op<;>simp only[Op.operands,opsOf] at I ⊢<;>try (first|(simp at I;done)|(simp at I ⊢;exact I))
 case go c=>exact absurd rfl (h1 c)
 case defer c=>exact absurd rfl (J c)
 case select cs b=>exact absurd rfl (U cs b)
 case makeMap t r=>cases r<;>simp at I ⊢<;>exact I
 case slice t y l h m=>cases l<;>cases h<;>cases m<;>simpa[or_assoc] using I
 case call c=>cases V:c.callee<;>simpa[Call.operands,V] using I
def oy (I:S0->x1):Op->Option (Sem x1)
 | .pick c a b=>σ (do pure (if <-asBool (I c) then I a else I b))
 | .alloc V=>σ (S7 V true (.tuple #[]))
 | .box V x=>σ (Instr.box V (I x))
 | .build t parts=>σ (Instr.build t (partsOf I parts.toList).toArray)
 | .buildSlice t len parts=>σ (Z7 t len (partsOf I parts.toList).toArray)
 | .load t a=>σ (x6 t (I a))
 | .nilCheck x=>σ (aY (I x))
 | .binOp op J x y _=>σ (aC op J (mX x) (mX y) (I x) (I y))
 | .unOp op _ x=>σ (Op.unary op (I x))
 | .convert src dst x=>σ (convert src dst (I x))
 | .makeInterface J x=>σ (Instr.makeInterface J (I x))
 | .makeFunc fn first W=>σ (Instr.makeFunc fn (bT I first.toList).toArray (bT I W.toList).toArray)
 | .makeMap t r=>σ (Instr.makeMap t (r.map I))
 | .makeSlice t l c=>σ (Instr.makeSlice t (I l) (I c))
 | .slice t x lo hi mx=>σ (W6 t (I x) (lo.map I) (hi.map I) (mx.map I))
 | .fieldAddr s x f=>σ (x7 s (I x) f)
 | .field J x f=>σ (Instr.field J (I x) f)
 | .indexAddr t x U=>σ (n0 t (I x) (I U))
 | .index J x U=>σ (Instr.index J (I x) (I U))
 | .lookup J x U ok=>σ (Instr.lookup J (I x) (I U) ok)
 | .mapEntry t m k=>σ (Instr.mapEntry t (I m) (I k))
 | .range J x=>σ (Instr.range J (I x))
 | .entry X=>σ (Instr.entry (I X))
 | .typeAssert x J Y ok=>σ (Instr.typeAssert (I x) J Y ok)
 | .extract t U=>σ (Z9 (I t) U)
 |_=>ν
def sg (I:S0->x1):Op->Option (Sem Unit)
 | .store t a x=>σ (o5 t (I a) (I x))
 | .mapUpdate t m k x=>σ (Instr.mapUpdate t (I m) (I k) (I x))
 | .insert t m k x=>σ (Instr.mapUpdate t (I m) (I k) (I x))
 | .entryStore t m s x=>σ (Instr.entryStore t (I m) (I s) (I x))
 |_=>ν
def mY (b:l7) (ats:Array r9) (I:r9) (args:Array x1):Option (Sem x1):=
 match b with
 | .append=>σ (l9 ats I args)
 | .cap=>σ (l7.cap_ ats I args)
 | .clear=>σ (l7.clear_ ats I args)
 | .copy=>σ (l7.copy_ ats I args)
 | .delete=>σ (l7.delete_ ats I args)
 | .len=>σ (Y3 ats I args)
 | .max=>σ (l7.max_ ats I args)
 | .min=>σ (l7.min_ ats I args)
 |_=>ν
theorem Cl {s:Sem Next} (h:(p6 s).run P w= .ok v w'):s.run P w= .ok (.value v) w':=by
 unfold p6 at h;rw[W0] at h;cases I:s.run P w with
 |halt x U=>rw[I] at h;simp[W5] at h
 |ok x U=>
  rw[I] at h;cases x<;>simp_all [W5,stuck,V1]
theorem Cm (x:x1) (b:Bool) (t:r9):Instr.next x b 0=Instr.next x b t:=rfl
theorem sh {V:S0->x1} {o:T0} {s:Sem x1} (h:oy V o.op=σ s) (I:s.run P w= .ok v w'):
  (execOp V o).run P w= .ok (.value v) w':=by
 cases J:o.op with
 |nilCheck x=>
  rw[J] at h;cases h;have:=Cl P I;unfold execOp at this ⊢;simpa[J] using this
 |pick c x y=>
  rw[J] at h;cases h;unfold execOp;simp only[J,W0,V1] at I ⊢;cases W:(asBool (V c)).run P w with
  |halt x U=>rw[W] at I;simp[W5] at I
  |ok x U=>rw[W] at I;simp only[W5,Result.ok.injEq] at I ⊢;simp[I]
 |binOp op X x y Y=>
  rw[J] at h;cases h;unfold execOp;simp only[J];unfold aC at I;rw[<-Ci] at I;simp only[W0,V1] at I ⊢;rw[I];rfl
 |_=>
  rw[J] at h
  first
   |(cases h;done)
   |(cases h;simp only[sf,Cj] at I;unfold execOp;simp only[J,W0,I,W5,V1])
   |(cases h;unfold execOp;simp only[J,W0,I,W5,V1])
theorem Cn {I:S0->x1} {o:T0} {s:Sem Unit} (h:sg I o.op=σ s) {v:Unit} (U:s.run P w= .ok v w'):
  (execOp I o).run P w= .ok .skip w':=by
 cases J:o.op with
 |_=>
  rw[J] at h
  first
   |(cases h;done)
   |(cases h;unfold execOp;simp only[J,W0,U,W5,V1])
def Enters (f:FuncId):Prop:=∀args w,(callFunc f args).run P w= .ok (.enter f args) w
inductive ak (f:FuncId) (args:List x1) (w:x2) (K:x1->x2->Prop):Prop
 |code (h1:Enters P f) (h2:Calls P f args.toArray w λe w'=>∃v,e= .returned v/\cN w w'/\K v w')
 |ext (v:x1) (w':x2) (h1:(callFunc f args.toArray).run P w= .ok (.value v) w') (h2:cN w w') (h3:K v w')
inductive fZ (f:FuncId) (args:List x1) (w:x2) (K:x1->x2->Prop):Prop
 |code (h1:Enters P f) (h2:Calls P f args.toArray w λe w'=>∃v,e= .returned v/\K v w')
 |ext (v:x1) (w':x2) (h1:(callFunc f args.toArray).run P w= .ok (.value v) w') (h3:K v w')
theorem fZ.calls {f:FuncId} {K:x1->x2->Prop} (h:fZ P f args w K) (I:Enters P f):Calls P f args.toArray w λe w'=>∃v,e= .returned v/\K v w':=by
 cases h with
 |code _ h=>exact h
 |ext v w' h1=>rw[I] at h1;cases h1
def ip (l:Nat) (args:List x1) (w:x2) (K:x1->x2->Prop):Prop:=
 YieldAt Fence.wide 0 P l args.toArray w λe w'=>∃v,e= .returned v/\K v w'
theorem ip.mono {P:W7} {l:Nat} {K I:x1->x2->Prop} (h:ip P l args w K) (J:∀v w',K v w'->I v w'):ip P l args w I:=by
 obtain⟨fn,tmps,U,body,V,W⟩:=h;exact⟨fn,tmps,U,body,V,RoundIn.mono W λ_ w' ⟨v,h1,X⟩=>⟨v,h1,J v w' X⟩⟩
def p8 (free:Bool) (f:x1) (args:List x1) (w:x2) (K:x1->x2->Prop):Prop:=
 match f with
 | .func (.func g) first cap=>bif free then fZ P g (first.toList++args++cap.toList) w K else ak P g (first.toList++args++cap.toList) w K
 | .func (.yield l) first _=>bif free then free=true/\ip P l (first.toList++args) w K else ip P l (first.toList++args) w λv w'=>cN w w'/\K v w'
 |_=>False
def J (s:Sem x1) (w:x2) (K:x1->Prop):Prop:=∃v,(∀w',Ext w w'->s.run P w'= .ok v w')/\K v
def Co:List (Nat×Nat):=[(9,22),(22,22)]
def Cp (s d:Nat):Bool:=Co.any λp=>T3 p.1 s&&T3 p.2 d
def hY (o:T0):Bool:=
 match o.op with
 | .convert s d _=>!Cp s d
 | .move _| .assign _| .pick .. | .load .. | .nilCheck _| .binOp .. | .unOp .. | .makeInterface .. | .makeFunc .. | .slice .. | .fieldAddr .. | .field ..
 | .indexAddr .. | .index .. | .lookup .. | .extract .. | .build .. | .typeAssert ..=>true
 | .call c=>
  match c.callee with
  | .builtin .len| .builtin .cap| .builtin .min| .builtin .max=>true
  |_=>false
 |_=>false
def bl (s:Sem x1) (v:x1) (w':x2):Prop:=∀I,Ext w' I->s.run P I= .ok v I
def kg (o:T0) (e:Env) (w:x2) (K:Env->(x2->Prop)->Prop):Prop:=
 bif known e (opsOf o.op) then
  match o.op with
  | .move x| .assign x=>
   match ej e x with
   |some y=>K (dC e o.dst y) (λ_=>True)
   |none=>False
  | .pick c a b=>
   match ej e c with
   |some (.b true)=>(match ej e a with|some y=>K (dC e o.dst y) (λ_=>True)|none=>False)
   |some (.b false)=>(match ej e b with|some y=>K (dC e o.dst y) (λ_=>True)|none=>False)
   |some (.v x)=>Split x (K (dC e o.dst (.v (cJ e a))) (λ_=>True)) (K (dC e o.dst (.v (cJ e b))) (λ_=>True))
   |some .u=>False
   |none=>False
  | .call c=>
   match c.callee with
   | .builtin b=>
    match mY b c.argTypes o.type (bT (cJ e) c.args.toList).toArray with
    |some s=>J P s w λv=>K (dC e o.dst (.v v)) (bl P s v)
    |none=>False
   |_=>False
  |op=>
   match oy (cJ e) op with
   |some s=>J P s w λv=>K (dC e o.dst (.v v)) (bl P s v)
   |none=>False
 else False
def si (free:eZ) (o:T0) (e:Env) (w:x2) (K:Env->x2->Prop):Prop:=
 bif known e (opsOf o.op) then
  match o.op with
  | .call c=>
   match c.callee with
   | .builtin b=>
    match mY b c.argTypes o.type (bT (cJ e) c.args.toList).toArray with
    |some s=>aA P s w λv w'=>K (dC e o.dst (.v v)) w'
    |none=>False
   | .value (.func f)=>
    bif free.1 then fZ P f (bT (cJ e) c.args.toList) w λv w'=>K (dC e o.dst (.v v)) w'
    else ak P f (bT (cJ e) c.args.toList) w λv w'=>K (dC e o.dst (.v v)) w'
   | .value x=>p8 P free.1 (cJ e x) (bT (cJ e) c.args.toList) w λv w'=>K (dC e o.dst (.v v)) w'
   | .invoke _ _=>False
  | .next x str=>p5 P free (Instr.next (cJ e x) str 0) w λv w'=>K (dC e o.dst (.v v)) w'
  |op=>
   match oy (cJ e) op with
   |some s=>aA P s w λv w'=>K (dC e o.dst (.v v)) w'
   |none=>
    match sg (cJ e) op with
    |some s=>aA P s w λ_ w'=>K (dC e o.dst (.v undef)) w'
    |none=>False
 else False
def mZ (free:eZ) (o:T0) (e:Env) (w:x2) (K:Env->x2->Prop):Prop:=
 bif hY o then kg P o e w (λI _=>K I w) else si P free o e w K
theorem Enters.of {f:FuncId} {fn:Func} {c:Code} (I:P.funcs[f]? =σ fn) (J:fn.body=σ c) (U:(fn.name == "runtime.NumGoroutine")=false):Enters P f:=by
 intro args w;have V:fn.name≠ "runtime.NumGoroutine":=by simpa using U
 unfold callFunc;simp[W0,program,Sem.run,W5,I,V,J,V1]
variable {P}
variable {N:Nat} {r:Option Nat} {o:T0} {e:Env} {a:Act} {w:x2}
theorem iV (J:S1 N e a) (U:known e (opsOf o.op)=true) (I:∀cs b,o.op≠ .select cs b) (V:∀c,o.op≠ .go c:=by simp_all) (W:∀c,o.op≠ .defer c:=by simp_all):
  execOp a.eval o=execOp (cJ e) o:=
 execOp_congr o I λx X=>J.eval (sd U x (Ck V W I x X))
theorem oz {next:Act->x2->Prop} {Q:Exit->Act->x2->Prop} (U:S1 N e a) (V:known e (opsOf o.op)=true) (I:∀cs b,o.op≠ .select cs b)
  (J:∀c,o.op≠ .defer c) {v:x1} {w':x2} (W:(execOp (cJ e) o).run P w= .ok (.value v) w') (h:next (a.put o.dst v) w') (X:∀c,o.op≠ .go c:=by simp_all):o.wpIn (dX r) 0 P a w next Q:=by
 refine⟨λ_ _=>trivial,?_⟩;rw[T0.semAt_eq _ _ _ J,iV U V I X J,W,T0.uponIn_value];exact h
theorem Cq {next:Act->x2->Prop} {Q:Exit->Act->x2->Prop} (U:S1 N e a) (V:known e (opsOf o.op)=true) (I:∀cs b,o.op≠ .select cs b)
  (J:∀c,o.op≠ .defer c) {w':x2} (W:(execOp (cJ e) o).run P w= .ok .skip w') (h:next (a.put o.dst undef) w') (X:∀c,o.op≠ .go c:=by simp_all):o.wpIn (dX r) 0 P a w next Q:=by
 refine⟨λ_ _=>trivial,?_⟩;rw[T0.semAt_eq _ _ _ J,iV U V I X J,W,T0.uponIn_skip];exact h
def eS (N:Nat) (free:eZ) (K:Env->x2->Prop) (o:T0) (a:Act) (w:x2) (a':Act) (w':x2):Prop:=
 ∃I v,K I w'/\S1 N I a'/\a'=a.put o.dst v/\(free.1=false->ch free.2 w w')
theorem eS.of {free:eZ} {K:Env->x2->Prop} {x:ed} (I:K (dC e o.dst x) w') (J:S1 N e a) (U:io N o.dst=true) (V:x.val=v)
  (W:free.1=false->ch free.2 w w'):eS N free K o a w (a.put o.dst v) w':=⟨_,v,I,J.put U V,rfl,W⟩
theorem vz {free:eZ} {K:Env->x2->Prop} {Q:Exit->Act->x2->Prop} {f:FuncId} {args:Array x1} (J:S1 N e a) (U:io N o.dst=true)
  (h:Calls P f args w λI w'=>∃v,I= .returned v/\(free.1=false->ch free.2 w w')/\K (dC e o.dst (.v v)) w'):
  o.uponIn (dX r) 0 P a (eS N free K o a w) Q (.ok (.enter f args) w):=by
 rw[T0.uponIn_enter];refine⟨se _ _,CallsIn.mono (vx h) ?_⟩;rintro I w' ⟨v,rfl,V,W⟩;exact eS.of W J U rfl V
theorem kh {x:S0} {y:ed} (h:ej e x=σ y):cJ e x=y.val:=by simp[cJ,h]
theorem vA {l:List S0} {x:S0} (I:known e l=true) (J:x∈l):∃y,ej e x=σ y:=Option.isSome_iff_exists.1 (sd I x J)
theorem vB {K:Env->(x2->Prop)->Prop} (h:kg P o e w K) (aa:S1 N e a) (ai:io N o.dst=true):
  ∃v,∃st:x2->Prop,(∀w',Ext w w'->(execOp a.eval o).run P w'= .ok (.value v) w')/\(∃ab,K ab st/\S1 N ab (a.put o.dst v))/\(∀c,o.op≠ .defer c)/\
   (∀w',st w'-> ∀U,Ext w' U->(execOp a.eval o).run P U= .ok (.value v) U):=by
 unfold kg at h;cases Y:known e (opsOf o.op) with
 |false=>rw[Y] at h;exact h.elim
 |true=>
  rw[Y] at h;simp only[cond_true] at h;have put:∀ {x:ed} {v:x1} {st:x2->Prop},K (dC e o.dst x) st->x.val=v-> ∃ab,K ab st/\S1 N ab (a.put o.dst v):=λh1 ac=>⟨_,h1,aa.put ai ac⟩;cases J:o.op with
  |move x=>
   rw[J] at h;simp only at h;cases W:ej e x with
   |none=>rw[W] at h;exact h.elim
   |some y=>
    rw[W] at h;have all:∀w':x2,(execOp a.eval o).run P w'= .ok (.value y.val) w':=λw'=>by
     rw[iV aa Y (by simp[J])];unfold execOp;simp only[J,V1,kh W]
    exact⟨y.val,_,λw' _=>all w',put h rfl,Ξ,λ_ _ U _=>all U⟩
  |assign x=>
   rw[J] at h;simp only at h;cases W:ej e x with
   |none=>rw[W] at h;exact h.elim
   |some y=>
    rw[W] at h;have all:∀w':x2,(execOp a.eval o).run P w'= .ok (.value y.val) w':=λw'=>by
     rw[iV aa Y (by simp[J])];unfold execOp;simp only[J,V1,kh W]
    exact⟨y.val,_,λw' _=>all w',put h rfl,Ξ,λ_ _ U _=>all U⟩
  |pick c x y=>
   rw[J] at h;simp only at h;have ae:=Y;rw[J] at ae;obtain⟨am,W⟩:=vA ae (x:=x) (by simp[opsOf]);obtain⟨an,ah⟩:=vA ae (x:=y) (by simp[opsOf]);have ad:∀ (t:Bool) (w':x2),cJ e c= .bool t->(execOp a.eval o).run P w'= .ok (.value (if t=true then cJ e x else cJ e y)) w':=by
    intro t w' af;rw[iV aa Y (by simp[J])];unfold execOp;simp[J,af,asBool,V1]
   cases V:ej e c with
   |none=>rw[V] at h;exact h.elim
   |some aj=>
    rw[V] at h;cases aj with
    |b t=>
     cases t with
     |true=>
      simp only[W] at h;exact⟨_,_,λw' _=>ad true w' (kh V),put h (by simp[kh W]),Ξ,λ_ _ w' _=>ad true w' (kh V)⟩
     |false=>
      simp only[ah] at h;exact⟨_,_,λw' _=>ad false w' (kh V),put h (by simp[kh ah]),Ξ,λ_ _ w' _=>ad false w' (kh V)⟩
    |v z=>
     obtain⟨t,ak,af,al⟩:=h;have X:=λw'=>ad t w' (by rw[kh V];exact ak);cases t with
     |true=>exact⟨_,_,λw' _=>X w',put (af rfl) rfl,Ξ,λ_ _ w' _=>X w'⟩
     |false=>exact⟨_,_,λw' _=>X w',put (al rfl) rfl,Ξ,λ_ _ w' _=>X w'⟩
    |u=>exact h.elim
  |call c=>
   rw[J] at h;simp only at h;cases V:c.callee with
   |builtin b=>
    rw[V] at h;simp only at h;rw[sf] at h;cases I:mY b c.argTypes o.type (c.args.map (cJ e)) with
    |none=>rw[I] at h;exact h.elim
    |some s=>
     rw[I] at h;obtain⟨v,X,ag⟩:=h;have all:∀w':x2,s.run P w'= .ok v w'->(execOp a.eval o).run P w'= .ok (.value v) w':=λw' X=>by
      rw[iV aa Y (by simp[J])];unfold execOp;cases b<;>simp only[mY] at I<;>first|(cases I;done)|(cases I;simp[J,V,resolve,invoke,builtin,X,W5])
     exact⟨v,_,λw' hw=>all w' (X w' hw),put ag rfl,Ξ,λw' h1 U ac=>all U (h1 U ac)⟩
   |value x=>rw[V] at h;exact h.elim
   |invoke x m=>rw[V] at h;exact h.elim
  |_=>
   rw[J] at h
   first
    |(simp only[oy] at h;done)
    |(obtain⟨v,X,ag⟩:=h
      refine⟨v,_,λw' hw=>?_,put ag rfl,Ξ,λw' h1 U ac=>?_⟩
      .rw[iV aa Y (by simp[J])];exact sh P (by rw[J];rfl) (X w' hw)
      .rw[iV aa Y (by simp[J])];exact sh P (by rw[J];rfl) (h1 U ac))
theorem Cr {free:eZ} {K:Env->x2->Prop} {Q:Exit->Act->x2->Prop} (h:si P free o e w K) (U:S1 N e a) (ab:io N o.dst=true):
  o.wpIn (dX r) 0 P a w (eS N free K o a w) Q:=by
 unfold si at h;cases V:known e (opsOf o.op) with
 |false=>rw[V] at h;exact h.elim
 |true=>
  rw[V] at h;simp only[cond_true] at h;cases J:o.op with
  |call c=>
   rw[J] at h;simp only at h;cases ac:c.callee with
   |builtin b=>
    rw[ac] at h;simp only at h;rw[sf] at h;cases I:mY b c.argTypes o.type (c.args.map (cJ e)) with
    |none=>rw[I] at h;exact h.elim
    |some s=>
     rw[I] at h;obtain⟨v,w',W,Y,aa⟩:=h;refine oz U V (by simp[J]) (by simp[J]) (v:=v) (w':=w') ?_ (eS.of aa U ab rfl λ_=>Y.b);unfold execOp;cases b<;>simp only[mY] at I<;>first|(cases I;done)|(cases I;simp[J,ac,resolve,invoke,builtin,W,W5])
   |value x=>
    rw[ac] at h;have step:∀ (d:Deferred) (y:x1),cJ e x=y->Deferred.ofValue y (c.args.map (cJ e))=pure d->
      (invoke d.target d.args).run P w=(execOp (cJ e) o).run P w:=by
     intro d y X am;unfold execOp;simp only[J,ac,resolve,X,am,W0,V1,W5]
    have af:∀ (g:FuncId) (first cap:Array x1),cJ e x= .func (.func g) first cap->
      (execOp (cJ e) o).run P w=(callFunc g (first.toList++bT (cJ e) c.args.toList++cap.toList).toArray).run P w:=by
     intro g first cap X
     rw[<-step {target:=.fn (.func g) cap,args:=first++c.args.map (cJ e)} _ X rfl];simp only[invoke];have ag:first++c.args.map (cJ e)++cap=(first.toList++bT (cJ e) c.args.toList++cap.toList).toArray:=by apply Array.toList_inj.1;simp[p7]
     rw[ag]
    have enter:∀ (g:FuncId) (first cap:Array x1),cJ e x= .func (.func g) first cap->Enters P g->
      (execOp (cJ e) o).run P w= .ok (.enter g (first.toList++bT (cJ e) c.args.toList++cap.toList).toArray) w:=by
     intro g first cap X ad
     rw[af g first cap X,ad]
    have go:∀ (g:FuncId) (first cap:Array x1),cJ e x= .func (.func g) first cap->
      (bif free.1 then fZ P g (first.toList++bT (cJ e) c.args.toList++cap.toList) w λv w'=>K (dC e o.dst (.v v)) w'
       else ak P g (first.toList++bT (cJ e) c.args.toList++cap.toList) w λv w'=>K (dC e o.dst (.v v)) w')->
      o.wpIn (dX r) 0 P a w (eS N free K o a w) Q:=by
     intro g first cap X h
     obtain⟨fr,an⟩:=free;cases fr with
     |true=>
      rcases h with⟨ad,ah⟩|⟨v,w',W,aa⟩
      .refine⟨λ_ _=>trivial,?_⟩;rw[T0.semAt_eq _ _ _ (by simp[J]),iV U V (by simp[J])];rw[enter g first cap X ad];exact vz U ab (ah.mono λae w' ⟨v,h1,ai⟩=>⟨v,h1,(λh=>by cases h),ai⟩)
      .rw[<-af g first cap X] at W;exact oz U V (by simp[J]) (by simp[J]) W (eS.of aa U ab rfl λh=>by cases h)
     |false=>
      rcases h with⟨ad,ah⟩|⟨v,w',W,Y,aa⟩
      .refine⟨λ_ _=>trivial,?_⟩;rw[T0.semAt_eq _ _ _ (by simp[J]),iV U V (by simp[J])];rw[enter g first cap X ad];exact vz U ab (ah.mono λae w' ⟨v,h1,Y,ai⟩=>⟨v,h1,λ_=>Y.b,ai⟩)
      .rw[<-af g first cap X] at W;exact oz U V (by simp[J]) (by simp[J]) W (eS.of aa U ab rfl λ_=>Y.b)
    have aj:p8 P free.1 (cJ e x) (bT (cJ e) c.args.toList) w (λv w'=>K (dC e o.dst (.v v)) w')->
      o.wpIn (dX r) 0 P a w (eS N free K o a w) Q:=by
     intro h;unfold p8 at h;split at h
     .rename_i g first cap X
      exact go g first cap X h
     .rename_i l first cap X
      obtain⟨fn,tmps,al,body,ao,ap⟩:ip P l (first.toList++bT (cJ e) c.args.toList) w λv w'=>(free.1=false->ch free.2 w w')/\K (dC e o.dst (.v v)) w':=by
       obtain⟨fr,an⟩:=free;cases fr with
       |true=>exact ip.mono h.2 λv w' V=>⟨(λh=>by cases h),V⟩
       |false=>exact ip.mono h λv w' V=>⟨λ_=>V.1.b,V.2⟩
      refine⟨λ_ _=>trivial,?_⟩;rw[T0.semAt_eq _ _ _ (by simp[J]),iV U V (by simp[J])];have:(execOp (cJ e) o).run P w= .ok (.round l fn tmps al body) w:=by
       rw[<-step {target:=.fn (.yield l) cap,args:=first++c.args.map (cJ e)} _ X rfl,<-ao];have ag:(first.toList++bT (cJ e) c.args.toList).toArray=first++c.args.map (cJ e):=by apply Array.toList_inj.1;simp[p7]
       rw[ag];rfl
      rw[this,T0.uponIn_round];refine⟨se _ _,?_⟩;have aq:RoundIn (dX r) (0-1) P l fn tmps al body w λae w'=>∃v,ae= .returned v/\(free.1=false->ch free.2 w w')/\K (dC e o.dst (.v v)) w':=ap;refine RoundIn.mono aq ?_;rintro ae w' ⟨v,rfl,Y,aa⟩;exact eS.of aa U ab rfl Y
     .exact h.elim
    cases x with
    |func f=>exact go f #[] #[] rfl (by simpa using h)
    |tmp t=>exact aj h
    |const v=>exact aj h
    |global g=>exact aj h
   |invoke x m=>rw[ac] at h;exact h.elim
  |next x str=>
   rw[J] at h;obtain⟨v,w',W,Y,aa⟩:=h;refine oz U V (by simp[J]) (by simp[J]) (v:=v) (w':=w') ?_ (eS.of aa U ab rfl Y);rw[Cm _ _ o.type] at W;unfold execOp;simp only[J,W0,W,W5,V1]
  |_=>
   rw[J] at h
   first
    |(simp only[oy,sg] at h;done)
    |(obtain⟨v,w',W,Y,aa⟩:=h
      exact oz U V (by simp[J]) (by simp[J]) (sh P (by rw[J];rfl) W) (eS.of aa U ab rfl λ_=>Y.b))
    |(obtain⟨v,w',W,Y,aa⟩:=h
      exact Cq U V (by simp[J]) (by simp[J]) (Cn P (by rw[J];rfl) W) (eS.of aa U ab rfl λ_=>Y.b))
theorem p9 {free:eZ} {K:Env->x2->Prop} {Q:Exit->Act->x2->Prop} (h:mZ P free o e w K) (J:S1 N e a) (U:io N o.dst=true):
  o.wpIn (dX r) 0 P a w (eS N free K o a w) Q:=by
 unfold mZ at h;cases V:hY o with
 |false=>rw[V] at h;exact Cr h J U
 |true=>
  rw[V] at h;have h:kg P o e w (λI _=>K I w):=h;obtain⟨v,st,W,⟨I,X,Y⟩,aa,_⟩:=vB h J U;refine⟨λ_ _=>trivial,?_⟩;rw[T0.semAt_eq _ _ _ aa,W w (Ext.refl _),T0.uponIn_value];exact⟨I,v,X,Y,rfl,λ_=>ch.refl _ _⟩
end
section
variable {P:W7}
def Still {α:Type} (P:W7) (s:Sem α):Prop:=∀w v U,s.run P w= .ok v U->U=w/\ ∀w',s.run P w'= .ok v w'
theorem Still.pure {α:Type} (a:α):Still P (Pure.pure a:Sem α):=λw v U h=>by
 rw[V1] at h;cases h;exact⟨rfl,λw'=>by rw[V1]⟩
theorem Still.bind {α β:Type} {s:Sem α} {f:α->Sem β} (I:Still P s) (W:∀a,Still P (f a)):Still P (s >>= f):=λw v U h=>by
 rw[W0] at h;cases J:s.run P w with
 |halt x V=>rw[J] at h;simp[W5] at h
 |ok a V=>
  rw[J] at h;obtain⟨rfl,X⟩:=I w a V J;obtain⟨rfl,Y⟩:=W a _ v U h;exact⟨rfl,λw'=>by rw[W0,X w'];exact Y w'⟩
theorem Still.never {α:Type} {s:Sem α} (h:∀w v U,s.run P w≠ .ok v U):Still P s:=λw v U h'=>absurd h' (h w v U)
theorem Still.stuck {α:Type} (m:String):Still P (stuck m:Sem α):=.never λw v U h=>by simp[Go.stuck] at h
theorem Still.unsupported {α:Type} (m):Still P (unsupported m:Sem α):=.never λw v U h=>by simp[Go.unsupported] at h
theorem Still.program:Still P program:=λw v U h=>by cases h;exact⟨rfl,λ_=>rfl⟩
theorem Still.underlying (t:r9):Still P (underlying t):=Still.bind .program λp=>by
 cases p.underlying t with
 |some d=>exact Still.pure d
 |none=>exact Still.stuck _
theorem Still.typeInfo (t:r9):Still P (typeInfo t):=Still.bind .program λp=>by
 cases p.info? t with
 |some d=>exact Still.pure d
 |none=>exact Still.stuck _
theorem Still.sizeOf (t:r9):Still P (sizeOf t):=Still.bind (.typeInfo t) λ_=>Still.pure _
theorem Still.boundsPanic {α:Type} (k:o6) (x y:Int) (c:BoundsCode):Still P (boundsPanic k x y c:Sem α):=.never λw v U h=>by
 have I:∀ (s:Sem Bool) (w:x2) (v:α) (U:x2),(s >>= λb=>(runtimePanic (.bounds (Y6.wrap x) y b c):Sem α)).run P w≠ .ok v U:=by
  intro s w v U h;rw[W0] at h;cases J:s.run P w with
  |halt x V=>rw[J] at h;simp[W5] at h
  |ok a V=>rw[J] at h;simp[W5,Go.runtimePanic,Go.goPanic] at h
 unfold Go.boundsPanic at h;dsimp only at h;split at h
 .exact I _ _ _ _ h
 .exact I _ _ _ _ h
theorem Still.asIntOf (v:x1):Still P (asIntOf v):=by
 unfold Go.asIntOf;split
 .exact Still.pure _
 .exact Still.unsupported _
 .exact Still.stuck _
theorem Still.sureAddr (v:x1):Still P (Instr.sureAddr v):=by
 unfold Instr.sureAddr;split
 .exact Still.pure _
 .exact Still.stuck _
theorem Still.extract (v:x1) (i:Nat):Still P (Z9 v i):=by
 unfold Z9;split
 .split
  .exact Still.pure _
  .exact Still.stuck _
 .exact Still.stuck _
theorem Still.indexAt (t:r9) (x i:x1):Still P (n0 t x i):=by
 have tail:∀ (t:r9) (k:o6) (i:Int) (base:Option Addr) (len:Nat) (I:r9),Still P (do
   let J:=len<=1&&(match <-Go.underlying t with| .array ..=>true|_=>false)
   match base with
   |some a=>
    if 0<=i/\i<len then Pure.pure (x1.pointer (σ (a.add (i.toNat*(<-Go.sizeOf I)))))
    else if J then Go.unsupported (.noEntry "op/indexAddr.an index out of range at an array of length 0 or 1 (ledger 616)")
    else Go.boundsPanic k i len .index
   |none=>Go.boundsPanic k i 0 .index):=by
  intro t k i base len I;refine .bind (.underlying t) λd=>?_;cases base with
  |none=>exact Still.boundsPanic _ _ _ _
  |some a=>
   dsimp only;split
   .exact .bind (.sizeOf I) λ_=>.pure _
   .split<;>split<;>first|exact Still.unsupported _|exact Still.boundsPanic _ _ _ _
 unfold n0;refine .bind (.asIntOf i) λU=>?_;refine .bind (.underlying t) λd=>?_;split
 .refine .bind (.sureAddr _) λb=>?_;refine .bind (.pure _) λy=>?_;exact tail _ _ _ _ _ _
 .refine .bind (.pure _) λy=>?_;exact tail _ _ _ _ _ _
 .refine .bind (.stuck _) λy=>?_;exact tail _ _ _ _ _ _
end
section
variable (P:W7)
def qa (free:eZ) (ops:Array T0) (o:T0) (e:Env) (w:x2) (K:Env->x2->Prop):Prop:=
 match o.guard with
 |none=>mZ P free o e w K
 |some (j,b)=>
  match (ops[j]?).bind (·.dst) with
  |none=>False
  |some s=>
   match look e s with
   |some (.b c)=>bif xor c b then K (dC e o.dst .u) w else mZ P free o e w K
   |some (.v x)=>
    Split x (bif b then mZ P free o ((s,.b true)::e) w K else K (dC ((s,.b true)::e) o.dst .u) w)
     (bif b then K (dC ((s,.b false)::e) o.dst .u) w else mZ P free o ((s,.b false)::e) w K)
   |some .u=>K (dC e o.dst .u) w
   |none=>False
def m3 (free:eZ) (ops:Array T0):List T0->Env->x2->(Env->x2->Prop)->Prop
 |[],e,w,K=>K e w
 |o::l,e,w,K=>qa P free ops o e w λI w'=>m3 free ops l I w' K
def sj (ops:Array T0) (o:T0) (e:Env) (w:x2) (K:Env->(x2->Prop)->Prop):Prop:=
 match o.guard with
 |none=>kg P o e w K
 |some (j,b)=>
  match (ops[j]?).bind (·.dst) with
  |none=>False
  |some s=>
   match look e s with
   |some (.b c)=>bif xor c b then K (dC e o.dst .u) (λ_=>True) else kg P o e w K
   |some (.v x)=>
    Split x (bif b then kg P o ((s,.b true)::e) w K else K (dC ((s,.b true)::e) o.dst .u) (λ_=>True))
     (bif b then K (dC ((s,.b false)::e) o.dst .u) (λ_=>True) else kg P o ((s,.b false)::e) w K)
   |some .u=>K (dC e o.dst .u) (λ_=>True)
   |none=>False
def ki (o:T0):Bool:=
 match o.op with
 | .move _| .assign _| .extract .. | .indexAddr ..=>true
 |_=>false
def k1 (ops:Array T0):List Nat->Option Nat
 |[]=>ν
 |i::r=>match ops[i]? with
  |some o=>bif hY o then σ i else k1 ops r
  |none=>k1 ops r
def sk (p:Nat->Prop):List Nat->Prop
 |[]=>True
 |[i]=>p i
 |i::r=>p i/\sk p r
def jy (bs:Array Nat) (j k:Nat):Bool:=!(T3 k j)&&(!((bs.getD j 0).testBit k)&& !((bs.getD k 0).testBit j))
def oA (same:Bool) (q:Nat) (w:x2) (st:x2->Prop) (I:List (x2×List (Nat×(x2->Prop)))):List (x2×List (Nat×(x2->Prop))):=
 match same,I with
 |true,g::r=>(g.1,(q,st)::g.2)::r
 |_,I=>(w,[(q,st)])::I
def oB (bs:Array Nat) (j:Nat):List (Nat×(x2->Prop))->Bool
 |[]=>false
 |x::r=>jy bs j x.1||oB bs j r
def m4 (bs:Array Nat) (j:Nat) (w':x2):List (Nat×(x2->Prop))->Prop
 |[]=>True
 |x::r=>bif jy bs j x.1 then x.2 w'/\m4 bs j w' r else m4 bs j w' r
def lP (bs:Array Nat) (j:Nat) (w':x2) (C:Prop):List (x2×List (Nat×(x2->Prop)))->Prop
 |[]=>C
 |g::r=>bif oB bs j g.2 then (Ext g.1 w'\/m4 bs j w' g.2)/\lP bs j w' C r else lP bs j w' C r
def k2 (free:eZ) (ops:Array T0) (bs:Array Nat):Nat->Array Bool->Bool->List (x2×List (Nat×(x2->Prop)))->Env->x2->(Env->x2->Prop)->Prop
 |0,I,_,_,e,w,K=>match Region.ready .any ops I with|[]=>K e w|_=>False
 |fuel+1,I,same,J,e,w,K=>
  match Region.ready .any ops I with
  |[]=>K e w
  |i::r=>
   match k1 ops (i::r) with
   |some q=>
    bif Region.free .any ops I q then
     match ops[q]? with
     |some o=>sj P ops o e w λU st=>
       bif ki o then k2 free ops bs fuel (I.setIfInBounds q true) same J U w K
       else k2 free ops bs fuel (I.setIfInBounds q true) true (oA same q w st J) U w K
     |none=>False
    else False
   |none=>
    sk (λj=>match ops[j]? with
     |some o=>qa P free ops o e w λU w'=>lP bs j w' (k2 free ops bs fuel (I.setIfInBounds j true) false J U w' K) J
     |none=>False) (i::r)
def sm (free:eZ) (ops:Array T0) (e:Env) (w:x2) (K:Env->x2->Prop):Prop:=
 bif Region.noSelect ops then k2 P free ops (Region.before ops) ops.size (Array.replicate ops.size false) false [] e w K else False
end
section
variable {P:W7} {N:Nat} {r:Option Nat} {free:eZ} {ops:Array T0}
theorem Cs {e:Env} {a:Act} (U:S1 N e a) {s:Nat} {c:Bool} (V:(ops[j]?).bind (·.dst)=σ s) {x:ed} (I:look e s=σ x) (W:x.val= .bool c):
  yielded ops a.tmps j=σ c:=by
 have h:=U.2 s x I;rw[W] at h;have X:a.tmps[s]? =σ (.bool c):=by
  rw[Array.getD_eq_getD_getElem?] at h;cases J:a.tmps[s]? with
  |none=>rw[J] at h;simp[undef] at h
  |some y=>rw[J] at h;simpa using h
 simp[yielded,V,X]
theorem qb {e:Env} {a:Act} (J:S1 N e a) {o:T0} {s:Nat} {b c:Bool} (U:o.guard=σ (j,b)) (V:(ops[j]?).bind (·.dst)=σ s) {x:ed}
  (I:look e s=σ x) (W:x.val= .bool c):Region.wanted o (yielded ops a.tmps)= !(xor c b):=by
 simp only[Region.wanted,U,Cs J V I W];cases c<;>cases b<;>rfl
theorem vC {e:Env} {a:Act} (U:S1 N e a) {o:T0} {s:Nat} {b:Bool} (V:o.guard=σ (j,b)) (W:(ops[j]?).bind (·.dst)=σ s)
  (I:look e s=σ .u):Region.wanted o (yielded ops a.tmps)=false:=by
 have h:=U.2 s .u I;have X:yielded ops a.tmps j=ν:=by
  rw[Array.getD_eq_getD_getElem?] at h;unfold yielded;rw[W];cases J:a.tmps[s]? with
  |none=>simp[J]
  |some y=>
   rw[J] at h;simp only[T4,ed.val] at h;subst h;simp[J,undef]
 simp[Region.wanted,V,X]
theorem S1.lit {e:Env} {a:Act} (U:S1 N e a) {s:Nat} {x:ed} {c:Bool} (I:look e s=σ x) (W:x.val= .bool c):S1 N ((s,.b c)::e) a:=by
 refine⟨U.1,λt y J=>?_⟩;simp only[look] at J;cases V:T3 s t with
 |true=>
  have:s=t:=Nat.eq_of_beq_eq_true V;subst this;simp only[V,cond_true,Y8] at J;subst J;rw[U.2 s x I,W];rfl
 |false=>simp only[V,cond_false] at J;exact U.2 t y J
theorem vD {o:T0} {e:Env} {a:Act} {K:Env->x2->Prop} {Q:Exit->Act->x2->Prop} (h:qa P free ops o e w K) (J:S1 N e a) (U:io N o.dst=true):
  (Region.wanted o (yielded ops a.tmps)=true/\o.wpIn (dX r) 0 P a w (eS N free K o a w) Q)\/
  (Region.wanted o (yielded ops a.tmps)=false/\eS N free K o a w (a.put o.dst undef) w):=by
 unfold qa at h;cases V:o.guard with
 |none=>rw[V] at h;exact .inl ⟨by simp[Region.wanted,V],p9 h J U⟩
 |some ac=>
  obtain⟨j,b⟩:=ac;rw[V] at h;simp only at h;cases W:(ops[j]?).bind (·.dst) with
  |none=>rw[W] at h;exact h.elim
  |some s=>
   rw[W] at h;simp only at h;cases I:look e s with
   |none=>rw[I] at h;exact h.elim
   |some x=>
    rw[I] at h;cases x with
    |b c=>
     simp only at h;have hw:=qb J V W I (c:=c) rfl;cases ab:xor c b with
     |true=>
      rw[ab] at h hw;exact .inr ⟨hw,eS.of h J U rfl λ_=>ch.refl _ _⟩
     |false=>
      rw[ab] at h hw;exact .inl ⟨hw,p9 h J U⟩
    |v y=>
     simp only at h;obtain⟨c,rfl,X,Y⟩:=h;have hw:=qb J V W I (c:=c) rfl;have aa:=J.lit I (c:=c) rfl;cases c with
     |true=>
      have X:=X rfl;cases b with
      |true=>exact .inl ⟨hw,p9 X aa U⟩
      |false=>exact .inr ⟨hw,eS.of X aa U rfl λ_=>ch.refl _ _⟩
     |false=>
      have Y:=Y rfl;cases b with
      |true=>exact .inr ⟨hw,eS.of Y aa U rfl λ_=>ch.refl _ _⟩
      |false=>exact .inl ⟨hw,p9 Y aa U⟩
    |u=>exact .inr ⟨vC J V W I,eS.of h J U rfl λ_=>ch.refl _ _⟩
def fL (D:List Nat) (a a':Act):Prop:=a'.defers=a.defers/\ ∀t,t∉D->a'.tmps.getD t undef=a.tmps.getD t undef
theorem fL.refl (D:List Nat) (a:Act):fL D a a:=⟨rfl,λ_ _=>rfl⟩
theorem fL.trans {a b c:Act} (h:fL D a b) (k:fL D b c):fL D a c:=⟨k.1.trans h.1,λt I=>(k.2 t I).trans (h.2 t I)⟩
theorem fL.put (a:Act) {d:Option Tmp} (v:x1) (I:∀t,d=σ t->t∈D):fL D a (a.put d v):=by
 cases d with
 |none=>exact fL.refl _ _
 |some s=>
  refine⟨rfl,λt J=>?_⟩;have U:s≠t:=λh=>J (h▸I s rfl);simp only[Act.put,Array.getD_eq_getD_getElem?];rw[Array.getElem?_setIfInBounds_ne U]
def k3 (N:Nat) (free:eZ) (K:Env->x2->Prop) (D:List Nat) (a:Act) (w:x2) (a':Act) (w':x2):Prop:=
 ∃I,K I w'/\S1 N I a'/\fL D a a'/\(free.1=false->ch free.2 w w')
theorem k3.step {K:Env->x2->Prop} {a I a':Act} {U:x2} (h:k3 N free K D I U a' w') (V:fL D a I) (W:free.1=false->ch free.2 w U):
  k3 N free K D a w a' w':=by
 obtain⟨X,h1,Y,aa,ab⟩:=h;exact⟨X,h1,Y,V.trans aa,λJ=>(W J).trans (ab J)⟩
def lQ (N:Nat) (l:List T0):Bool:=l.all λo=>io N o.dst
theorem Ct {K:Env->x2->Prop} {Q:Exit->Act->x2->Prop} (ac:∀o∈ops.toList,∀t,o.dst=σ t->t∈D) (Y:lQ N ops.toList=true):
  ∀ (l:List T0) (k:Nat) (e:Env) (a:Act) (w:x2),(∀j,l[j]? =ops[k+j]?)->m3 P free ops l e w K->S1 N e a->
   (∀a' w',k3 N free K D a w a' w'->Q .normal a' w')->wpOpsIn (dX r) 0 P ops Q (List.range' k l.length) a w:=by
 intro l;induction l with
 |nil=>
  intro k e a w _ h I J;exact J a w ⟨e,h,I,fL.refl _ _,λ_=>ch.refl _ _⟩
 |cons o l ad=>
  intro k e a w aa h I J;have V:=aa 0;simp only[List.getElem?_cons_zero,Nat.add_zero] at V;have ab:o∈ops.toList:=by
   have:=V.symm;rw[<-S4] at this;exact x5 this
  have ae:io N o.dst=true:=by
   simp only[lQ,List.all_eq_true] at Y;exact Y o ab
  have af:∀j,l[j]? =ops[k+1+j]?:=λj=>by
   have:=aa (j+1);rw[List.getElem?_cons_succ] at this;rw[this];congr 1;omega
  have next:∀W U,eS N free (λag w'=>m3 P free ops l ag w' K) o a w W U->wpOpsIn (dX r) 0 P ops Q (List.range' (k+1) l.length) W U:=by
   rintro W U ⟨ah,v,ai,aj,rfl,ak⟩;refine ad (k+1) ah _ U af ai aj λa' w' al=>J a' w' (al.step (fL.put a v λt am=>ac o ab t am) ak)
  simp only[m3] at h;show wpOpsIn (dX r) 0 P ops Q (k::List.range' (k+1) l.length) a w;unfold wpOpsIn;rw[<-V];simp only;rcases vD (r:=r) (Q:=Q) h I ae with⟨hw,X⟩|⟨hw,X⟩
  .rw[if_pos hw];exact T0.wpIn_mono next X
  .rw[hw];exact⟨λ_ _=>trivial,next _ _ X⟩
theorem Cu {K:Env->x2->Prop} {Q:Exit->Act->x2->Prop} {id:Nat} {e:Env} {a:Act} (I:∀o∈ops.toList,∀t,o.dst=σ t->t∈D)
  (J:lQ N ops.toList=true) (h:m3 P free ops ops.toList e w K) (U:S1 N e a) (V:∀a' w',k3 N free K D a w a' w'->Q .normal a' w'):
  (Code.region id ops false).wpIn (dX r) 0 P Q a w:=by
 refine wpIn_region ?_;have:=Ct (r:=r) I J ops.toList 0 e a w (λj=>Ξ) h U V;rw[List.range_eq_range'];simpa using this
end
section
variable {P:W7} {N:Nat} {r:Option Nat} {free:eZ} {ops:Array T0} {Q:Exit->Act->x2->Prop}
theorem Cv (J:Option Nat) (o:T0) (I:∀cs b,o.op≠ .select cs b) (a:Act) (d:Option Tmp) (v:x1) (h:∀t,d=σ t->t∉o.looksAt ops):
  o.semAt J (a.put d v).eval=o.semAt J a.eval:=by
 have he:=execOp_put o I a d v h;unfold T0.semAt;split
 .rename_i l c U;have:resolve (a.put d v).eval c o.type=resolve a.eval c o.type:=resolve_congr c o.type λx V=>Act.eval_put λt W X=>h t W (by
   subst X;refine List.mem_append_left _ (List.mem_filterMap.2 ⟨.tmp t,?_,rfl⟩);rw[U];simpa[Op.operands] using V)
  rw[this]
 .exact he
def k4 (o:T0) (w0:x2) (st:x2->Prop) (w':x2):Prop:=ki o=true\/Ext w0 w'\/ ∃U,st U/\Ext U w'
theorem k4.ext {o:T0} {w0:x2} {st:x2->Prop} (h:k4 o w0 st w) (k:Ext w w'):k4 o w0 st w':=by
 rcases h with h|h|⟨U,h1,I⟩
 .exact .inl h
 .exact .inr (.inl (h.trans k))
 .exact .inr (.inr ⟨U,h1,I.trans k⟩)
theorem Cw {o:T0} (hm:ki o=true) {J:S0->x1} (h:(execOp J o).run P w= .ok (.value v) w):(execOp J o).run P w'= .ok (.value v) w':=by
 unfold ki at hm;split at hm
 .rename_i x I;unfold execOp at h ⊢;simp only[I,V1,Result.ok.injEq,and_true] at h ⊢;exact h
 .rename_i x I;unfold execOp at h ⊢;simp only[I,V1,Result.ok.injEq,and_true] at h ⊢;exact h
 .rename_i x i I;unfold execOp at h ⊢;simp only[I] at h ⊢;exact ((Still.bind (Still.extract _ _) λ_=>Still.pure _) _ _ _ h).2 _
 .rename_i t x i I;unfold execOp at h ⊢;simp only[I] at h ⊢;exact ((Still.bind (Still.indexAt _ _ _) λ_=>Still.pure _) _ _ _ h).2 _
 .cases hm
def gZ (P:W7) (ops:Array T0) (o:T0) (v:x1) (a:Act) (w0:x2->Prop):Prop:=
 (Region.wanted o (yielded ops a.tmps)=true/\(∀c,o.op≠ .defer c)/\ ∀w',w0 w'->(execOp a.eval o).run P w'= .ok (.value v) w')\/
 (Region.wanted o (yielded ops a.tmps)=false/\v=undef)
theorem gZ.put {o J:T0} {a:Act} {w0:x2->Prop} (U:gZ P ops o v a w0) (I:∀cs b,o.op≠ .select cs b) (h:∀t,J.dst=σ t->t∉o.looksAt ops) (u:x1):
  gZ P ops o v (a.put J.dst u) w0:=by
 unfold gZ at*;rw[execOp_put o I a J.dst u h,wanted_put o a J.dst u h];exact U
theorem gZ.go {i:Nat} {I:T0} {a:Act} {w0:x2->Prop} (hi:ops[i]? =σ I) (J:gZ P ops I v a w0) (hw:w0 w) {K:Act->x2->Prop} (h:K (a.put I.dst v) w):
  wpOpIn (dX r) 0 P ops Q i K a w:=by
 unfold wpOpIn;simp only[hi];rcases J with⟨h1,U,V⟩|⟨h1,rfl⟩
 .rw[if_pos h1];refine⟨λ_ _=>trivial,?_⟩;rw[T0.semAt_eq _ _ _ U,V w hw,T0.uponIn_value];exact h
 .rw[h1];exact⟨λ_ _=>trivial,h⟩
theorem Cx {I U:T0} (Y:ops[j]? =σ U) (aa:I.apart ops U=true) (ab:∀cs b,I.op≠ .select cs b) (ac:∀cs b,U.op≠ .select cs b)
  (W:∀c a w,¬Q (.panic c) a w) {K:Act->x2->Prop} {a:Act} {w:x2} {w0:x2->Prop} (J:gZ P ops I v a w0) (h:wpOpIn (dX r) 0 P ops Q j K (a.put I.dst v) w):
  wpOpIn (dX r) 0 P ops Q j (λa' w'=>gZ P ops I v a' w0/\K (a'.put I.dst v) w') a w:=by
 obtain⟨h1,V,ad⟩:=T0.apart_spec aa;have a7:∀ (a:Act),gZ P ops I v a w0-> ∀u,gZ P ops I v (a.put U.dst u) w0:=λa J u=>J.put ab ad u;have ae:∀d,gZ P ops I v {a with defers:=d::a.defers} w0:=λd=>J;unfold wpOpIn at*;simp only[Y] at*;rw[wanted_put U a I.dst v h1] at h;split
 .rename_i hw;simp only[hw,if_true] at h;obtain⟨_,h⟩:=h;refine⟨λ_ _=>trivial,?_⟩;rw[Cv _ U ac a I.dst v h1] at h;generalize (U.semAt (dX r).round a.eval).run P w=res at*;cases res with
  |ok n w'=>
   cases n<;>simp only[T0.uponIn] at h ⊢
   case value u=>exact⟨a7 a J u,by rw[<-Act.put_comm a v u V];exact h⟩
   case skip=>exact⟨a7 a J _,by rw[<-Act.put_comm a v undef V];exact h⟩
   case defer d=>
    refine⟨a7 _ (ae d) _,?_⟩;rw[<-Act.put_comm _ v undef V,<-Act.put_defers];exact h
   case enter f args=>
    refine⟨h.1,CallsIn.mono h.2 λe X he=>?_⟩;cases e with
    |returned u=>exact⟨a7 a J u,by rw[<-Act.put_comm a v u V];exact he⟩
    |panicked c=>exact absurd he (W _ _ _)
    |outgrown=>exact he
   case row row args=>exact⟨h.1,RowsIn.mono h.2 λu X he=>⟨a7 a J u,by rw[<-Act.put_comm a v u V];exact he⟩⟩
   case round l f tmps af body=>
    refine⟨h.1,RoundIn.mono h.2 λe X he=>?_⟩;cases e with
    |returned u=>exact⟨a7 a J u,by rw[<-Act.put_comm a v u V];exact he⟩
    |panicked c=>exact absurd he (W _ _ _)
    |outgrown=>exact he
  |halt x w'=>
   cases x<;>simp only[T0.uponIn] at h ⊢
   case panic u=>exact absurd h (W _ _ _)
 .rename_i hw;simp only[hw] at h;exact⟨λ_ _=>trivial,a7 a J _,by rw[<-Act.put_comm a v undef V];exact h.2⟩
def kj (ops:Array T0) (bs:Array Nat):Bool:=
 (W3 ops.size).all λj=>(W3 ops.size).all λk=>!((bs.getD j 0).testBit k)||
  (match ops[j]? with
   |some o=>o.after.any λe=>Region.binds .any e&&Nat.blt e.on j&&(T3 e.on k||(bs.getD e.on 0).testBit k)
   |none=>false)
def Down (ops:Array T0) (I:Array Bool):Prop:=
 ∀ (x:Nat) (o:T0),ops[x]? =σ o->I.getD x false=true-> ∀e∈o.after,Region.binds .any e=true->I.getD e.on false=true
theorem vE {bs:Array Nat} (J:kj ops bs=true) {k:Nat} (V:j<ops.size) (W:k<ops.size) (h:(bs.getD j 0).testBit k=true):
  ∃o,ops[j]? =σ o/\ ∃e∈o.after,Region.binds .any e=true/\e.on<j/\(e.on=k\/(bs.getD e.on 0).testBit k=true):=by
 simp only[kj,List.all_eq_true,List.mem_range] at J;have:=J j V k W;rw[h] at this;simp only[Y1,Bool.false_or] at this;cases U:ops[j]? with
 |none=>rw[U] at this;cases this
 |some o=>
  rw[U] at this;obtain⟨e,he,I⟩:=Array.any_eq_true'.1 this;simp only[U4,Nat.blt_eq,Bool.or_eq_true] at I;exact⟨o,rfl,e,he,I.1.1,I.1.2,I.2.imp (λh=>Nat.eq_of_beq_eq_true h) id⟩
theorem Cy {bs:Array Nat} {I:Array Bool} (V:kj ops bs=true) (W:Down ops I):∀ (j k:Nat),j<ops.size->k<ops.size->I.getD j false=true->
  (bs.getD j 0).testBit k=true->I.getD k false=true:=by
 intro j;induction j using Nat.strongRecOn with
 |_ j X=>
  intro k Y J aa h;obtain⟨o,ab,e,he,ac,ad,h⟩:=vE V Y J h;have U:=W j o ab aa e he ac;rcases h with rfl|h
  .exact U
  .exact X e.on ad k Ω J U h
theorem vF {bs:Array Nat} {I:Array Bool} (J:kj ops bs=true) (Y:Down ops I) {k:Nat} (U:k<ops.size) (aa:j∈Region.ready .any ops I)
  (h:(bs.getD j 0).testBit k=true):I.getD k false=true:=by
 obtain⟨_,o,V,ab⟩:=mem_ready.1 aa;have ac:=(j6.1 V).1;obtain⟨o',W,e,he,ad,ae,h⟩:=vE J ac U h;rw[V] at W;cases W;have X:=ab e he ad;rcases h with rfl|h
 .exact X
 .exact Cy J Y e.on k Ω U X h
theorem Down.set {I:Array Bool} (Y:Down ops I) {i:Nat} (aa:i∈Region.ready .any ops I):Down ops (I.setIfInBounds i true):=by
 intro x o J U e he V;by_cases W:x=i
 .subst W;obtain⟨_,o',X,ab⟩:=mem_ready.1 aa;rw[J] at X;cases X;exact getD_set_true (ab e he V)
 .rw[getD_set_ne false (T9 W)] at U;exact getD_set_true (Y x o J U e he V)
theorem sn {I:Array Bool} {k:Nat} (h:I.getD k true=false):I.getD k false=false:=by
 rcases Nat.lt_or_ge k I.size with h'|h'
 .simpa[h'] using h
 .simp[Array.getElem?_eq_none h'] at h
def k5 (ops:Array T0) (i:Nat):Bool:=match ops[i]? with
 |some o=>hY o
 |none=>false
def k6 (bs:Array Nat) (I:List (x2×List (Nat×(x2->Prop)))) (j:Nat) (w':x2):Prop:=∀g∈I,∀x∈g.2,jy bs j x.1=true->Ext g.1 w'\/x.2 w'
theorem sq {bs:Array Nat} {j:Nat} {w':x2}:∀ {l:List (Nat×(x2->Prop))},m4 bs j w' l-> ∀x∈l,jy bs j x.1=true->x.2 w'
 |[],_,_,h,_=>by cases h
 |y::l,h,x,I,hu=>by
  unfold m4 at h;cases J:jy bs j y.1 with
  |true=>
   rw[J] at h;cases I with
   |head=>exact h.1
   |tail _ I=>exact sq h.2 x I hu
  |false=>
   rw[J] at h;cases I with
   |head=>rw[J] at hu;cases hu
   |tail _ I=>exact sq (show m4 bs j w' l from h) x I hu
theorem vG {bs:Array Nat} {j:Nat}:∀ {l:List (Nat×(x2->Prop))},oB bs j l=false-> ∀x∈l,jy bs j x.1=false
 |[],_,_,h=>by cases h
 |y::l,h,x,I=>by
  simp only[oB,S2] at h;cases I with
  |head=>exact h.1
  |tail _ I=>exact vG h.2 x I
theorem sr {bs:Array Nat} {j:Nat} {w':x2} {C:Prop}:∀ {X:List (x2×List (Nat×(x2->Prop)))},lP bs j w' C X->C/\k6 bs X j w'
 |[],h=>⟨h,λg Y=>by cases Y⟩
 |g::r,h=>by
  unfold lP at h;cases hu:oB bs j g.2 with
  |true=>
   rw[hu] at h;obtain⟨h1,V⟩:=sr h.2;refine⟨h1,λW I x U J=>?_⟩;cases I with
   |head=>exact h.1.imp id λh=>sq h x U J
   |tail _ I=>exact V W I x U J
  |false=>
   rw[hu] at h;obtain⟨h1,V⟩:=sr (show lP bs j w' C r from h);refine⟨h1,λW I x U J=>?_⟩;cases I with
   |head=>rw[vG hu x U] at J;cases J
   |tail _ I=>exact V W I x U J
def ss (ops:Array T0) (bs:Array Nat) (I:List (x2×List (Nat×(x2->Prop)))) (j:Nat) (w w':x2):Prop:=(k5 ops j=true->Ext w w')/\(k5 ops j=false->k6 bs I j w')
def hx (r:Option Nat) (P:W7) (ops:Array T0) (bs:Array Nat) (Q:Exit->Act->x2->Prop):Nat->Array Bool->List (x2×List (Nat×(x2->Prop)))->Act->x2->Prop
 |0,I,_,a,w=>Region.ready .any ops I=[]/\Q .normal a w
 |fuel+1,I,J,a,w=>(Region.ready .any ops I=[]->Q .normal a w)/\
  ∀i∈Region.ready .any ops I,wpOpIn (dX r) 0 P ops Q i (λa' w'=>ss ops bs J i w w'/\hx r P ops bs Q fuel (I.setIfInBounds i true) J a' w') a w
theorem hx.any {bs:Array Nat}:∀ (fuel:Nat) (I:Array Bool) (J:List (x2×List (Nat×(x2->Prop)))) (a:Act) (w:x2),hx r P ops bs Q fuel I J a w->wpAnyIn (dX r) 0 P .any ops Q fuel I a w
 |0,_,_,_,_,h=>h
 |fuel+1,_,_,_,_,h=>⟨h.1,λi hi=>wpOpIn_mono (λa' w' h'=>hx.any fuel _ _ a' w' h'.2) (h.2 i hi)⟩
theorem Cz {bs:Array Nat} {I:Array Bool} (J:kj ops bs=true) (U:Down ops I) {i:Nat} {X:T0} (hi:ops[i]? =σ X)
  (V:i∈Region.ready .any ops I) (W:j∈Region.ready .any ops I) (Y:j≠i):jy bs j i=true:=by
 have aa:=(j6.1 hi).1;obtain⟨ab,af,ac,_⟩:=mem_ready.1 W;have ad:=(j6.1 ac).1;have ae:=(mem_ready.1 V).1;simp only[jy,U4,Bool.not_eq_true'];refine⟨?_,?_,?_⟩
 .cases h:T3 i j with
  |true=>exact absurd (Nat.eq_of_beq_eq_true h).symm Y
  |false=>rfl
 .cases h:(bs.getD j 0).testBit i with
  |true=>have:=vF J U aa W h;rw[sn ae] at this;cases this
  |false=>rfl
 .cases h:(bs.getD i 0).testBit j with
  |true=>have:=vF J U ad V h;rw[sn ab] at this;cases this
  |false=>rfl
theorem hx.take {bs:Array Nat} (ao:kj ops bs=true) (ap:Region.noSelect ops=true) (aq:∀c a w,¬Q (.panic c) a w) {i:Nat} {J:T0} (hi:ops[i]? =σ J) (au:hY J=true)
  {w0:x2} {aa ev':List (x2×List (Nat×(x2->Prop)))} (af:∀j w',k6 bs ev' j w'->k6 bs aa j w') {st:x2->Prop} (av:ki J=false-> ∀j w',jy bs j i=true->k6 bs ev' j w'->Ext w0 w'\/st w'):
  ∀ (fuel:Nat) (I:Array Bool) (a:Act) (w:x2),Down ops I->
   (∀j X,ops[j]? =σ X->j≠i->I.getD j true=false->(∀e∈X.after,Region.binds .any e=true->e.on≠i)->J.apart ops X=true)->
   i∈Region.ready .any ops I->gZ P ops J v a (k4 J w0 st)->k4 J w0 st w->
   hx r P ops bs Q fuel (I.setIfInBounds i true) ev' (a.put J.dst v) w->hx r P ops bs Q (fuel+1) I aa a w:=by
 have ag:=Region.noSelect_spec ap;have aw:k5 ops i=true:=by simp[k5,hi,au]
 have gJ:∀ (fuel:Nat) (I:Array Bool) (a:Act) (w:x2),hx r P ops bs Q fuel I ev' a w->hx r P ops bs Q fuel I aa a w:=by
  intro fuel;induction fuel with
  |zero=>intro I a w h;exact h
  |succ fuel ac=>intro I a w h;exact⟨h.1,λj V=>wpOpIn_mono (λa' w' h'=>⟨⟨h'.1.1,λad=>af _ _ (h'.1.2 ad)⟩,ac _ a' w' h'.2⟩) (h.2 j V)⟩
 have ah:∀w,ss ops bs aa i w w:=λw=>⟨λ_=>Ext.refl _,λh=>by rw[aw] at h;cases h⟩;intro fuel;induction fuel with
 |zero=>
  intro I a w _ _ W ab hw H;refine⟨λh=>(by rw[h] at W;cases W),λj V=>?_⟩;by_cases U:j=i
  .subst U;exact ab.go hi hw ⟨ah w,gJ _ _ _ _ H⟩
  .have:=ready_mono V U;rw[H.1] at this;cases this
 |succ fuel ac=>
  intro I a w ai aj W ab hw H;refine⟨λh=>(by rw[h] at W;cases W),λj V=>?_⟩;by_cases U:j=i
  .subst U;exact ab.go hi hw ⟨ah w,gJ _ _ _ _ H⟩
  .have h1:=H.2 j (ready_mono V U);have hu:=Cz ao ai hi W V U;obtain⟨ak,X,ae,ax⟩:=mem_ready.1 V;have ay:∀e∈X.after,Region.binds .any e=true->e.on≠i:=λe he az aA=>by
    have h1:=ax e he az;rw[aA,sn (mem_ready.1 W).1] at h1;cases h1
   have aB:=Cx ae (aj j X ae U ak ay) (λcs b=>ag i J cs b hi) (λcs b=>ag j X cs b ae) aq ab h1;have aC:∀k ok,ops[k]? =σ ok->k≠i->(I.setIfInBounds j true).getD k true=false->
     (∀e∈ok.after,Region.binds .any e=true->e.on≠i)->J.apart ops ok=true:=λk ok aD aE al aF=>by
    refine aj k ok aD aE ?_ aF;by_cases am:j=k
    .subst am;exact ak
    .rw[getD_set_ne true am] at al;exact al
   refine wpOpIn_mono (λa' w' Y=>⟨⟨Y.2.1.1,λad=>af _ _ (Y.2.1.2 ad)⟩,ac (I.setIfInBounds j true) a' w' (ai.set V) aC (ready_mono W (T9 U)) Y.1 ?_ ?_⟩) aB
   .cases hm:ki J with
    |true=>exact .inl hm
    |false=>
     cases an:k5 ops j with
     |true=>exact hw.ext (Y.2.1.1 an)
     |false=>exact .inr ((av hm j w' hu (Y.2.1.2 an)).imp id λh=>⟨w',h,Ext.refl _⟩)
   .rw[Array.setIfInBounds_comm _ _ U];exact Y.2.2
theorem vH {p:Nat->Prop}:∀ {l:List Nat},sk p l-> ∀i∈l,p i
 |[],_,_,h=>by cases h
 |[i],h,j,I=>by cases I with
  |head=>exact h
  |tail _ h=>cases h
 |i::k::l,h,j,I=>by
  obtain⟨h1,J⟩:=h;cases I with
  |head=>exact h1
  |tail _ I=>exact vH J j I
theorem su:∀ {l:List Nat} {q:Nat},k1 ops l=σ q->q∈l/\ ∃o,ops[q]? =σ o/\hY o=true
 |[],q,h=>by cases h
 |i::l,q,h=>by
  simp only[k1] at h;cases I:ops[i]? with
  |none=>rw[I] at h;obtain⟨h1,J⟩:=su h;exact⟨.tail _ h1,J⟩
  |some o=>
   rw[I] at h;simp only at h;cases U:hY o with
   |true=>rw[U] at h;simp only[cond_true,Y8] at h;subst h;exact⟨.head _,o,I,U⟩
   |false=>rw[U] at h;obtain⟨h1,J⟩:=su h;exact⟨.tail _ h1,J⟩
theorem CA {o:T0} {e:Env} {a:Act} {K:Env->(x2->Prop)->Prop} (h:sj P ops o e w K) (J:S1 N e a) (ae:io N o.dst=true):
  ∃v st,gZ P ops o v a (k4 o w st)/\ ∃V,K V st/\S1 N V (a.put o.dst v):=by
 unfold sj at h;have Y:∀ {e:Env},S1 N e a->kg P o e w K->Region.wanted o (yielded ops a.tmps)=true-> ∃v st,gZ P ops o v a (k4 o w st)/\ ∃V,K V st/\S1 N V (a.put o.dst v):=λJ h hw=>by
  obtain⟨v,st,h1,af,ag,ah⟩:=vB h J ae;exact⟨v,st,.inl ⟨hw,ag,λw' aa=>aa.elim (λhm=>Cw hm (h1 w (Ext.refl w))) λh=>h.elim (h1 w') λ⟨U,ai,aj⟩=>ah U ai w' aj⟩,af⟩
 have skip:∀ {e:Env},S1 N e a->K (dC e o.dst .u) (λ_=>True)->Region.wanted o (yielded ops a.tmps)=false-> ∃v st,gZ P ops o v a (k4 o w st)/\ ∃V,K V st/\S1 N V (a.put o.dst v):=λJ h hw=>
  ⟨undef,_,.inr ⟨hw,rfl⟩,_,h,J.put ae rfl⟩
 cases W:o.guard with
 |none=>rw[W] at h;exact Y J h (by simp[Region.wanted,W])
 |some ak=>
  obtain⟨j,b⟩:=ak;rw[W] at h;simp only at h;cases X:(ops[j]?).bind (·.dst) with
  |none=>rw[X] at h;exact h.elim
  |some s=>
   rw[X] at h;simp only at h;cases I:look e s with
   |none=>rw[I] at h;exact h.elim
   |some x=>
    rw[I] at h;cases x with
    |b c=>
     simp only at h;have hw:=qb J W X I (c:=c) rfl;cases aa:xor c b with
     |true=>rw[aa] at h hw;exact skip J h hw
     |false=>rw[aa] at h hw;exact Y J h hw
    |v y=>
     simp only at h;obtain⟨c,rfl,ab,ac⟩:=h;have hw:=qb J W X I (c:=c) rfl;have ad:=J.lit I (c:=c) rfl;cases c with
     |true=>
      have ab:=ab rfl;cases b with
      |true=>exact Y ad ab hw
      |false=>exact skip ad ab hw
     |false=>
      have ac:=ac rfl;cases b with
      |true=>exact skip ad ac hw
      |false=>exact Y ad ac hw
    |u=>exact skip J h (vC J W X I)
theorem sw:∀ {l:List Nat},k1 ops l=ν-> ∀j∈l,k5 ops j=false
 |[],_,_,h=>by cases h
 |i::l,h,j,I=>by
  simp only[k1] at h;cases J:ops[i]? with
  |none=>
   rw[J] at h;cases I with
   |head=>simp[k5,J]
   |tail _ I=>exact sw h j I
  |some o=>
   rw[J] at h;simp only at h;cases U:hY o with
   |true=>rw[U] at h;cases h
   |false=>
    rw[U] at h;cases I with
    |head=>simp[k5,J,U]
    |tail _ I=>exact sw h j I
theorem CB {bs:Array Nat} {same:Bool} {q:Nat} {st:x2->Prop} {J:List (x2×List (Nat×(x2->Prop)))} (I:same=true-> ∃ks r,J=(w,ks)::r):
  (∀j w',k6 bs (oA same q w st J) j w'->k6 bs J j w')/\(∀j w',jy bs j q=true->k6 bs (oA same q w st J) j w'->Ext w w'\/st w')/\ ∃ks r,oA same q w st J=(w,ks)::r:=by
 cases same with
 |true=>
  obtain⟨ks,r,rfl⟩:=I rfl;refine⟨λj w' h g U x V hu=>?_,λj w' hu h=>h (w,(q,st)::ks) (.head _) (q,st) (.head _) hu,_,_,rfl⟩;cases U with
  |head=>exact h (w,(q,st)::ks) (.head _) x (.tail _ V) hu
  |tail _ U=>exact h g (.tail _ U) x V hu
 |false=>
  refine⟨λj w' h g U x V hu=>h g (.tail _ U) x V hu,λj w' hu h=>h (w,[(q,st)]) (.head _) (q,st) (.head _) hu,_,_,rfl⟩
theorem CC {K:Env->x2->Prop} {bs:Array Nat} (ap:kj ops bs=true) (aq:Region.noSelect ops=true) (au:∀c a w,¬Q (.panic c) a w)
  (aj:∀o∈ops.toList,∀t,o.dst=σ t->t∈D) (av:lQ N ops.toList=true):
  ∀ (fuel:Nat) (J:Array Bool) (same:Bool) (V:List (x2×List (Nat×(x2->Prop)))) (e:Env) (a:Act) (w:x2),Down ops J->(same=true-> ∃ks r,V=(w,ks)::r)->
   k2 P free ops bs fuel J same V e w K->S1 N e a->
   (∀a' w',k3 N free K D a w a' w'->Q .normal a' w')->hx r P ops bs Q fuel J V a w:=by
 have ae:∀ {j:Nat} {o:T0},ops[j]? =σ o->o∈ops.toList:=λh=>by
  rw[<-S4] at h;exact x5 h
 have ok:∀ {j:Nat} {o:T0},ops[j]? =σ o->io N o.dst=true:=λh=>by
  simp only[lQ,List.all_eq_true] at av;exact av _ (ae h)
 intro fuel;induction fuel with
 |zero=>
  intro J same V e a w aa ak h ac ab;unfold k2 at h;cases X:Region.ready .any ops J with
  |nil=>rw[X] at h;exact⟨X,ab a w ⟨e,h,ac,fL.refl _ _,λ_=>ch.refl _ _⟩⟩
  |cons i l=>rw[X] at h;exact h.elim
 |succ fuel al=>
  intro J same V e a w aa ak h ac ab;unfold k2 at h;cases X:Region.ready .any ops J with
  |nil=>
   rw[X] at h;refine⟨λ_=>ab a w ⟨e,h,ac,fL.refl _ _,λ_=>ch.refl _ _⟩,λi hi=>?_⟩;rw[X] at hi;cases hi
  |cons i l=>
   rw[X] at h;simp only at h;cases af:k1 ops (i::l) with
   |some q=>
    rw[af] at h;simp only at h;obtain⟨aB,o,I,aw⟩:=su af;cases ag:Region.free .any ops J q with
    |false=>rw[ag] at h;exact h.elim
    |true=>
     rw[ag,I] at h;simp only[cond_true] at h;obtain⟨v,st,ax,ah,Y,ay⟩:=CA h ac (ok I);have ai:q∈Region.ready .any ops J:=by rw[X];exact aB
     cases hm:ki o with
     |true=>
      rw[hm] at Y;refine hx.take ap aq au I aw (w0:=w) (ev':=V) (λ_ _ h=>h) (λh=>by rw[hm] at h;cases h) fuel J a w aa (Region.free_spec I ag) ai ax (.inr (.inl (Ext.refl _))) ?_;exact al _ same V ah _ w (aa.set ai) ak Y ay λa' w' W=>ab a' w' (W.step (fL.put a v λt ad=>aj o (ae I) t ad) λ_=>ch.refl _ _)
     |false=>
      rw[hm] at Y;obtain⟨h1,aC,aD⟩:=CB (bs:=bs) (q:=q) (st:=st) ak;refine hx.take ap aq au I aw (w0:=w) (ev':=oA same q w st V) h1 (λ_=>aC) fuel J a w aa (Region.free_spec I ag) ai ax (.inr (.inl (Ext.refl _))) ?_;exact al _ true _ ah _ w (aa.set ai) (λ_=>aD) Y ay λa' w' W=>ab a' w' (W.step (fL.put a v λt ad=>aj o (ae I) t ad) λ_=>ch.refl _ _)
   |none=>
    rw[af] at h;simp only at h;refine⟨(λaz=>by rw[X] at az;cases az),λj aA=>?_⟩;have am:=aA;rw[X] at am;have aE:=sw af j am;have W:=vH h j am;cases I:ops[j]? with
    |none=>rw[I] at W;exact W.elim
    |some o=>
     rw[I] at W;simp only at W;unfold wpOpIn;simp only[I];have next:∀an U,eS N free (λah w'=>lP bs j w' (k2 P free ops bs fuel (J.setIfInBounds j true) false V ah w' K) V) o a w an U->
       ss ops bs V j w U/\hx r P ops bs Q fuel (J.setIfInBounds j true) V an U:=by
      rintro an U ⟨aF,v,Y,aG,rfl,aH⟩;obtain⟨Y,aI⟩:=sr Y;exact⟨⟨λh=>(by rw[aE] at h;cases h),λ_=>aI⟩,
       al _ false V aF _ U (aa.set aA) (λh=>by cases h) Y aG λa' w' W=>ab a' w' (W.step (fL.put a v λt ad=>aj o (ae I) t ad) aH)⟩
     rcases vD (r:=r) (Q:=Q) W ac (ok I) with⟨hw,ao⟩|⟨hw,ao⟩
     .rw[if_pos hw];exact T0.wpIn_mono next ao
     .rw[hw];exact⟨λ_ _=>trivial,next _ _ ao⟩
theorem CD (hm:P.follows .mixedOrders=true) {K:Env->x2->Prop} {id:Nat} {e:Env} {a:Act} (U:kj ops (Region.before ops)=true) (V:∀c a w,¬Q (.panic c) a w)
  (W:∀o∈ops.toList,∀t,o.dst=σ t->t∈D) (X:lQ N ops.toList=true)
  (h:∀w',Ext w w'->Ext w' w->cN w w'->sm P free ops e w' K) (Y:S1 N e a) (aa:∀a' w',k3 N free K D a w a' w'->Q .normal a' w'):
  (Code.region id ops true).wpIn (dX r) 0 P Q a w:=by
 refine wpIn_region_any hm ?_;have h:=h {w with drawn:=w.drawn+1} (p4 w _) ⟨o8 _,λ_ _ h _=>h⟩ (ov w _ (S6 _));unfold sm at h;cases I:Region.noSelect ops with
 |false=>rw[I] at h;exact h.elim
 |true=>
  rw[I] at h;refine hx.any _ _ _ _ _ (CC U I V W X ops.size _ false [] e a _ ?_ (λh=>by cases h) h Y λa' w' ab=>aa a' w' (ab.step (fL.refl _ _) λ_=>(ov w _ (S6 _)).b));intro x o _ J;rcases Nat.lt_or_ge x ops.size with h'|h'
  .simp[h'] at J
  .simp[h'] at J
end
def hZ (t:Nat):List Nat->Bool
 |[]=>false
 |s::r=>bif T3 s t then true else hZ t r
theorem sx {t:Nat}:∀ {l:List Nat},hZ t l=true↔t∈l
 |[]=>by simp[hZ]
 |s::r=>by
  simp only[hZ];cases h:T3 s t with
  |true=>simp[Nat.eq_of_beq_eq_true h]
  |false=>
   have:=Nat.ne_of_beq_eq_false h;simp[sx (l:=r),T9 this]
def lR:List T0->List Nat
 |[]=>[]
 |o::l=>match o.dst with
  |some d=>d::lR l
  |none=>lR l
def tmpsOf:List S0->List Nat
 |[]=>[]
 | .tmp t::l=>t::tmpsOf l
 |_::l=>tmpsOf l
def CE (ops:Array T0) (o:T0):List Nat:=
 match o.guard with
 |some (j,_)=>match (ops[j]?).bind (·.dst) with
  |some s=>[s]
  |none=>[]
 |none=>[]
def qc (D:List Nat):List Nat->List Nat
 |[]=>[]
 |t::r=>bif hZ t D then qc D r else t::qc D r
def sy (D:List Nat):List Nat->List Nat
 |[]=>[]
 |t::r=>bif hZ t D then t::sy D r else sy D r
def vI (ops:Array T0):List T0->List Nat->List Nat
 |[],_=>[]
 |o::l,D=>qc D (tmpsOf (opsOf o.op)++CE ops o)++vI ops l (match o.dst with
  |some d=>d::D
  |none=>D)
def dd:Code->List Nat
 | .region _ ops _=>lR ops.toList
 | .seq a b=>dd a++dd b
 | .cond _ a b=>dd a++dd b
 | .block _ c=>dd c
 | .loop c=>dd c
 | .scope c=>dd c
 |_=>[]
def iq (id:Nat):Code->Nat
 | .seq a b=>iq id a+iq id b
 | .cond _ a b=>iq id a+iq id b
 | .block _ c=>iq id c
 | .loop c=>iq id c
 | .scope c=>iq id c
 | .exit i=>bif T3 i id then 1 else 0
 | .rangeFunc _ _ _ b=>iq id b
 |_=>0
def CF (ops:Array T0):Bool:=
 let bs:=Region.before ops;let I:=λ(i:Nat)=>match ops[i]? with|some o=>!(hY o)|none=>false
 (W3 ops.size).any λj=>I j&&((W3 j).any λi=>I i&&(!((bs.getD j 0).testBit i)&& !((bs.getD i 0).testBit j)))
def jz:Code->Nat
 | .region _ ops I=>bif (I&&CF ops)||ops.any (·.guard.isSome) then 2 else 1
 | .seq a b=>bif T3 (jz a) 0 then 0 else jz b
 | .cond _ a b=>jz a+jz b
 | .block id c=>jz c+iq id c
 | .loop _=>0
 | .scope c=>jz c
 | .exit _=>0
 | .goto _=>0
 | .ret=>0
 | .refuse _=>0
 |_=>1
def kk:Code->List Nat
 | .region _ ops _=>lR ops.toList
 | .seq a b=>kk a++kk b
 | .cond _ a b=>bif T3 (jz a) 0 then kk b else bif T3 (jz b) 0 then kk a else sy (kk a) (kk b)
 | .block id c=>bif T3 (iq id c) 0 then kk c else[]
 | .scope c=>kk c
 |_=>[]
def reads:Code->List Nat
 | .region _ ops _=>vI ops ops.toList []
 | .seq a b=>reads a++qc (kk a) (reads b)
 | .cond c a b=>tmpsOf [c]++(reads a++reads b)
 | .block _ c=>reads c
 | .loop c=>reads c
 | .scope c=>reads c
 | .rangeFunc f _ a b=>tmpsOf [f]++(reads a++reads b)
 |_=>[]
def iW:Code->Bool
 | .seq a b=>iW a||iW b
 | .cond _ a b=>iW a||iW b
 | .block _ c=>iW c
 | .loop c=>iW c
 | .scope c=>iW c
 | .rangeFunc ..=>true
 |_=>false
def wf (N:Nat):Code->Bool
 | .region _ ops I=>lQ N ops.toList&&(!I||kj ops (Region.before ops))
 | .seq a b=>wf N a&&wf N b
 | .cond _ a b=>wf N a&&wf N b
 | .block _ c=>wf N c
 | .loop c=>wf N c
 | .scope c=>wf N c
 | .rangeFunc _ J a b=>(J.toList.all λt=>Nat.blt t N)&&(wf N a&&wf N b)
 |_=>true
def lS:Nat->Type->Type
 |0,β=>β
 |n+1,β=>x1->lS n β
def app {β:Type}:(n:Nat)->lS n β->List x1->β
 |0,f,_=>f
 |n+1,f,[]=>app n (f undef) []
 |n+1,f,v::r=>app n (f v) r
def lam {β:Type}:(n:Nat)->(List x1->β)->lS n β
 |0,f=>f []
 |n+1,f=>λv=>lam n λr=>f (v::r)
def qd:(n:Nat)->lS n Prop->Prop
 |0,p=>p
 |n+1,p=>∀v,qd n (p v)
theorem qe {β:Type}:∀ (n:Nat) (f:List x1->β) (vs:List x1),vs.length=n->app n (lam n f) vs=f vs
 |0,f,[],_=>rfl
 |n+1,f,v::r,h=>by
  simp only[app,lam];exact qe n _ r (by simpa using h)
theorem qf:∀ (n:Nat) (p:lS n Prop) (vs:List x1),qd n p->app n p vs
 |0,_,_,h=>h
 |n+1,_,[],h=>qf n _ [] (h undef)
 |n+1,_,v::r,h=>qf n _ r (h v)
def CG (n:Nat) (vs:List x1) (w:x2) (B:List x1->x2->(List x1->x2->Prop)->Prop):Prop:=
 ∃ (I:lS n (x2->Prop)) (J:lS n (x2->Nat)),app n I vs w/\
  qd n (lam n λus=>∀w',app n I us w'->B us w' λU V=>app n I U V/\app n J U V<app n J us w')
def CH (w:x2) (B:x2->(x2->Prop)->Prop):Prop:=
 ∃ (I:x2->Prop) (J:x2->Nat),I w/\ ∀w',I w'->B w' λU=>I U/\J U<J w'
def bP (a:x1) (w:x2) (B:x1->x2->(x1->x2->Prop)->Prop):Prop:=
 ∃ (I:x1->x2->Prop) (J:x1->x2->Nat),I a w/\ ∀a w',I a w'->B a w' λa' U=>I a' U/\J a' U<J a w'
def bE (a b:x1) (w:x2) (B:x1->x1->x2->(x1->x1->x2->Prop)->Prop):Prop:=
 ∃ (I:x1->x1->x2->Prop) (J:x1->x1->x2->Nat),I a b w/\ ∀a b w',I a b w'->B a b w' λa' U V=>I a' U V/\J a' U V<J a b w'
def k7 (a b c:x1) (w:x2) (B:x1->x1->x1->x2->(x1->x1->x1->x2->Prop)->Prop):Prop:=
 ∃ (I:x1->x1->x1->x2->Prop) (J:x1->x1->x1->x2->Nat),I a b c w/\
  ∀a b c w',I a b c w'->B a b c w' λa' U V W=>I a' U V W/\J a' U V W<J a b c w'
def qg (a b c d:x1) (w:x2) (B:x1->x1->x1->x1->x2->(x1->x1->x1->x1->x2->Prop)->Prop):Prop:=
 ∃ (I:x1->x1->x1->x1->x2->Prop) (J:x1->x1->x1->x1->x2->Nat),I a b c d w/\
  ∀a b c d w',I a b c d w'->B a b c d w' λa' U V W X=>I a' U V W X/\J a' U V W X<J a b c d w'
def m8 (a b c d e:x1) (w:x2) (B:x1->x1->x1->x1->x1->x2->(x1->x1->x1->x1->x1->x2->Prop)->Prop):Prop:=
 ∃ (I:x1->x1->x1->x1->x1->x2->Prop) (J:x1->x1->x1->x1->x1->x2->Nat),I a b c d e w/\ ∀a b c d e w',I a b c d e w'->B a b c d e w' λa' U V W X Y=>I a' U V W X Y/\J a' U V W X Y<J a b c d e w'
def CI (a b c d e f:x1) (w:x2) (B:x1->x1->x1->x1->x1->x1->x2->(x1->x1->x1->x1->x1->x1->x2->Prop)->Prop):Prop:=
 ∃ (I:x1->x1->x1->x1->x1->x1->x2->Prop) (J:x1->x1->x1->x1->x1->x1->x2->Nat),I a b c d e f w/\ ∀a b c d e f w',I a b c d e f w'->B a b c d e f w' λa' U V W X Y aa=>I a' U V W X Y aa/\J a' U V W X Y aa<J a b c d e f w'
def bB {α:Type} (I:α) (B:α->Prop):Prop:=B I
def vJ (w:x2) (K:x2->Prop):Prop:=∀w',Ext w w'->Ext w' w->K w'
def Over (w:x2) (K:x2->Prop):Prop:=∀w',Ext w w'->Ext w' w->eE w w'->K w'
def cm (w:x2) (K:x2->Prop):Prop:=∀w',Ext w w'->Ext w' w->cN w w'->K w'
def iX (e:Env):List Nat->Option (List x1)
 |[]=>σ []
 |t::r=>match look e t with
  |some x=>match iX e r with
   |some vs=>σ (x.val::vs)
   |none=>ν
  |none=>ν
def h0:List Nat->List x1->Env->Env
 |t::r,v::vs,e=>(t,.v v)::h0 r vs e
 |_,_,e=>e
def kl (D:List Nat):Env->Env
 |[]=>[]
 |(t,x)::r=>bif hZ t D then kl D r else (t,x)::kl D r
def oC (N:Nat) (D R:List Nat):List Nat:=(W3 N).filter λt=>hZ t D&&hZ t R
def oD (N:Nat) (D R:List Nat) (e:Env):List Nat:=(W3 N).filter λt=>hZ t D&&((look e t).isSome&&hZ t R)
def h2:Code->Bool
 | .seq a b=>h2 a||h2 b
 | .cond _ a b=>h2 a||h2 b
 | .block _ c=>h2 c
 | .loop c=>h2 c
 | .scope c=>h2 c
 | .rangeFunc _ _ a b=>h2 a||h2 b
 | .ret=>true
 |_=>false
def CJ (i:Nat) (l:List Nat):List Nat:=bif hZ i l then l else i::l
def qh:List Nat->List Nat->List Nat
 |[],l=>l
 |i::r,l=>CJ i (qh r l)
def sz (i:Nat):List Nat->List Nat
 |[]=>[]
 |j::r=>bif T3 i j then sz i r else j::sz i r
def ir:Code->List Nat
 | .seq a b=>qh (ir a) (ir b)
 | .cond _ a b=>qh (ir a) (ir b)
 | .block id c=>sz id (ir c)
 | .loop c=>ir c
 | .scope c=>ir c
 | .rangeFunc _ _ a b=>qh (ir a) (ir b)
 | .exit i=>[i]
 |_=>[]
def lT:List (Nat×(x2->Prop))->Nat->x2->Prop
 |[],_,_=>False
 |(j,k)::r,i,w=>(i=j/\k w)\/lT r i w
def sA (K:Nat->x2->Prop):List Nat->List (Nat×(x2->Prop))
 |[]=>[]
 |i::r=>(i,λw=>K i w)::sA K r
theorem vK {K:Nat->x2->Prop}:∀ {l:List Nat} {i:Nat} {w:x2},lT (sA K l) i w->K i w
 |[],_,_,h=>h.elim
 |j::r,i,w,h=>by
  rcases h with⟨rfl,h⟩|h
  .exact h
  .exact vK h
section
variable (P:W7)
def m9 {J:Type} (G:Bool) (g:FuncId) (cap:List x1) (ab:J) (ac:J->Prop) (ad:J->List x1->J->x2->Prop) (Y:x2->Prop):Prop:=
 Enters P g/\ ∀ (l:Nat) (I W:J->x2->Prop) (w:x2),
  (∀k U V,Ext U V->ch w.heap.size U V->I k U->I k V)->(∀k U V,Ext U V->ch w.heap.size U V->W k U->W k V)->
  (∀k aa vs w',Y w'->ad k vs aa w'->I k w'->ip P l vs w' λv X=>(v= .bool true/\Y X/\I aa X/\(G=true->cN w' X))\/(v= .bool false/\W k X))->
  Y w->I ab w->fZ P g (.func (.yield l) #[] #[]::cap) w λ_ w'=>(∃k,ac k/\I k w')\/ ∃k,W k w'
def sB (G:Bool) (g:FuncId) (cap:List x1) (n:Nat) (Y:Nat->List x1->x2->Prop) (X:x2->Prop):Prop:=
 Enters P g/\ ∀ (l:Nat) (I J:Nat->x2->Prop) (w:x2),
  (∀k U V,Ext U V->ch w.heap.size U V->I k U->I k V)->(∀k U V,Ext U V->ch w.heap.size U V->J k U->J k V)->
  (∀k vs w',k<n->X w'->Y k vs w'->I k w'->ip P l vs w' λv W=>(v= .bool true/\X W/\I (k+1) W/\(G=true->cN w' W))\/(v= .bool false/\J k W))->
  X w->I 0 w->fZ P g (.func (.yield l) #[] #[]::cap) w λ_ w'=>I n w'\/ ∃k,k<n/\J k w'
def qi {W:Type} (o G:Bool) (g:FuncId) (cap:List x1) (ab:W) (ac:W->Prop) (ad:W->List x1->W->x2->Prop) (Y:x2->Prop):Prop:=
 Enters P g/\ ∀ (l:Nat) (I X:Nat->W->x2->Prop) (w:x2),
  (∀m k U V,ag (λr=>o=true/\w.heap.size<=r/\r<m) U V->ch w.heap.size U V->I m k U->I m k V)->
  (∀m k U V,ag (λr=>o=true/\w.heap.size<=r/\r<m) U V->ch w.heap.size U V->X m k U->X m k V)->
  (∀m k aa vs w',w.heap.size<=m->m<=w'.heap.size->Y w'->ad k vs aa w'->I m k w'->ip P l vs w' λv J=>
   (v= .bool true/\Y J/\I m aa J/\(G=true\/o=true->cN w' J)/\w'.heap.size<=J.heap.size/\(o=true->ag (λr=>r<w.heap.size\/m<=r) w' J))\/(o=false/\v= .bool false/\X m k J))->
  Y w->(∀m,I m ab w)->fZ P g (.func (.yield l) #[] #[]::cap) w λ_ w'=>(∃m k,ac k/\I m k w')\/ ∃m k,X m k w'
abbrev lU (g:FuncId) (cap:List x1) (n:Nat) (I:Nat->List x1->x2->Prop) (J:x2->Prop):Prop:=sB P false g cap n I J
def CK (af:x1) (ab:Nat) (w:x2) (B:List x1->x2->(Exit->x2->Prop)->Prop) (ah ai:x2->Prop) (aj:List (Nat×(x2->Prop))):Prop:=
 ∃ (I:Type) (o G:Bool) (g:FuncId) (cap:Array x1) (ad:I) (ae:I->Prop) (ac:I->List x1->I->x2->Prop) (J:x2->Prop) (W:Nat->I->x2->Prop) (Y:Nat->I->Exit->x2->Prop),
  af= .func (.func g) #[] cap/\qi P o G g cap.toList ad ae ac J/\(∀k vs aa w,ac k vs aa w->vs.length=ab)/\
  (∀w w',Ext w w'->J w->J w')/\(∀m k U V,ag (λr=>o=true/\w.heap.size<=r/\r<m) U V->W m k U->W m k V)/\(∀m k ex U V,ag (λr=>o=true/\w.heap.size<=r/\r<m) U V->Y m k ex U->Y m k ex V)/\
  J w/\(∀m,W m ad w)/\
  qd ab (lam ab λvs=>∀m k aa w',w.heap.size<=m->m<=w'.heap.size->J w'->ac k vs aa w'->W m k w'->B vs w' λex X=>match ex with
   | .normal=>J X/\W m aa X/\bif o then eE w' X/\ag (λr=>r<w.heap.size\/m<=r) w' X else (G=true->eE w' X)
   |ex=>bif o then False else Y m k ex X)/\
  (∀m k w',ae k->W m k w'->ah w')/\(∀m k w',Y m k .ret w'->ai w')/\(∀m k i w',Y m k (.exit i) w'->lT aj i w')
def na (ae:x1) (w:x2) (B:x1->x2->(Exit->x2->Prop)->Prop) (af ah:x2->Prop) (ai:List (Nat×(x2->Prop))):Prop:=
 ∃ (I:Type) (o G:Bool) (g:FuncId) (cap:Array x1) (ac:I) (ad:I->Prop) (ab:I->List x1->I->x2->Prop) (J:x2->Prop) (W:Nat->I->x2->Prop) (Y:Nat->I->Exit->x2->Prop),
  ae= .func (.func g) #[] cap/\qi P o G g cap.toList ac ad ab J/\(∀k vs aa w,ab k vs aa w->vs.length=1)/\
  (∀w w',Ext w w'->J w->J w')/\(∀m k U V,ag (λr=>o=true/\w.heap.size<=r/\r<m) U V->W m k U->W m k V)/\(∀m k ex U V,ag (λr=>o=true/\w.heap.size<=r/\r<m) U V->Y m k ex U->Y m k ex V)/\
  J w/\(∀m,W m ac w)/\
  (∀a,∀m k aa w',w.heap.size<=m->m<=w'.heap.size->J w'->ab k [a] aa w'->W m k w'->B a w' λex X=>match ex with
   | .normal=>J X/\W m aa X/\bif o then eE w' X/\ag (λr=>r<w.heap.size\/m<=r) w' X else (G=true->eE w' X)
   |ex=>bif o then False else Y m k ex X)/\
  (∀m k w',ad k->W m k w'->af w')/\(∀m k w',Y m k .ret w'->ah w')/\(∀m k i w',Y m k (.exit i) w'->lT ai i w')
def k8 (ae:x1) (w:x2) (B:x1->x1->x2->(Exit->x2->Prop)->Prop) (af ah:x2->Prop) (ai:List (Nat×(x2->Prop))):Prop:=
 ∃ (I:Type) (o G:Bool) (g:FuncId) (cap:Array x1) (ac:I) (ad:I->Prop) (ab:I->List x1->I->x2->Prop) (J:x2->Prop) (W:Nat->I->x2->Prop) (Y:Nat->I->Exit->x2->Prop),
  ae= .func (.func g) #[] cap/\qi P o G g cap.toList ac ad ab J/\(∀k vs aa w,ab k vs aa w->vs.length=2)/\
  (∀w w',Ext w w'->J w->J w')/\(∀m k U V,ag (λr=>o=true/\w.heap.size<=r/\r<m) U V->W m k U->W m k V)/\(∀m k ex U V,ag (λr=>o=true/\w.heap.size<=r/\r<m) U V->Y m k ex U->Y m k ex V)/\
  J w/\(∀m,W m ac w)/\
  (∀a b,∀m k aa w',w.heap.size<=m->m<=w'.heap.size->J w'->ab k [a,b] aa w'->W m k w'->B a b w' λex X=>match ex with
   | .normal=>J X/\W m aa X/\bif o then eE w' X/\ag (λr=>r<w.heap.size\/m<=r) w' X else (G=true->eE w' X)
   |ex=>bif o then False else Y m k ex X)/\
  (∀m k w',ad k->W m k w'->af w')/\(∀m k w',Y m k .ret w'->ah w')/\(∀m k i w',Y m k (.exit i) w'->lT ai i w')
theorem sB.s {P:W7} {G:Bool} {g:FuncId} {cap:List x1} {U:Nat->List x1->x2->Prop} {I:x2->Prop} (h:sB P G g cap n U I):
  m9 P G g cap 0 (λk=>k=n) (λk vs V w=>k<n/\V=k+1/\U k vs w) I:=by
 refine⟨h.1,λl W X w Y aa ab hI ac=>?_⟩;have:=h.2 l W (λk w=>X k w) w Y aa (λk vs w' ad hae af ag=>ab k (k+1) vs w' hae ⟨ad,rfl,af⟩ ag) hI ac;cases this with
 |code h1 ah=>exact .code h1 (ah.mono λ_ _ ⟨v,ai,J⟩=>⟨v,ai,J.elim (λh=>.inl ⟨n,rfl,h⟩) (λ⟨k,_,h⟩=>.inr ⟨k,h⟩)⟩)
 |ext v w' h1 J=>exact .ext v w' h1 (J.elim (λh=>.inl ⟨n,rfl,h⟩) (λ⟨k,_,h⟩=>.inr ⟨k,h⟩))
theorem m9.x {P:W7} {Y:Type} {G:Bool} {g:FuncId} {cap:List x1} {ag:Y} {ah:Y->Prop} {ai:Y->List x1->Y->x2->Prop} {ab:x2->Prop} (h:m9 P G g cap ag ah ai ab):qi P false G g cap ag ah ai ab:=by
 refine⟨h.1,λl aj ak w al am an hab ao=>?_⟩;have:=h.2 l (λk w'=>w.heap.size<=w'.heap.size/\aj w.heap.size k w') (ak w.heap.size) w (λk U V ac ad I=>⟨Y9 I.1 ac.size,al _ k U V (ac.aa _) ad I.2⟩) (λk U V ac ad I=>am _ k U V (ac.aa _) ad I)
  (λk ap vs w' haq au I=>ip.mono (an _ k ap vs w' (o8 _) I.1 haq au I.2) λv ax av=>av.imp (λ⟨h1,J,ae,W,X,_⟩=>⟨h1,J,⟨Y9 I.1 X,ae⟩,λaw=>W (.inl aw)⟩) λ⟨_,h1,J⟩=>⟨h1,J⟩) hab ⟨o8 _,ao _⟩
 cases this with
 |code h1 J=>exact .code h1 (J.mono λ_ _ ⟨v,ae,W⟩=>⟨v,ae,W.imp (λ⟨k,X,af⟩=>⟨_,k,X,af.2⟩) (λ⟨k,h⟩=>⟨_,k,h⟩)⟩)
 |ext v w' h1 W=>exact .ext v w' h1 (W.imp (λ⟨k,X,af⟩=>⟨_,k,X,af.2⟩) (λ⟨k,h⟩=>⟨_,k,h⟩))
theorem na.old {P:W7} {af:x1} {B:x1->x2->(Exit->x2->Prop)->Prop} {ag ah:x2->Prop} {ai:List (Nat×(x2->Prop))}
 (h:∃ (J:Type) (G:Bool) (g:FuncId) (cap:Array x1) (ab:J) (ac:J->Prop) (aa:J->List x1->J->x2->Prop) (I:x2->Prop) (W:J->x2->Prop) (X:J->Exit->x2->Prop),
  af= .func (.func g) #[] cap/\m9 P G g cap.toList ab ac aa I/\(∀k vs Y w,aa k vs Y w->vs.length=1)/\
  (∀w w',Ext w w'->I w->I w')/\(∀k w w',Ext w w'->W k w->W k w')/\(∀k ex w w',Ext w w'->X k ex w->X k ex w')/\
  I w/\W ab w/\
  (∀a,∀k Y w',I w'->aa k [a] Y w'->W k w'->B a w' λex ad=>match ex with
   | .normal=>I ad/\W Y ad/\(G=true->eE w' ad)
   |ex=>X k ex ad)/\
  (∀k w',ac k->W k w'->ag w')/\(∀k w',X k .ret w'->ah w')/\(∀k i w',X k (.exit i) w'->lT ai i w')):na P af w B ag ah ai:=by
 obtain⟨J,G,g,cap,ab,ac,aa,I,W,X,h1,aj,ak,al,am,an,ao,ap,aq,au,av,aw⟩:=h;exact⟨J,false,G,g,cap,ab,ac,aa,I,λ_=>W,λ_=>X,h1,aj.x,ak,al,λ_ k U V ae=>am k U V (ae.ext λ_ _ h=>nomatch h.1),λ_ k ex U V ae=>an k ex U V (ae.ext λ_ _ h=>nomatch h.1),ao,λ_=>ap,
  λa _ k Y w' _ _ hI ax ay=>aq a k Y w' hI ax ay,λ_=>au,λ_=>av,λ_=>aw⟩
theorem k8.old {P:W7} {af:x1} {B:x1->x1->x2->(Exit->x2->Prop)->Prop} {ag ah:x2->Prop} {ai:List (Nat×(x2->Prop))}
 (h:∃ (J:Type) (G:Bool) (g:FuncId) (cap:Array x1) (ab:J) (ac:J->Prop) (aa:J->List x1->J->x2->Prop) (I:x2->Prop) (W:J->x2->Prop) (X:J->Exit->x2->Prop),
  af= .func (.func g) #[] cap/\m9 P G g cap.toList ab ac aa I/\(∀k vs Y w,aa k vs Y w->vs.length=2)/\
  (∀w w',Ext w w'->I w->I w')/\(∀k w w',Ext w w'->W k w->W k w')/\(∀k ex w w',Ext w w'->X k ex w->X k ex w')/\
  I w/\W ab w/\
  (∀a b,∀k Y w',I w'->aa k [a,b] Y w'->W k w'->B a b w' λex ad=>match ex with
   | .normal=>I ad/\W Y ad/\(G=true->eE w' ad)
   |ex=>X k ex ad)/\
  (∀k w',ac k->W k w'->ag w')/\(∀k w',X k .ret w'->ah w')/\(∀k i w',X k (.exit i) w'->lT ai i w')):k8 P af w B ag ah ai:=by
 obtain⟨J,G,g,cap,ab,ac,aa,I,W,X,h1,aj,ak,al,am,an,ao,ap,aq,au,av,aw⟩:=h;exact⟨J,false,G,g,cap,ab,ac,aa,I,λ_=>W,λ_=>X,h1,aj.x,ak,al,λ_ k U V ae=>am k U V (ae.ext λ_ _ h=>nomatch h.1),λ_ k ex U V ae=>an k ex U V (ae.ext λ_ _ h=>nomatch h.1),ao,λ_=>ap,
  λa b _ k Y w' _ _ hI ax ay=>aq a b k Y w' hI ax ay,λ_=>au,λ_=>av,λ_=>aw⟩
def ee (N:Nat) (free:eZ):Code->List Nat->Env->x2->(Exit->Env->x2->Prop)->Prop
 | .skip,_,e,w,K=>K .normal e w
 | .label _,_,e,w,K=>K .normal e w
 | .ret,_,e,w,K=>K .ret e w
 | .exit i,_,e,w,K=>K (.exit i) e w
 | .region _ ops V,_,e,w,K=>
  bif V then cm w λw'=>sm P free ops e w' (K .normal)
  else m3 P free ops ops.toList e w (K .normal)
 | .seq x y,rd,e,w,K=>
  bif Nat.ble 2 (jz x) then
   bB (lam (oC N (dd x) (reads y++rd)).length λvs=>λw'=>ee N free y rd (h0 (oC N (dd x) (reads y++rd)) vs (kl (dd x) e)) w' K)
    λW=>ee N free x (reads y++rd) e w λex I w'=>match ex with
     | .normal=>match iX I (oC N (dd x) (reads y++rd)) with
      |some vs=>app (oC N (dd x) (reads y++rd)).length W vs w'
      |none=>False
     |ex=>K ex I w'
  else ee N free x (reads y++rd) e w λex I w'=>match ex with
   | .normal=>ee N free y rd I w' K
   |ex=>K ex I w'
 | .cond c x y,rd,e,w,K=>
  match ej e c with
  |some (.b true)=>ee N free x rd e w K
  |some (.b false)=>ee N free y rd e w K
  |some (.v v)=>Split v (ee N free x rd e w K) (ee N free y rd e w K)
  |some .u=>False
  |none=>False
 | .block id c,rd,e,w,K=>ee N free c rd e w λex I w'=>match ex with
  | .exit i=>bif T3 i id then K .normal I w' else K (.exit i) I w'
  |ex=>K ex I w'
 | .loop c,rd,e,w,K=>
  match iX e (oD N (dd c) (reads c++rd) e) with
  |some vs=>
   CG (oD N (dd c) (reads c++rd) e).length vs w λus w' k=>
    ee N free c (reads c++rd) (h0 (oD N (dd c) (reads c++rd) e) us (kl (dd c) e)) w' λex I J=>match ex with
     | .normal=>match iX I (oD N (dd c) (reads c++rd) e) with
      |some X=>k X J
      |none=>False
     |ex=>K ex I J
  |none=>False
 | .scope c,rd,e,w,K=>ee N free c rd e w K
 | .rangeFunc f U Y body,_,e,w,K=>
  bif free.1 then False else
  match ej e f with
  |some aa=>
   CK P aa.val U.size w
    (λvs w' k=>ee N free Y (reads body) (h0 U.toList.reverse vs.reverse e) w' λex I J=>match ex with
     | .normal=>Over J λab=>ee N free body [] I ab λex _ ac=>k ex ac
     |_=>False)
    (λw'=>K .normal e w') (bif h2 body then λw'=>K .ret e w' else λ_=>False) (sA (λi w'=>K (.exit i) e w') (ir body))
  |none=>False
 | .goto _,_,_,_,_=>False
 | .refuse _,_,_,_,_=>False
end
theorem qj {w0:x2} (h:ch n w0 w) {l:Nat} (W:w0.heap.size<=l) (o:Obj):ch n w0 (w.putObj l o):=
 ⟨h.os,h.tape,h.output,by simpa using h.size,λr x J I=>by
  have U:=(j6.1 J).1;rw[x2.putObj_heap_other Ω];exact h.a7 r x J I,λr x V J I=>by
  have U:=(j6.1 J).1;rw[x2.putObj_heap_other Ω];exact h.old r x V J I⟩
theorem CL {w0:x2} (h:eE w0 w) {l:Nat} {J:Obj} (V:w.heap[l]? =σ J) (W:p3 J=false) (o:Obj):eE w0 (w.putObj l o):=λr x X I=>by
 have h1:=h r x X I;by_cases U:r=l
 .subst U;rw[V] at h1;cases h1;rw[W] at I;cases I
 .rw[x2.putObj_heap_other U];exact h1
theorem oE {l:Nat} {U:Obj} (W:w.heap[l]? =σ U) (X:fK U=false) (o:Obj):Ext w (w.putObj l o):=
 ⟨Ξ,λr x J I=>by
  by_cases V:r=l
  .subst V;rw[W] at J;cases J;rw[X] at I;cases I
  .rw[x2.putObj_heap_other V];exact J⟩
theorem vL {l:Nat} {o:Obj} (V:fK o=false):Ext (w.putObj l o) w:=
 ⟨Ξ,λr x J I=>by
  by_cases U:r=l
  .subst U;rcases Nat.lt_or_ge r w.heap.size with h|h
   .rw[x2.putObj_heap_same h] at J;cases J;rw[V] at I;cases I
   .rw[Array.getElem?_eq_none (by simpa using h)] at J;cases J
  .rw[x2.putObj_heap_other U] at J;exact J⟩
theorem nb (w:x2) (o:Obj):Ext w (w.alloc o):=ow w o
theorem nc (w:x2) (o:Obj):cN w (w.alloc o):=ox w o
def iY (D:Nat):Deferred:={target:=.collected D,args:=#[]}
def km (w:x2) (J:List Deferred):Prop:=∃I:List Nat,J=I.map iY/\I.Nodup/\ ∀D∈I,w.heap[D]? =σ (.deferred (σ []))
theorem km.dv {I:List Deferred} (h:km w I) (J:ch n w w'):km w' I:=by
 obtain⟨U,h1,V,W⟩:=h;exact⟨U,h1,V,λD X=>J.a7 D _ (W D X) rfl⟩
section
variable {P:W7} {N:Nat}
def CM (w:x2) (J U:List Deferred):Prop:=∃I:List Nat,U=I.map iY++J/\ ∀D∈I,w.heap.size<=D
def fM (n:Nat) (w:x2) (J:List Deferred) (w':x2) (I:List Deferred):Prop:=ch n w w'/\km w' I/\CM w J I
theorem fM.refl {I:List Deferred} (h:km w I):fM n w I w I:=⟨ch.refl _ _,h,[],rfl,λ_ h=>by cases h⟩
theorem fM.trans {U:x2} {I J V:List Deferred} (h:fM n w I U J) (k:fM n U J w' V):fM n w I w' V:=by
 obtain⟨W,af,X,a3,a4⟩:=h;obtain⟨Y,aa,ab,ac,ad⟩:=k;refine⟨W.trans Y,aa,ab++X,by simp[ac,a3],λD ae=>?_⟩;rcases n9.1 ae with h|h
 .exact Y9 W.size (ad D h)
 .exact a4 D h
theorem fM.same {I:List Deferred} (h:km w I) (J:ch n w w'):fM n w I w' I:=⟨J,h.dv J,[],rfl,λ_ h=>by cases h⟩
def jA:Exit->Bool
 | .panic _=>false
 | .outgrown=>false
 | .goto _=>false
 |_=>true
def k9 (N:Nat) (free:eZ) (J:Bool) (K:Exit->Env->x2->Prop) (D:List Nat) (a:Act) (w:x2) (ex:Exit) (a':Act) (w':x2):Prop:=
 jA ex=true/\ ∃I,K ex I w'/\S1 N I a'/\(∀t,t∉D->a'.tmps.getD t undef=a.tmps.getD t undef)/\(J=true->a'.defers=a.defers)/\
  (free.1=false->fM free.2 w a.defers w' a'.defers)
theorem k9.step {free:eZ} {J V:Bool} {K:Exit->Env->x2->Prop} {W:List Nat} {a I a':Act} {U:x2} {ex:Exit} (h:k9 N free V K W I U ex a' w')
  (Y:∀t,t∈W->t∈D) (aa:∀t,t∉D->I.tmps.getD t undef=a.tmps.getD t undef) (ab:J=true->V=true) (ac:J=true->I.defers=a.defers)
  (ad:free.1=false->fM free.2 w a.defers U I.defers):k9 N free J K D a w ex a' w':=by
 obtain⟨ae,af,h1,ag,ah,ai,aj⟩:=h;exact⟨ae,af,h1,ag,λt X=>(ah t λh=>X (Y t h)).trans (aa t X),λh=>(ai (ab h)).trans (ac h),λh=>(ad h).trans (aj h)⟩
theorem qk {D:List Nat} {t:Nat} {x:ed}:∀ {e:Env},look (kl D e) t=σ x->look e t=σ x/\t∉D
 |[],h=>by cases h
 |(s,y)::r,h=>by
  simp only[kl] at h;cases hm:hZ s D with
  |true=>
   rw[hm] at h;simp only[cond_true] at h;obtain⟨h1,J⟩:=qk h;refine⟨?_,J⟩;simp only[look];cases I:T3 s t with
   |true=>exact absurd (sx.1 hm) (by rw[Nat.eq_of_beq_eq_true I];exact J)
   |false=>exact h1
  |false=>
   rw[hm] at h;simp only[cond_false,look] at h ⊢;cases I:T3 s t with
   |true=>
    rw[I] at h;refine⟨h,λU=>?_⟩;rw[<-Nat.eq_of_beq_eq_true I] at U;rw[sx.2 U] at hm;cases hm
   |false=>
    rw[I] at h;exact qk h
theorem sC {a:Act} {e:Env}:∀ {S:List Nat} {vs:List x1},S1 N e a->(∀p∈S.zip vs,a.tmps.getD p.1 undef=p.2)->S1 N (h0 S vs e) a
 |[],_,h,_=>by simpa[h0] using h
 |t::r,[],h,_=>by simpa[h0] using h
 |t::r,v::vs,h,U=>by
  have V:=sC (S:=r) (vs:=vs) h λp W=>U p (by simp[W]);refine⟨V.1,λs x I=>?_⟩;simp only[h0,look] at I;cases J:T3 t s with
  |true=>
   rw[J] at I;simp only[cond_true,Y8] at I;subst I;rw[<-Nat.eq_of_beq_eq_true J];exact U (t,v) Ξ
  |false=>rw[J] at I;exact V.2 s x I
theorem ql {e:Env} {a:Act} (V:S1 N e a):∀ {S:List Nat} {vs:List x1},iX e S=σ vs->vs.length=S.length/\ ∀p∈S.zip vs,a.tmps.getD p.1 undef=p.2
 |[],vs,h=>by simp[iX] at h;subst h;simp
 |t::r,vs,h=>by
  simp only[iX] at h;cases J:look e t with
  |none=>rw[J] at h;cases h
  |some x=>
   rw[J] at h;simp only at h;cases U:iX e r with
   |none=>rw[U] at h;cases h
   |some us=>
    rw[U] at h;simp only[Y8] at h;subst h;obtain⟨h1,W⟩:=ql V U;refine⟨by simp[h1],λp I=>?_⟩;simp only[List.zip_cons_cons,T1] at I;rcases I with rfl|I
    .exact V.2 t x J
    .exact W p I
theorem CN {a a':Act} {e I:Env} (J:S1 N e a) (U:S1 N I a') (V:∀t,t∉D->a'.tmps.getD t undef=a.tmps.getD t undef):S1 N (kl D e) a':=
 ⟨U.1,λt x h=>by
  obtain⟨h1,W⟩:=qk h;rw[V t W];exact J.2 t x h1⟩
theorem CO {o:T0} {t:Nat} (I:o.dst=σ t) (l:List T0) (hm:o∈l):t∈lR l:=by
 induction l with
 |nil=>cases hm
 |cons o' l J=>
  simp only[lR];rcases T1.1 hm with h|h
  .rw[<-h,I];simp
  .have:=J h;cases o'.dst with
   |none=>exact this
   |some d=>exact .tail _ this
theorem vM {free:eZ} {U:Bool} {K:Exit->Env->x2->Prop} {a a':Act} (V:free.1=false->km w a.defers) (h:k3 N free (K .normal) D a w a' w'):
  k9 N free U K D a w .normal a' w':=by
 obtain⟨W,h1,X,I,Y⟩:=h;exact⟨rfl,W,h1,X,I.2,λ_=>I.1,λJ=>by rw[I.1];exact fM.same (V J) (Y J)⟩
theorem vN:∀ (I:List Nat) (vs:List x1) (p:Nat) (v:x1) (e:Env),I.length=vs.length->h0 (I++[p]) (vs++[v]) e=h0 I vs ((p,.v v)::e)
 |[],[],_,_,_,_=>rfl
 |[],_::_,_,_,_,h=>by simp at h
 |_::_,[],_,_,_,h=>by simp at h
 |q::I,u::vs,p,v,e,h=>by
  simp only[List.cons_append,h0];rw[vN I vs p v e (by simpa using h)]
theorem vO:∀ (I:List Nat) (vs:List x1) (dp:Array x1) (e:Env),I.length=vs.length->(I.all λt=>Nat.blt t N)=true->S1 N e {tmps:=dp,defers:=[]}->
  S1 N (h0 I.reverse vs.reverse e) {tmps:=(I.zip vs).foldl (λdp (p:Nat×x1)=>dp.setIfInBounds p.1 p.2) dp,defers:=[]}
 |[],[],_,_,_,_,h=>h
 |[],_::_,_,_,h,_,_=>by simp at h
 |_::_,[],_,_,h,_,_=>by simp at h
 |p::I,v::vs,dp,e,V,J,h=>by
  have U:I.length=vs.length:=by simpa using V
  simp only[List.all_cons,U4] at J;simp only[List.zip_cons_cons,List.foldl_cons,List.reverse_cons];rw[vN _ _ _ _ _ (by simpa using U)];exact vO I vs _ _ U J.2 (h.put (d:=σ p) (x:=.v v) (v:=v) J.1 rfl)
def h3 (free:eZ) (c:Code):Bool:=free.1|| !iW c
theorem vP:∀f a b:Bool,(f|| !(a||b))=true->(f|| !a)=true:=Φ
theorem vQ:∀f a b:Bool,(f|| !(a||b))=true->(f|| !b)=true:=Φ
def exitCode:Exit->Option Code
 | .ret=>σ .ret
 | .exit id=>σ (.exit id)
 |_=>ν
end
section
variable {P:W7} {N:Nat}
def Sound (P:W7) (N:Nat) (c:Code):Prop:=
 ∀ (free:eZ) (r:Option Nat) (rd:List Nat) (e:Env) (a:Act) (w:x2) (K:Exit->Env->x2->Prop) (Q:Exit->Act->x2->Prop),
  wf N c=true->(∀l,r=σ l->free.1=false/\ ∃I,w.heap[l]? =σ (.loop I))->(free.1=false->km w a.defers)->
  ee P N free c rd e w K->S1 N e a->(∀ex a' w',k9 N free (h3 free c) K (dd c) a w ex a' w'->Q ex a' w')->(∀J a w,¬Q (.panic J) a w)->
  c.wpIn (dX r) 0 P Q a w
theorem CP {x y:Code} (ay:Sound P N x) (az:Sound P N y):Sound P N (.seq x y):=by
 intro free r rd e a w K Q af al aA h am an ao;simp only[wf,U4] at af;have ap:∀t,t∈dd x->t∈dd (.seq x y):=λt W=>by simp[dd,W]
 have aB:∀t,t∈dd y->t∈dd (.seq x y):=λt W=>by simp[dd,W]
 have aq:h3 free (.seq x y)=true->h3 free x=true:=λh=>vP _ _ _ h;have aC:h3 free (.seq x y)=true->h3 free y=true:=λh=>vQ _ _ _ h;refine wpIn_seq ?_;have au:∀ (I:Env) (J:Act) (U:x2),ee P N free y rd I U K->S1 N I J->(∀t,t∉dd x->J.tmps.getD t undef=a.tmps.getD t undef)->
   (h3 free (.seq x y)=true->J.defers=a.defers)->(free.1=false->fM free.2 w a.defers U J.defers)->y.wpIn (dX r) 0 P Q J U:=by
  intro I J U h1 X Y ab V;refine az free r rd I J U K Q af.2 ?_ (λh=>(V h).2.1) h1 X ?_ ao
  .intro l aD;obtain⟨av,aE,ae⟩:=al l aD;exact⟨av,aE,(V av).1.a7 _ _ ae rfl⟩
  .intro ex a' w' ac;exact an ex a' w' (ac.step aB (λt W=>Y t λh=>W (ap t h)) aC ab V)
 have aw:∀ (aa:Exit->Env->x2->Prop),ee P N free x (reads y++rd) e w aa->
   (∀I J U,k9 N free (h3 free x) aa (dd x) a w .normal J U->S1 N I J->aa .normal I U->(∀t,t∉dd x->J.tmps.getD t undef=a.tmps.getD t undef)->
    (h3 free (.seq x y)=true->J.defers=a.defers)->(free.1=false->fM free.2 w a.defers U J.defers)->y.wpIn (dX r) 0 P Q J U)->
   (∀ex I U,ex≠ .normal->aa ex I U->K ex I U)->x.wpIn (dX r) 0 P (Exit.then (y.wpIn (dX r) 0 P Q) Q) a w:=by
  intro aa ad V aF;refine ay free r _ e a w aa _ af.1 al aA ad am ?_ ?_
  .intro ex J U ac;cases ex with
   |normal=>
    have aG:=ac;obtain⟨ae,I,h1,ag,ah,ai,aj⟩:=ac;exact V I J U aG ag h1 ah (λh=>ai (aq h)) aj
   |_=>
    obtain⟨ae,I,h1,ag,ah,ai,aj⟩:=ac;refine an _ J U ⟨ae,I,aF _ I U Ξ h1,ag,λt W=>ah t λh=>W (ap t h),λh=>ai (aq h),aj⟩
  .intro aH a w aI;exact ao aH a w aI
 simp only[ee] at h;cases ax:Nat.ble 2 (jz x) with
 |false=>
  rw[ax] at h;refine aw _ h (λI J U _ X h1 Y ab V=>au I J U h1 X Y ab V) ?_;intro ex I U ak h1;cases ex<;>first|exact absurd rfl ak|exact h1
 |true=>
  rw[ax] at h;refine aw _ h (λI J U _ X h1 Y ab V=>?_) ?_
  .simp only at h1;cases ad:iX I (oC N (dd x) (reads y++rd)) with
   |none=>rw[ad] at h1;exact h1.elim
   |some vs=>
    rw[ad] at h1;obtain⟨aJ,aK⟩:=ql X ad;simp only at h1;rw[qe _ _ _ aJ] at h1;exact au _ J U h1 (sC (CN am X Y) aK) Y ab V
  .intro ex I U ak h1;cases ex<;>first|exact absurd rfl ak|exact h1
theorem CQ {c:Code} (az:Sound P N c):Sound P N (.loop c):=by
 intro free r rd e a w K Q ao aA aB h af aC aD;simp only[wf] at ao;simp only[ee] at h;generalize aR:oD N (dd c) (reads c++rd) e=S at h;cases ag:iX e S with
 |none=>rw[ag] at h;exact h.elim
 |some vs=>
  rw[ag] at h;simp only at h;obtain⟨aE,aF,W,aG⟩:=h;obtain⟨aH,aI⟩:=ql af ag;let Inv:Act->x2->Prop:=λI U=>∃us,us.length=S.length/\app S.length aE us U/\(∀p∈S.zip us,I.tmps.getD p.1 undef=p.2)/\I.tmps.size=N/\
   (∀t,t∉dd c->I.tmps.getD t undef=a.tmps.getD t undef)/\(h3 free c=true->I.defers=a.defers)/\(free.1=false->fM free.2 w a.defers U I.defers)
  let X:Act->List x1:=λI=>S.map λt=>I.tmps.getD t undef;have ap:∀ (I:Act) (us:List x1),us.length=S.length->(∀p∈S.zip us,I.tmps.getD p.1 undef=p.2)->X I=us:=by
   intro I us Y aa;apply List.ext_getElem
   .simp[X,Y]
   .intro i h1 J;have hi:i<S.length:=by simpa[X] using h1
    have aJ:(S[i],us[i])∈S.zip us:=by
     have:=T6 (l:=S.zip us) (n:=i) (by simp[List.length_zip,Y,hi]);simpa using this
    simpa[X] using aa _ aJ
  refine wpIn_loop Inv (λI U=>app S.length aF (X I) U) ⟨vs,aH,W,aI,af.1,λ_ _=>rfl,λ_=>rfl,λab=>fM.refl (aB ab)⟩ ?_;rintro I U ⟨us,Y,aK,aa,aL,aq,ab,ac⟩;have ad:=qf S.length _ us aG;rw[qe _ _ _ Y] at ad;have ad:=ad U aK;have aM:S1 N (h0 S us (kl (dd c) e)) I:=by
   refine sC (a:=I) (e:=kl (dd c) e) ⟨aL,λt x ae=>?_⟩ aa;obtain⟨h1,J⟩:=qk ae;rw[aq t J];exact af.2 t x h1
  refine az free r _ _ I U _ _ ao ?_ (λh=>(ac h).2.1) ad aM ?_ ?_
  .intro l aN;obtain⟨au,aO,W⟩:=aA l aN;exact⟨au,aO,(ac au).1.a7 _ _ W rfl⟩
  .intro ex ah V ai;have av:∀t,t∉dd c->ah.tmps.getD t undef=a.tmps.getD t undef:=by
    obtain⟨_,_,_,_,aj,_,_⟩:=ai;exact λt ae=>(aj t ae).trans (aq t ae)
   cases ex with
   |normal=>
    obtain⟨W,ak,h1,J,aj,al,am⟩:=ai;simp only at h1;cases an:iX ak S with
    |none=>rw[an] at h1;exact h1.elim
    |some aw=>
     rw[an] at h1;obtain⟨ax,ay⟩:=ql J an;refine⟨⟨aw,ax,h1.1,ay,J.1,av,λh=>(al h).trans (ab h),λh=>(ac h).trans (am h)⟩,?_⟩;rw[ap I us Y aa,ap ah aw ax ay];exact h1.2
   |_=>
    obtain⟨W,ak,h1,J,aj,al,am⟩:=ai;exact aC _ ah V ⟨W,ak,h1,J,av,λh=>(al h).trans (ab h),λh=>(ac h).trans (am h)⟩
  .intro aP a w aQ;exact aD aP a w aQ
theorem CR {o:Obj} (h:fK o=false):book o=true\/p3 o=true:=by cases o<;>first|exact .inl rfl|exact .inr rfl|cases h
theorem CS {l:Nat} {V ab W:x2} {ac ad:Obj} (ae:V.heap[l]? =σ ac) (J:ch n V ab) (U:ch n (ab.putObj l ad) W) (af:l<W.heap.size) (hi:eE V W):cN V (W.putObj l ac):=
 ⟨U.os.trans J.os,iU.trans U.tape J.tape,U.output.trans J.output,by have h1:=J.size;have ag:=U.size;simp at ag ⊢;omega,λr x X I=>by
  by_cases aa:r=l
  .subst aa;rw[ae] at X;cases X;exact x2.putObj_heap_same af
  .rw[x2.putObj_heap_other aa];rcases CR I with Y|Y
   .exact U.a7 r x (by rw[x2.putObj_heap_other aa];exact J.a7 r x X Y) Y
   .exact hi r x X Y⟩
theorem CT {f:S0} {ah:Array Tmp} {ap body:Code} (bm:Sound P N ap) (aA:Sound P N body):Sound P N (.rangeFunc f ah ap body):=by
 intro free r rd e a w K Q aY aB bn h aw bo cd;simp only[wf,U4] at aY;obtain⟨bp,bq,br⟩:=aY;simp only[ee] at h;obtain⟨fr,b⟩:=free;cases fr with
 |true=>exact h.elim
 |false=>
  simp only[cond_false] at h;cases aI:ej e f with
  |none=>rw[aI] at h;exact h.elim
  |some ce=>
   rw[aI] at h;obtain⟨aZ,o,G,g,cap,cg,ci,cj,aJ,bt,aK,bu,⟨a1,bw⟩,bx,ha2,aC,aL,hbz,bA,bB,bC,bD,bE⟩:=h;have bF:∀m k ex w',jA ex=true->ex≠ .normal->aK m k ex w'->K ex e w':=by
    intro m k ex w' ax aM a6;cases ex with
    |normal=>exact absurd rfl aM
    |ret=>
     have:=bD m k w' a6;cases aB:h2 body with
     |true=>rw[aB] at this;exact this
     |false=>rw[aB] at this;exact this.elim
    |exit i=>exact vK (bE m k i w' a6)
    |_=>cases ax
   have bG:a.eval f= .func (.func g) #[] cap:=by rw[aw.ej aI];exact bu
   refine wpIn_rangeFunc ?_;intro fn _;obtain⟨D,mark,l,X,U,bH,V,bI,aN,ai,bJ,aD⟩:∃ (D:Nat) (mark:List Deferred) (l:Nat) (X:x2) (U:LoopState->Option Code->Loop),
     (Instr.enterLoop fn a.tmps ah ap body (dX r).round).run P w= .ok (l,mark) X/\
     U=(λst bK=>{state:=st,pending:=bK,fn,tmps:=a.tmps,params:=ah,assign:=ap,body,defers:=D})/\
     X.heap[l]? =σ (.loop (U .ready ν))/\(mark=[]\/(mark=[iY D]/\X.heap[D]? =σ (.deferred (σ []))/\w.heap.size<=D/\D≠l))/\Ext w X/\ch b w X/\w.heap.size<=l:=by
    cases r with
    |none=>
     refine⟨w.heap.size,[iY w.heap.size],w.heap.size+1,_,_,run_enterLoop_outer _ _ _ _ _,rfl,?_,.inr ⟨rfl,?_,o8 _,Ω⟩,?_,?_,Ω⟩
     .have:=x2.alloc_heap_new (w.alloc (.deferred (σ []))) (.loop {state:=.ready,pending:=ν,fn,tmps:=a.tmps,params:=ah,assign:=ap,body,defers:=w.heap.size});rwa [x2.size_alloc] at this
     .exact (Below.heap_alloc _ _ _ Ξ).trans (x2.alloc_heap_new w _)
     .exact (nb w _).trans (nb _ _)
     .exact ((nc w _).trans (nc _ _)).b
    |some bL=>
     obtain⟨_,bM,ad⟩:=aB bL rfl;exact⟨bM.defers,[],w.heap.size,_,_,run_enterLoop_inner ad _ _ _ _ _,rfl,x2.alloc_heap_new w _,.inl rfl,nb _ _,(nc _ _).b,o8 _⟩
   let aj:x2->Prop:=λI=>mark=[]\/(mark=[iY D]/\I.heap[D]? =σ (.deferred (σ []))/\w.heap.size<=D/\D≠l);have ay:∀ {m:Nat} {A B:x2},ch m A B->aj A->aj B:=λae h=>h.imp id λ⟨h1,J,W⟩=>⟨h1,ae.a7 _ _ J rfl,W⟩;have aE:∀ {A:x2} (o:Obj),aj A->aj (A.putObj l o):=λo h=>h.imp id λ⟨h1,J,W,ab⟩=>⟨h1,(x2.putObj_heap_other ab).trans J,W,ab⟩;let a8:Nat->aZ->x2->Prop:=λm k I=>bt m k I/\I.heap[l]? =σ (.loop (U .ready ν))/\ch b w I/\aj I;let ba:Nat->aZ->x2->Prop:=λm k I=>∃ex c,jA ex=true/\exitCode ex=σ c/\aK m k ex I/\I.heap[l]? =σ (.loop (U .done (σ c)))/\ch b w I/\aj I;have own:∀ {m:Nat} {A B:x2},ag (λr=>o=true/\X.heap.size<=r/\r<m) A B->ag (λr=>o=true/\w.heap.size<=r/\r<m) A B:=λh=>h.mono λr _ h=>⟨h.1,Y9 ai.size h.2.1,h.2.2⟩;have aO:=bw l a8 ba X (λm k A B he ae ⟨h1,J,W,ab⟩=>⟨aC m k A B (own he) h1,ae.a7 _ _ J rfl,W.step ae ai.size,ay ae ab⟩)
    (λm k A B he ae ⟨ex,c,ad,h1,J,W,ab,az⟩=>⟨ex,c,ad,h1,aL m k ex A B (own he) J,ae.a7 _ _ W rfl,ab.step ae ai.size,ay ae az⟩) ?round (ha2 _ _ ai hbz) λm=>⟨aC m _ _ _ (ai.aa _) (bA m),bI,bJ,aN⟩
   case round=>
    intro m k aP vs I bN bO haJ bb ⟨hi,aF,bP,bQ⟩;have aQ:=bx k vs aP I bb;have bc:=run_yield (P:=P) (args:=vs.toArray) aF (by rw[V];simp[aQ]);rw[V] at bc;refine⟨fn,_,ap,body,bc,roundIn_of_wpIn trivial ?_⟩;have bR:(ah.zip vs.toArray).foldl (λtmps x=>match x with|(t,a)=>tmps.setIfInBounds t a) a.tmps=(ah.toList.zip vs).foldl (λdp (p:Nat×x1)=>dp.setIfInBounds p.1 p.2) a.tmps:=by
     rw[<-Array.foldl_toList,Array.toList_zip]
    have bd:=vO (N:=N) ah.toList vs a.tmps e (by simp[aQ]) bp (show S1 N e {tmps:=a.tmps,defers:=[]} from⟨aw.1,aw.2⟩);rw[<-bR] at bd;have bS:I.heap[l]? =σ (.loop (U .ready ν)):=aF;refine bm (false,b) (σ l) _ _ _ I _ _ bq (λl' aR=>⟨rfl,by cases aR;exact⟨_,aF⟩⟩) (λ_=>⟨[],rfl,List.nodup_nil,λD aN=>by cases aN⟩) (by have aA:=qf _ _ vs bB;rw[qe _ _ _ aQ] at aA;exact aA m k aP I (Y9 ai.size bN) bO haJ bb hi) bd ?_ (λ_ _ _ h=>h);intro ex be Y aS;obtain⟨ad,ck,h1,J,W,ab,az⟩:=aS;obtain⟨ak,bT,_⟩:=az rfl;cases ex with
    |normal=>
     have aq:Y.heap[l]? =σ (.loop (U .ready ν)):=ak.a7 _ _ aF rfl;have bU:=(j6.1 aq).1;refine⟨_,run_beginRound aq (by rw[V]),?_⟩;have bV:Ext Y (Y.putObj l (.loop {U .ready ν with state:=.busy})):=oE aq rfl _;have bf:(Y.putObj l (.loop {U .ready ν with state:=.busy})).heap[l]? =σ (.loop {U .ready ν with state:=.busy}):=x2.putObj_heap_same bU;have bW:km (Y.putObj l (.loop {U .ready ν with state:=.busy})) be.defers:=by
      obtain⟨aG,au,av,af⟩:=bT;refine⟨aG,au,av,λal am=>?_⟩;have:=af al am;have aM:al≠l:=λhe=>by rw[he,aq] at this;cases this
      rw[x2.putObj_heap_other aM];exact this
     have bg:ch b w (Y.putObj l (.loop {U .ready ν with state:=.busy})):=qj (bP.trans ak) aD _;have bh:=aE (.loop {U .ready ν with state:=.busy}) (ay ak bQ);have bX:=h1 _ bV (vL rfl) (CL (eE.refl _) aq rfl _);refine aA (false,b) (σ l) _ _ be _ _ _ br (λl' aR=>⟨rfl,by cases aR;exact⟨_,bf⟩⟩) (λ_=>bW) bX J ?_ (λ_ _ _ h=>h);intro bY cl an aS;obtain⟨aT,cm,g1,cn,cp,cq,bZ⟩:=aS;obtain⟨ac,_,_⟩:=bZ rfl;have aU:an.heap[l]? =σ (.loop {U .ready ν with state:=.busy}):=ac.a7 _ _ bf rfl;have aV:=(j6.1 aU).1;have bi:=λb0=>run_endRound (P:=P) b0 aU;have aH:∀ (o:Obj),Ext an (an.putObj l o):=λo=>oE aU rfl o;have bj:∀ (ex:Exit) (c:Code),jA ex=true->exitCode ex=σ c->(bif o then False else aK m k ex an)->
       ∃v w',(Instr.endRound l (σ c)).run P an= .ok v w'/\ ∃aW,Ending.returned v= .returned aW/\((aW= .bool true/\aJ w'/\a8 m aP w'/\(G=true\/o=true->cN I w')/\I.heap.size<=w'.heap.size/\(o=true->ag (λr=>r<X.heap.size\/m<=r) I w'))\/(o=false/\aW= .bool false/\ba m k w')):=by
      intro ex c ax b1 bk;cases o with
      |true=>exact bk.elim
      |false=>
       refine⟨_,_,bi (σ c),_,rfl,.inr ⟨rfl,rfl,ex,c,ax,b1,aL m k ex _ _ ((aH _).aa _) bk,?_,qj (bg.trans ac) aD _,aE _ (ay ac bh)⟩⟩;rw[x2.putObj_heap_same aV,V];rfl
     cases bY with
     |normal=>
      obtain⟨au,av,af⟩:=g1;have b2:G=true\/o=true->eE I an:=by
       cases o with
       |true=>exact λ_=>af.1
       |false=>exact λh=>af (h.elim id λh=>nomatch h)
      have b3:o=true->ag (λr=>r<X.heap.size\/m<=r) I an:=by
       cases o with
       |true=>exact λ_=>af.2.mono λr _ h=>h.imp (λh=>Nat.lt_of_lt_of_le h ai.size) id
       |false=>exact λh=>nomatch h
      refine⟨_,_,bi ν,_,rfl,.inl ⟨rfl,ha2 _ _ (aH _) au,⟨aC m _ _ _ ((aH _).aa _) av,?_,qj (bg.trans ac) aD _,aE _ (ay ac bh)⟩,λb4=>?_,?_,λb5=>(b3 b5).trans ((aH _).aa _)⟩⟩
      .rw[x2.putObj_heap_same aV,V];rfl
      .have:=CS bS ak ac aV (b2 b4);subst V;exact this
      .have h1:=ak.size;have J:=ac.size;simp at J ⊢;omega
     |ret=>exact bj .ret _ rfl rfl g1
     |exit id=>exact bj (.exit id) _ rfl rfl g1
     |goto t=>cases aT
     |panic b6=>cases aT
     |outgrown=>cases aT
    |_=>exact h1.elim
   have aO:=fZ.calls P aO a1;refine⟨l,mark,X,{target:=.fn (.func g) cap,args:=#[.func (.yield l) #[] #[]]},X,g,#[.func (.yield l) #[] #[]]++cap,X,bH,?_,λ_ _=>trivial,?_,se _ _,?_⟩
   .simp only[resolve,bG];simp[go_sem]
   .simp only[invoke];exact a1 _ _
   .have b7:(#[.func (.yield l) #[] #[]]++cap:Array x1)=(x1.func (.yield l) #[] #[]::cap.toList).toArray:=by apply Array.toList_inj.1;simp
    rw[b7];refine CallsIn.mono (vx aO) ?_;rintro cr Y ⟨v,rfl,b8⟩;have left:∀ (ao:Loop) (ex:Exit),jA ex=true->Y.heap[l]? =σ (.loop ao)->ao.state≠ .busy->ch b w Y->aj Y->K ex e (Y.putObj l (.loop {ao with state:=.exhausted}))->
      Q ex {a with defers:=mark++a.defers} (Y.putObj l (.loop {ao with state:=.exhausted})):=by
     intro ao ex ax aq ct ak bl b9;have ac:ch b w (Y.putObj l (.loop {ao with state:=.exhausted})):=qj ak aD _;refine bo ex _ _ ⟨ax,e,b9,⟨aw.1,aw.2⟩,λ_ _=>rfl,(λh=>by simp[h3,iW] at h),λ_=>⟨ac,?_,?_⟩⟩
     case refine_2=>
      rcases bl with hm|⟨hm,_,ca,_⟩
      .exact⟨[],by simp[hm],λ_ h=>by cases h⟩
      .exact⟨[D],by simp[hm],λal am=>by simp at am;omega⟩
     obtain⟨aG,au,av,af⟩:=bn rfl;have aX:=aE (.loop {ao with state:=.exhausted}) bl;rcases aX with hm|⟨hm,aX,ca,_⟩
     .exact⟨aG,by simp[hm,au],av,λal am=>ac.a7 _ _ (af al am) rfl⟩
     .refine⟨D::aG,by simp[hm,au],List.nodup_cons.2 ⟨λcb=>?_,av⟩,λal am=>?_⟩
      .have:=(j6.1 (af D cb)).1;omega
      .rcases T1.1 am with h|h
       .rw[h];exact aX
       .exact ac.a7 _ _ (af al h) rfl
    rcases b8 with⟨m,k,cc,h1,J,W,ab⟩|⟨m,k,ex,c,ad,h1,J,W,ab,az⟩
    .refine⟨ν,_,by have:=run_endLoop (P:=P) J (by rw[V];simp);rw[V] at this;exact this,?_⟩;have:=left (U .ready ν) .normal rfl J (by rw[V];simp) W ab (bC m _ _ cc (aC m _ _ _ ((oE J rfl _).aa _) h1));rw[V] at this;exact this
    .refine⟨σ c,_,by have:=run_endLoop (P:=P) W (by rw[V];simp);rw[V] at this;exact this,?_⟩;have:=left (U .done (σ c)) ex ad W (by rw[V];simp) ab az (bF m k ex _ ad (by intro he;rw[he] at h1;cases h1) (aL m _ _ _ _ ((oE W rfl _).aa _) J));rw[V] at this;cases ex with
     |normal=>cases h1
     |ret=>cases h1;exact wpIn_ret this
     |exit id=>cases h1;exact wpIn_exit this
     |goto t=>cases ad
     |panic b6=>cases ad
     |outgrown=>cases ad
theorem qm {b:Frame} {a:Act} {k:List Item} {cs:List Frame} {c:Code}:
  step P (lone (b.atR a (.code (.scope c)::k)) cs w)= .next (lone (b.atR a (.code c:: .inScope c::k)) cs w):=
 step_lone_go (by simp[stepG,stepG.exec,Frame.atR])
theorem CU {b:Frame} {a:Act} {k:List Item} {cs:List Frame} {c:Code}:
  step P (lone (b.atR a (.inScope c::k)) cs w)= .next (lone (b.atR a k) cs w):=
 step_lone_go (by simp[stepG,stepG.exec,Frame.atR])
theorem CV {F:Fence} {c:Code} {Q:Exit->Act->x2->Prop} {a:Act} (h:c.wpIn F n P (λex a' w'=>jA ex=true/\Q ex a' w') a w):
  (Code.scope c).wpIn F n P Q a w:=by
 intro b k cs ad U V;have I:(lone (b.atR a (.code (.scope c)::k)) cs w).fenced P F:=fenced_calm U V rfl;obtain⟨e,W,X,⟨Y,aa⟩,J⟩:=h b (.inScope c::k) cs ad U V;have ac:∀id,exitTo id (.inScope c::k)=exitTo id k:=λid=>by simp[exitTo]
 cases e with
 |normal=>exact⟨.normal,W,X,aa,.head I qm (StepsIn.trans J (.one (fenced_calm U V rfl) CU))⟩
 |exit id=>
  exact⟨.exit id,W,X,aa,λae ab=>.head I qm (J.1 ae (by rw[ac];exact ab)),
   λaf ab=>let⟨ag,h1,ah⟩:=J.2 af (by rw[ac];exact ab);⟨ag,h1,.head I qm ah⟩⟩
 |ret=>exact⟨_,W,X,aa,.of_steps (.one I qm) J⟩
 |goto l=>cases Y
 |panic ai=>cases Y
 |outgrown=>cases Y
theorem sound (hm:P.follows .mixedOrders=true) (c:Code):Sound P N c:=by
 induction c with
 |skip=>exact λfree r rd e a w K Q _ _ J h I U _=>wpIn_skip (U _ _ _ ⟨rfl,e,h,I,λ_ _=>rfl,λ_=>rfl,λY=>fM.refl (J Y)⟩)
 |label l=>exact λfree r rd e a w K Q _ _ J h I U _=>wpIn_label (U _ _ _ ⟨rfl,e,h,I,λ_ _=>rfl,λ_=>rfl,λY=>fM.refl (J Y)⟩)
 |ret=>exact λfree r rd e a w K Q _ _ J h I U _=>wpIn_ret (U _ _ _ ⟨rfl,e,h,I,λ_ _=>rfl,λ_=>rfl,λY=>fM.refl (J Y)⟩)
 |exit i=>exact λfree r rd e a w K Q _ _ J h I U _=>wpIn_exit (U _ _ _ ⟨rfl,e,h,I,λ_ _=>rfl,λ_=>rfl,λY=>fM.refl (J Y)⟩)
 |goto l=>exact λfree r rd e a w K Q _ _ J h I U _=>h.elim
 |refuse s=>exact λfree r rd e a w K Q _ _ J h I U _=>h.elim
 |region id ops au=>
  intro free r rd e a w K Q V aa J h I U ab;simp only[wf,U4] at V;have an:∀o∈ops.toList,∀t,o.dst=σ t->t∈lR ops.toList:=λo av t ae=>CO ae _ av;simp only[ee] at h;cases au with
  |false=>exact Cu an V.1 h I λa' w' W=>U _ _ _ (vM J W)
  |true=>
   simp only[Y1,Bool.false_or] at V;exact CD hm V.2 ab an V.1 (λw' h1 ac ad=>h w' h1 ac ad) I λa' w' W=>U _ _ _ (vM J W)
 |seq x y ai aj=>exact CP ai aj
 |cond c x y ai aj=>
  intro free r rd e a w K Q V aa J h I U ab;simp only[wf,U4] at V;have ao:∀ex a' w',k9 N free (h3 free x) K (dd x) a w ex a' w'->Q ex a' w':=λex a' w' W=>U ex a' w' (by
   obtain⟨ah,af,h1,ac,ad,ag,ak⟩:=W;exact⟨ah,af,h1,ac,λt ae=>ad t λh=>ae (by simp[dd,h]),(λh=>ag (vP _ _ _ h)),ak⟩)
  have ap:∀ex a' w',k9 N free (h3 free y) K (dd y) a w ex a' w'->Q ex a' w':=λex a' w' W=>U ex a' w' (by
   obtain⟨ah,af,h1,ac,ad,ag,ak⟩:=W;exact⟨ah,af,h1,ac,λt ae=>ad t λh=>ae (by simp[dd,h]),(λh=>ag (vQ _ _ _ h)),ak⟩)
  simp only[ee] at h;cases X:ej e c with
  |none=>rw[X] at h;exact h.elim
  |some v=>
   rw[X] at h;cases v with
   |b t=>
    cases t with
    |true=>exact wpIn_cond (t:=true) (I.ej X) (ai free r rd e a w K Q V.1 aa J h I ao ab)
    |false=>exact wpIn_cond (t:=false) (I.ej X) (aj free r rd e a w K Q V.2 aa J h I ap ab)
   |v z=>
    obtain⟨t,aw,ae,Y⟩:=h;refine wpIn_cond (t:=t) ((I.ej X).trans aw) ?_;cases t with
    |true=>exact ai free r rd e a w K Q V.1 aa J (ae rfl) I ao ab
    |false=>exact aj free r rd e a w K Q V.2 aa J (Y rfl) I ap ab
   |u=>exact h.elim
 |block id c X=>
  intro free r rd e a w K Q V aa J h I U ab;simp only[wf] at V;simp only[ee] at h;refine wpIn_block (X free r rd e a w _ _ V aa J h I ?_ λaq a w al=>ab aq a w al);intro ex a' w' W;obtain⟨ah,af,h1,ac,ad,ag⟩:=W;cases ex with
  |exit i=>
   simp only[Exit.inBlock];simp only at h1;by_cases hi:i=id
   .rw[if_pos hi];rw[hi,Nat.beq_refl] at h1;exact U _ _ _ ⟨rfl,af,h1,ac,ad,ag⟩
   .rw[if_neg hi];have:T3 i id=false:=by
     cases am:T3 i id with
     |true=>exact absurd (Nat.eq_of_beq_eq_true am) hi
     |false=>rfl
    rw[this] at h1;exact U _ _ _ ⟨rfl,af,h1,ac,ad,ag⟩
  |_=>exact U _ _ _ ⟨ah,af,h1,ac,ad,ag⟩
 |loop c X=>exact CQ X
 |scope c X=>
  intro free r rd e a w K Q V aa J h I U ab;exact CV (X free r rd e a w K (λex a' w'=>jA ex=true/\Q ex a' w') V aa J h I (λex a' w' W=>⟨W.1,U ex a' w' W⟩) λaq a w al=>by cases al.1)
 |rangeFunc f ay az body ax am=>exact CT ax am
def jB:Nat->List x1->Env
 |_,[]=>[]
 |i,v::r=>(i,.v v)::jB (i+1) r
def lV (P:W7) (e:Env) (w:x2):List ResultVar->(List x1->Prop)->Prop
 |[],K=>K []
 | .tmp t::r,K=>match look e t with
  |some x=>lV P e w r λvs=>K (x.val::vs)
  |none=>False
 | .cell a t::r,K=>match look e a with
  |some x=>J P (do loadVar t (<-asAddr x.val)) w λv=>lV P e w r λvs=>K (v::vs)
  |none=>False
def qn:List x1->x1
 |[v]=>v
 |vs=>.tuple vs.toArray
def ko (P:W7) (I:List ResultVar) (marks:Bool) (Q:x1->x2->Prop):Exit->Env->x2->Prop
 | .normal,e,w| .ret,e,w=>lV P e w I λvs=>bif marks then vJ w λw'=>Q (qn vs) w' else Q (qn vs) w
 |_,_,_=>False
def la:List ResultVar->List Nat
 |[]=>[]
 | .tmp t::r=>t::la r
 | .cell a _::r=>a::la r
theorem vR:∀ (vs:List x1) (i t:Nat) (x:ed),look (jB i vs) t=σ x-> ∃j v,t=i+j/\vs[j]? =σ v/\x= .v v
 |[],_,_,_,h=>by cases h
 |v::r,i,t,x,h=>by
  simp only[jB,look] at h;cases I:T3 i t with
  |true=>
   rw[I] at h;simp only[cond_true,Y8] at h;exact⟨0,v,by rw[Nat.eq_of_beq_eq_true I];rfl,rfl,h.symm⟩
  |false=>
   rw[I] at h;obtain⟨j,u,h1,J,U⟩:=vR r (i+1) t x h;exact⟨j+1,u,Ω,by simpa using J,U⟩
theorem sD (vs:List x1) (h:vs.length<=n):S1 n (jB 0 vs) {tmps:=vs.toArray++Array.replicate (n-vs.toArray.size) undef,defers:=[]}:=by
 refine⟨Θ,λt x J=>?_⟩;obtain⟨j,v,h1,I,rfl⟩:=vR vs 0 t x J;have h1:t=j:=Ω
 subst h1;have U:t<vs.length:=(x4.1 I).1;rw[Array.getD_eq_getD_getElem?,Array.getElem?_append_left (by simpa using U)];simp[I,ed.val]
def qo (dp:Array x1):ResultVar->Sem x1
 | .tmp t=>pure (dp.getD t undef)
 | .cell b t=>do loadVar t (<-asAddr (dp.getD b undef))
theorem CW (fn:Func) (dp:Array x1):results fn dp=(do let vs <-fn.results.mapM (qo dp);pure (if h:vs.size=1 then vs[0] else .tuple vs)):=by
 unfold results;congr 2
theorem sE {e:Env} {a:Act} {w:x2} (J:S1 N e a):∀ (U:List ResultVar) (K:List x1->Prop),lV P e w U K->
  ∃vs,K vs/\vs.length=U.length/\ ∀w',Ext w w'->(U.mapM (qo a.tmps)).run P w'= .ok vs w'
 |[],K,h=>⟨[],h,rfl,λw' _=>by simp[V1]⟩
 | .tmp t::r,K,h=>by
  simp only[lV] at h;cases I:look e t with
  |none=>rw[I] at h;exact h.elim
  |some x=>
   rw[I] at h;obtain⟨vs,h1,V,W⟩:=sE J r _ h;refine⟨x.val::vs,h1,by simp[V],λw' hw=>?_⟩;rw[List.mapM_cons];simp only[qo,W0,V1,W5,W w' hw,J.2 t x I]
 | .cell b t::r,K,h=>by
  simp only[lV] at h;cases I:look e b with
  |none=>rw[I] at h;exact h.elim
  |some x=>
   rw[I] at h;obtain⟨v,X,h⟩:=h;obtain⟨vs,h1,V,W⟩:=sE J r _ h;refine⟨v::vs,h1,by simp[V],λw' hw=>?_⟩;rw[List.mapM_cons];have:=X w' hw;rw[<-J.2 b x I] at this;rw[qo,W0,this];simp only[W5,W0,W w' hw,V1]
theorem sF {fn:Func} {e:Env} {a:Act} (J:S1 N e a) {K:List x1->Prop} (h:lV P e w fn.results.toList K):
  ∃vs,K vs/\ ∀w',Ext w w'->(results fn a.tmps).run P w'= .ok (qn vs) w':=by
 obtain⟨vs,h1,U,I⟩:=sE J _ _ h;refine⟨vs,h1,λw' hw=>?_⟩;have I:=I w' hw;rw[CW,W0,Array.mapM_eq_mapM_toList,map_eq_pure_bind,W0,I];simp only[W5,V1];cases vs with
 |nil=>rfl
 |cons v r=>
  cases r with
  |nil=>rfl
  |cons u r=>simp[qn]
theorem vS {fn:Func} {tmps:Array x1} {R:Ending->x2->Prop}:∀ (I:List Nat) (w:x2),I.Nodup->(∀D∈I,w.heap[D]? =σ (.deferred (σ [])))->
  (∀w',Ext w w'->Ext w' w->w'.os=w.os->iU w w'->w'.output=w.output->w.heap.size=w'.heap.size->
   (∀r,r∉I->w'.heap[r]? =w.heap[r]?)-> ∃v,(results fn tmps).run P w'= .ok v w'/\R (.returned v) w')->
  LeavesInM Fence.wide 0 P fn tmps R (I.map iY) .returning w
 |[],w,_,_,h=>by
  obtain⟨v,h1,J⟩:=h w (Ext.refl _) (Ext.refl _) rfl .jx rfl rfl λ_ _=>rfl;exact⟨v,h1,J⟩
 |D::I,w,U,V,h=>by
  rw[List.nodup_cons] at U;have W:=V D (.head _);refine⟨Ξ,.inl ⟨D,_,rfl,run_takeDeferred W,?_⟩⟩;refine vS I _ U.2 (λaa X=>?_) λw' h1 J ab ac ad ae af=>?_
  .rw[x2.putObj_heap_other (λhe=>U.1 (by rw[<-he];exact X))];exact V aa (.tail _ X)
  .refine h w' ((oE W rfl _).trans h1) (J.trans (vL rfl)) ab ac ad (by simpa using ae) λr Y=>?_;rw[af r λhm=>Y (.tail _ hm),x2.putObj_heap_other λhe=>Y (by rw[he];exact .head _)]
theorem ak.enter (hm:P.follows .mixedOrders=true) {f:FuncId} {fn:Func} {c:Code} (aa:P.funcs[f]? =σ fn) (ab:fn.body=σ c) (ah:(fn.name == "runtime.NumGoroutine")=false)
  (ai:wf fn.ntmps c=true) {args:List x1} (aj:Nat.ble args.length fn.ntmps=true) {w:x2} {Q:x1->x2->Prop}
  (h:ee P fn.ntmps (false,w.heap.size) c (la fn.results.toList) (jB 0 args) w (ko P fn.results.toList true Q)):ak P f args w Q:=by
 refine .code (Enters.of P aa ab ah) (callsIn_wide (n:=0).1 (callsIn_of_wp_marks aa ab trivial ?_));have al:=sD (n:=fn.ntmps) args (Nat.le_of_ble_eq_true aj);refine wpIn_mono (Q:=λex a' w'=>jA ex=true/\bodyPostM Fence.wide 0 P fn (λe w'=>∃v,e= .returned v/\cN w w'/\Q v w') ex a' w') ?_ λ_ _ _ h=>h.2;refine sound hm c (false,w.heap.size) ν _ _ _ w _ _ ai (λl am=>by cases am) (λ_=>⟨[],rfl,List.nodup_nil,λD W=>by cases W⟩) h al ?_ (λ_ _ _ h=>by cases h.1)
 .intro ex a' w' an;obtain⟨ao,ap,U,aq,_,_,I⟩:=an;obtain⟨J,⟨X,ac,au,W⟩,av,aw,ax⟩:=I rfl;have ay:∀D∈X,w.heap.size<=D:=by
   intro D az;have h1:iY D∈av.map iY:=by
    have:iY D∈X.map iY:=Z1.2 ⟨D,az,rfl⟩;rw[<-ac,aw] at this;simpa using this
   obtain⟨ad,Y,aA⟩:=Z1.1 h1;have:ad=D:=by simpa[iY] using aA
   exact this▸ax ad Y
  have ae:ko P fn.results.toList true Q .ret ap w'->LeavesInM Fence.wide 0 P fn a'.tmps (λe af=>∃v,e= .returned v/\cN w af/\Q v af) a'.defers .returning w':=by
   intro U;rw[ac];obtain⟨vs,h1,Y⟩:=sF (fn:=fn) aq U;refine vS X w' au W λV g1 aB aC aD aE aF aG=>⟨_,Y V g1,_,rfl,?_,h1 V g1 aB⟩;have J:=J.dv (o8 _);refine⟨aC.trans J.os,aD.trans J.tape,aE.trans J.output,by rw[<-aF];exact J.size,λr o ag aH=>?_⟩;have aI:=(j6.1 ag).1;rw[aG r λhm=>by have:=ay r hm;omega];exact J.a7 r o ag aH
  cases ex with
  |normal=>exact⟨rfl,ae U⟩
  |ret=>exact⟨rfl,ae U⟩
  |exit id=>exact U.elim
  |_=>cases ao
theorem ak.CX (hm:P.follows .mixedOrders=true) {f:FuncId} {fn:Func} {c:Code} (U:P.funcs[f]? =σ fn) (V:fn.body=σ c) (Y:(fn.name == "runtime.NumGoroutine")=false)
  (aa:wf fn.ntmps c=true) {args:List x1} (ab:Nat.ble args.length fn.ntmps=true) (aI:iW c=false) {w:x2} {Q:x1->x2->Prop}
  (h:ee P fn.ntmps (false,w.heap.size) c (la fn.results.toList) (jB 0 args) w (ko P fn.results.toList false Q)):ak P f args w Q:=by
 refine .code (Enters.of P U V Y) (callsIn_wide (n:=0).1 (callsIn_of_wp U V trivial ?_));have ac:=sD (n:=fn.ntmps) args (Nat.le_of_ble_eq_true ab);refine wpIn_mono (Q:=λex a' w'=>jA ex=true/\bodyPost P fn (λe w'=>∃v,e= .returned v/\cN w w'/\Q v w') ex a' w') ?_ λ_ _ _ h=>h.2;refine sound hm c (false,w.heap.size) ν _ _ _ w _ _ aa (λl ad=>by cases ad) (λ_=>⟨[],rfl,List.nodup_nil,λD ae=>by cases ae⟩) h ac ?_ (λ_ _ _ h=>by cases h.1);intro ex a' w' af;obtain⟨ag,ah,J,ai,_,aj,I⟩:=af;have al:a'.defers=[]:=aj (by simp[h3,aI]);have W:ko P fn.results.toList false Q .ret ah w'->a'.defers=[]/\ ∃v,(results fn a'.tmps).run P w'= .ok v w'/\ ∃X,Ending.returned v= .returned X/\cN w w'/\Q X w':=by
  intro J;obtain⟨vs,h1,am⟩:=sF (fn:=fn) ai J;exact⟨al,_,am w' (Ext.refl _),_,rfl,(I rfl).1.dv (o8 _),h1⟩
 cases ex with
 |normal=>exact⟨rfl,W J⟩
 |ret=>exact⟨rfl,W J⟩
 |exit id=>exact J.elim
 |_=>cases ag
theorem fZ.enter (hm:P.follows .mixedOrders=true) {f:FuncId} {fn:Func} {c:Code} (U:P.funcs[f]? =σ fn) (V:fn.body=σ c) (Y:(fn.name == "runtime.NumGoroutine")=false)
  (aa:wf fn.ntmps c=true) {args:List x1} (ab:Nat.ble args.length fn.ntmps=true) {w:x2} {Q:x1->x2->Prop}
  (h:ee P fn.ntmps (true,0) c (la fn.results.toList) (jB 0 args) w (ko P fn.results.toList false Q)):fZ P f args w Q:=by
 refine .code (Enters.of P U V Y) (callsIn_wide (n:=0).1 (callsIn_of_wp U V trivial ?_));have ac:=sD (n:=fn.ntmps) args (Nat.le_of_ble_eq_true ab);refine wpIn_mono (Q:=λex a' w'=>jA ex=true/\bodyPost P fn (λe w'=>∃v,e= .returned v/\Q v w') ex a' w') ?_ λ_ _ _ h=>h.2;refine sound hm c (true,0) ν _ _ _ w _ _ aa (λl ad=>by cases ad) (λh=>by cases h) h ac ?_ (λ_ _ _ h=>by cases h.1);intro ex a' w' ae;obtain⟨af,ag,J,ah,_,ai,I⟩:=ae;have aj:a'.defers=[]:=ai rfl;have W:ko P fn.results.toList false Q .ret ag w'->a'.defers=[]/\ ∃v,(results fn a'.tmps).run P w'= .ok v w'/\ ∃X,Ending.returned v= .returned X/\Q X w':=by
  intro J;obtain⟨vs,h1,ak⟩:=sF (fn:=fn) ah J;exact⟨aj,_,ak w' (Ext.refl _),_,rfl,h1⟩
 cases ex with
 |normal=>exact⟨rfl,W J⟩
 |ret=>exact⟨rfl,W J⟩
 |exit id=>exact J.elim
 |_=>cases af
end
def oF (l:List S0) (d:Nat):Nat:=
 match l with
 |[]=>d
 | .tmp t::r=>oF r (Nat.lor d (Nat.shiftLeft 1 t))
 |_::r=>oF r d
def nf:List T0->Nat->Option T0
 |[],_=>ν
 |o::_,0=>σ o
 |_::l,n+1=>nf l n
def vT (a b:Nat):Nat:=Nat.xor a (Nat.land a b)
def oG (m t:Nat):Bool:=T3 (Nat.land (Nat.shiftRight m t) 1) 1
def iZ (m t:Nat):Nat:=Nat.lor m (Nat.shiftLeft 1 t)
def CY (ops:List T0) (o:T0):Nat:=
 match o.guard with
 |none=>0
 |some (j,_)=>match nf ops j with
  |some ⟨σ d,_,_,_,_,_⟩=>Nat.shiftLeft 1 d
  |_=>0
def qp:List T0->Nat->Nat
 |[],d=>d
 |⟨σ t,_,_,_,_,_⟩::l,d=>qp l (iZ d t)
 |_::l,d=>qp l d
def vU (ops:List T0):List T0->Nat->Nat->Nat
 |[],_,r=>r
 |o::l,d,r=>vU ops l (match o.dst with|some t=>iZ d t|none=>d) (Nat.lor r (vT (oF (opsOf o.op) (CY ops o)) d))
def qq:List Nat->Nat->Nat
 |[],_=>0
 |x::_,0=>x
 |_::l,n+1=>qq l n
def vV (e:Edge):Bool:=
 match e.ground with
 | .textOnly _=>false
 | .gcOnly _=>false
 |_=>true
def vW (bs:List Nat):List Edge->Nat->Nat
 |[],s=>s
 |e::r,s=>vW bs r (bif vV e then Nat.lor (iZ s e.on) (qq bs e.on) else s)
def sG:List T0->List Nat->List Nat
 |[],bs=>bs
 |o::l,bs=>sG l (bs++[vW bs o.after.toList 0])
def vX:List T0->Bool
 |[]=>false
 |⟨_,_,_,_,_,σ _⟩::_=>true
 |_::l=>vX l
def sH (bs:List Nat) (j k:Nat):Bool:=!(T3 k j)&&(!(oG (qq bs j) k)&& !(oG (qq bs k) j))
def vY (bs:List Nat) (j:Nat):Nat->List T0->Bool
 |_,[]=>false
 |i,o::l=>bif Nat.ble j i then false else (!(hY o)&&sH bs j i)||vY bs j (Nat.succ i) l
def vZ (ops:List T0) (bs:List Nat):Nat->List T0->Bool
 |_,[]=>false
 |j,o::l=>(!(hY o)&&vY bs j 0 ops)||vZ ops bs (Nat.succ j) l
def kp:Code->Nat
 | .region _ ops I=>bif (I&&vZ ops.toList (sG ops.toList []) 0 ops.toList)||vX ops.toList then 2 else 1
 | .seq a b=>bif T3 (kp a) 0 then 0 else kp b
 | .cond _ a b=>Nat.add (kp a) (kp b)
 | .block id c=>Nat.add (kp c) (iq id c)
 | .loop _=>0
 | .scope c=>kp c
 | .exit _=>0
 | .goto _=>0
 | .ret=>0
 | .refuse _=>0
 |_=>1
def ha:Code->Nat
 | .region _ ops _=>qp ops.toList 0
 | .seq a b=>Nat.lor (ha a) (ha b)
 | .cond _ a b=>Nat.lor (ha a) (ha b)
 | .block _ c=>ha c
 | .loop c=>ha c
 | .scope c=>ha c
 |_=>0
def kq:Code->Nat
 | .region _ ops _=>qp ops.toList 0
 | .seq a b=>Nat.lor (kq a) (kq b)
 | .cond _ a b=>bif T3 (kp a) 0 then kq b else bif T3 (kp b) 0 then kq a else Nat.land (kq a) (kq b)
 | .block id c=>bif T3 (iq id c) 0 then kq c else 0
 | .scope c=>kq c
 |_=>0
def fq:Code->Nat
 | .region _ ops _=>vU ops.toList ops.toList 0 0
 | .seq a b=>Nat.lor (fq a) (vT (fq b) (kq a))
 | .cond c a b=>oF [c] (Nat.lor (fq a) (fq b))
 | .block _ c=>fq c
 | .loop c=>fq c
 | .scope c=>fq c
 | .rangeFunc f _ a b=>oF [f] (Nat.lor (fq a) (fq b))
 |_=>0
def lb:Nat->Nat->Nat->List Nat
 |0,_,_=>[]
 |n+1,k,m=>bif T3 m 0 then[] else bif T3 (Nat.land m 1) 1 then k::lb n (Nat.succ k) (Nat.shiftRight m 1) else lb n (Nat.succ k) (Nat.shiftRight m 1)
def oH (e:Env):List Nat->List Nat
 |[]=>[]
 |t::r=>match look e t with
  |some _=>t::oH e r
  |none=>oH e r
structure ld (B S aU:Type) where
 jC:{x:x1}->x1
 v7:List x1->x1
 no:B
 jD:B
 and:B->B->B
 or:B->B->B
 ext:x2->x2->B
 stays:S->x1->x2->B
 split:x1->B->B->B
 sI:S->x2->(x1->B)->B
 v8:S->x2->(x1->x2->B)->B
 wa:aU->x2->(x2->B)->B
 runN:{fr:Bool}->{n:Nat}->S->x2->(x1->x2->B)->B
 wb:{f:FuncId}->List x1->x2->(x1->x2->B)->B
 wc:{f:FuncId}->List x1->x2->(x1->x2->B)->B
 we:{fr:Bool}->x1->List x1->x2->(x1->x2->B)->B
 drew:x2->(x2->B)->B
 again:x2->(x2->B)->B
 over:x2->(x2->B)->B
 di:(x2->B)->((x2->B)->B)->B
 aQ:(x1->x2->B)->((x1->x2->B)->B)->B
 h4:(x1->x1->x2->B)->((x1->x1->x2->B)->B)->B
 wg:(x1->x1->x1->x2->B)->((x1->x1->x1->x2->B)->B)->B
 wh:(x1->x1->x1->x1->x2->B)->((x1->x1->x1->x1->x2->B)->B)->B
 wi:(x1->x1->x1->x1->x1->x2->B)->((x1->x1->x1->x1->x1->x2->B)->B)->B
 wj:x2->(x2->(x2->B)->B)->B
 wk:x1->x2->(x1->x2->(x1->x2->B)->B)->B
 wm:x1->x1->x2->(x1->x1->x2->(x1->x1->x2->B)->B)->B
 wn:x1->x1->x1->x2->(x1->x1->x1->x2->(x1->x1->x1->x2->B)->B)->B
 wo:x1->x1->x1->x1->x2->(x1->x1->x1->x1->x2->(x1->x1->x1->x1->x2->B)->B)->B
 wp:x1->x1->x1->x1->x1->x2->(x1->x1->x1->x1->x1->x2->(x1->x1->x1->x1->x1->x2->B)->B)->B
 wq:x1->x1->x1->x1->x1->x1->x2->(x1->x1->x1->x1->x1->x1->x2->(x1->x1->x1->x1->x1->x1->x2->B)->B)->B
 wr:x1->x2->(x1->x2->(Exit->x2->B)->B)->(x2->B)->(x2->B)->List (Nat×(x2->B))->B
 ws:x1->x2->(x1->x1->x2->(Exit->x2->B)->B)->(x2->B)->(x2->B)->List (Nat×(x2->B))->B
 loadVar:{t:r9}->x1->S
 alloc:{t:r9}->S
 box:{t:r9}->x1->S
 build:{t:r9}->List (Nat×x1)->S
 buildSlice:{t:r9}->{n:Nat}->List (Nat×x1)->S
 load:{t:r9}->x1->S
 nil:x1->S
 bin:{op:BinOp}->{t:r9}->Bool->Bool->x1->x1->S
 un:{op:UnOp}->x1->S
 conv:{s d:r9}->x1->S
 wu:{t:r9}->x1->S
 wv:{f:Fn}->List x1->List x1->S
 wx:{t:r9}->Option x1->S
 wy:{t:r9}->x1->x1->S
 slice:{t:r9}->x1->Option x1->Option x1->Option x1->S
 wz:{t:r9}->x1->{f:Nat}->S
 field:{t:r9}->x1->{f:Nat}->S
 wA:{t:r9}->x1->x1->S
 index:{t:r9}->x1->x1->S
 lookup:{t:r9}->x1->x1->{ok:Bool}->S
 wB:{t:r9}->x1->x1->S
 range:{t:r9}->x1->S
 entry:x1->S
 assert:{t a:r9}->x1->{ok:Bool}->S
 extract:x1->{i:Nat}->S
 next:x1->{b:Bool}->S
 append:{ats:Array r9}->{t:r9}->List x1->S
 cap:{ats:Array r9}->{t:r9}->List x1->S
 clear:{ats:Array r9}->{t:r9}->List x1->S
 copy:{ats:Array r9}->{t:r9}->List x1->S
 delete:{ats:Array r9}->{t:r9}->List x1->S
 len:{ats:Array r9}->{t:r9}->List x1->S
 max:{ats:Array r9}->{t:r9}->List x1->S
 min:{ats:Array r9}->{t:r9}->List x1->S
 store:{t:r9}->x1->x1->aU
 sJ:{t:r9}->x1->x1->x1->aU
 wC:{t:r9}->x1->x1->x1->aU
section
variable {B S aU:Type} (A:ld B S aU)
def ed.g:ed->x1
 | .v x=>x
 | .b c=>.bool c
 | .u=>A.jC (x:=undef)
def lW (e:Env):S0->ed
 | .tmp t=>match look e t with
  |some x=>x
  |none=>.u
 | .const (.bool c)=>.b c
 | .const x=>.v (A.jC (x:=x))
 | .global g=>.v (A.jC (x:=Γ g))
 | .func f=>.v (A.jC (x:=.func (.func f) #[] #[]))
def cO (e:Env) (x:S0):x1:=(lW A e x).g A
def lX (e:Env):List S0->List x1
 |[]=>[]
 |x::r=>cO A e x::lX e r
def qs (e:Env):Option S0->Option x1
 |none=>ν
 |some x=>σ (cO A e x)
def sK (e:Env):List (Nat×S0)->List (Nat×x1)
 |[]=>[]
 |(i,x)::r=>(i,cO A e x)::sK e r
def CZ (b:l7) (ats:Array r9) (t:r9) (l:List x1) (K:S->B):B:=
 match b with
 | .append=>K (A.append (ats:=ats) (t:=t) l)
 | .cap=>K (A.cap (ats:=ats) (t:=t) l)
 | .clear=>K (A.clear (ats:=ats) (t:=t) l)
 | .copy=>K (A.copy (ats:=ats) (t:=t) l)
 | .delete=>K (A.delete (ats:=ats) (t:=t) l)
 | .len=>K (A.len (ats:=ats) (t:=t) l)
 | .max=>K (A.max (ats:=ats) (t:=t) l)
 | .min=>K (A.min (ats:=ats) (t:=t) l)
 |_=>A.no
def wD (e:Env) (t:r9) (K:S->B) (I:aU->B):Op->B
 | .alloc t=>K (A.alloc (t:=t))
 | .box t x=>K (A.box (t:=t) (cO A e x))
 | .build t J=>K (A.build (t:=t) (sK A e J.toList))
 | .buildSlice t n J=>K (A.buildSlice (t:=t) (n:=n) (sK A e J.toList))
 | .load t x=>K (A.load (t:=t) (cO A e x))
 | .nilCheck x=>K (A.nil (cO A e x))
 | .binOp op t x y _=>K (A.bin (op:=op) (t:=t) (mX x) (mX y) (cO A e x) (cO A e y))
 | .unOp op _ x=>K (A.un (op:=op) (cO A e x))
 | .convert s d x=>K (A.conv (s:=s) (d:=d) (cO A e x))
 | .makeInterface t x=>K (A.wu (t:=t) (cO A e x))
 | .makeFunc f a b=>K (A.wv (f:=f) (lX A e a.toList) (lX A e b.toList))
 | .makeMap t r=>K (A.wx (t:=t) (qs A e r))
 | .makeSlice t l c=>K (A.wy (t:=t) (cO A e l) (cO A e c))
 | .slice t x l h m=>K (A.slice (t:=t) (cO A e x) (qs A e l) (qs A e h) (qs A e m))
 | .fieldAddr t x f=>K (A.wz (t:=t) (cO A e x) (f:=f))
 | .field t x f=>K (A.field (t:=t) (cO A e x) (f:=f))
 | .indexAddr t x i=>K (A.wA (t:=t) (cO A e x) (cO A e i))
 | .index t x i=>K (A.index (t:=t) (cO A e x) (cO A e i))
 | .lookup t x i ok=>K (A.lookup (t:=t) (cO A e x) (cO A e i) (ok:=ok))
 | .mapEntry t m k=>K (A.wB (t:=t) (cO A e m) (cO A e k))
 | .range t x=>K (A.range (t:=t) (cO A e x))
 | .entry x=>K (A.entry (cO A e x))
 | .typeAssert x t a ok=>K (A.assert (t:=t) (a:=a) (cO A e x) (ok:=ok))
 | .extract x i=>K (A.extract (cO A e x) (i:=i))
 | .call ⟨.builtin b,args,ats⟩=>CZ A b ats t (lX A e args.toList) K
 | .store t a x=>I (A.store (t:=t) (cO A e a) (cO A e x))
 | .mapUpdate t m k x=>I (A.sJ (t:=t) (cO A e m) (cO A e k) (cO A e x))
 | .insert t m k x=>I (A.sJ (t:=t) (cO A e m) (cO A e k) (cO A e x))
 | .entryStore t m k x=>I (A.wC (t:=t) (cO A e m) (cO A e k) (cO A e x))
 |_=>A.no
def gr (e:Env) (d:Option Tmp) (x:ed):Env:=
 match d with
 |some t=>(t,x)::e
 |none=>e
def wE (o:T0) (e:Env) (w:x2) (K:Env->(x2->B)->B):B:=
 match o with
 |⟨d,.move x,_,_,_,_⟩=>K (gr e d (lW A e x)) (λ_=>A.jD)
 |⟨d,.assign x,_,_,_,_⟩=>K (gr e d (lW A e x)) (λ_=>A.jD)
 |⟨d,.pick c a b,_,_,_,_⟩=>
  match lW A e c with
  | .b true=>K (gr e d (lW A e a)) (λ_=>A.jD)
  | .b false=>K (gr e d (lW A e b)) (λ_=>A.jD)
  | .v x=>A.split x (K (gr e d (.v (cO A e a))) (λ_=>A.jD)) (K (gr e d (.v (cO A e b))) (λ_=>A.jD))
  | .u=>A.no
 |⟨d,op,t,_,_,_⟩=>wD A e t (λs=>A.sI s w λv=>K (gr e d (.v v)) (A.stays s v)) (λ_=>A.no) op
def C0 (fr:Bool) (n:Nat) (o:T0) (e:Env) (w:x2) (K:Env->x2->B):B:=
 match o with
 |⟨d,.call ⟨.value (.func f),args,_⟩,_,_,_,_⟩=>
  bif fr then A.wc (f:=f) (lX A e args.toList) w λv w'=>K (gr e d (.v v)) w'
  else A.wb (f:=f) (lX A e args.toList) w λv w'=>K (gr e d (.v v)) w'
 |⟨d,.call ⟨.value x,args,_⟩,_,_,_,_⟩=>A.we (fr:=fr) (cO A e x) (lX A e args.toList) w λv w'=>K (gr e d (.v v)) w'
 |⟨d,.next x b,_,_,_,_⟩=>A.runN (fr:=fr) (n:=n) (A.next (cO A e x) (b:=b)) w λv w'=>K (gr e d (.v v)) w'
 |⟨d,op,t,_,_,_⟩=>wD A e t (λs=>A.v8 s w λv w'=>K (gr e d (.v v)) w') (λu=>A.wa u w λw'=>K (gr e d (.v (A.jC (x:=undef)))) w') op
def wF (fr:Bool) (n:Nat) (o:T0) (e:Env) (w:x2) (K:Env->x2->B):B:=
 bif hY o then wE A o e w (λI _=>K I w) else C0 A fr n o e w K
def sL (ops:List T0) (o:T0) (e:Env) (D N:Env->B):B:=
 match o.guard with
 |none=>D e
 |some (j,b)=>
  match nf ops j with
  |some ⟨σ s,_,_,_,_,_⟩=>
   match look e s with
   |some (.b c)=>bif xor c b then N e else D e
   |some (.v x)=>A.split x (bif b then D ((s,.b true)::e) else N ((s,.b true)::e)) (bif b then N ((s,.b false)::e) else D ((s,.b false)::e))
   |some .u=>N e
   |none=>A.no
  |_=>A.no
def sM (fr:Bool) (n:Nat) (ops:List T0):List T0->Env->x2->(Env->x2->B)->B
 |[],e,w,K=>K e w
 |o::l,e,w,K=>sL A ops o e (λe=>wF A fr n o e w λI w'=>sM fr n ops l I w' K) (λe=>sM fr n ops l (gr e o.dst .u) w K)
def wG:List Edge->Nat->Bool
 |[],_=>true
 |e::r,I=>(bif vV e then oG I e.on else true)&&wG r I
def qt (I:Nat):Nat->List T0->List Nat
 |_,[]=>[]
 |i,o::l=>bif oG I i then qt I (Nat.succ i) l else bif wG o.after.toList I then i::qt I (Nat.succ i) l else qt I (Nat.succ i) l
def wH (ops:List T0):List Nat->Option Nat
 |[]=>ν
 |i::r=>match nf ops i with
  |some o=>bif hY o then σ i else wH ops r
  |none=>ν
def wI (p:Nat->B):List Nat->B
 |[]=>A.jD
 |[i]=>p i
 |i::r=>A.and (p i) (wI p r)
def wJ (same:Bool) (q:Nat) (w:x2) (st:x2->B) (I:List (x2×List (Nat×(x2->B)))):List (x2×List (Nat×(x2->B))):=
 match same,I with
 |true,g::r=>(g.1,(q,st)::g.2)::r
 |_,I=>(w,[(q,st)])::I
def wK (bs:List Nat) (j:Nat):List (Nat×(x2->B))->Bool
 |[]=>false
 |(i,_)::r=>sH bs j i||wK bs j r
def sN (bs:List Nat) (j:Nat) (w':x2):List (Nat×(x2->B))->B
 |[]=>A.jD
 |(i,p)::r=>bif sH bs j i then A.and (p w') (sN bs j w' r) else sN bs j w' r
def qu (bs:List Nat) (j:Nat) (w':x2) (C:B):List (x2×List (Nat×(x2->B)))->B
 |[]=>C
 |(w,l)::r=>bif wK bs j l then A.and (A.or (A.ext w w') (sN A bs j w' l)) (qu bs j w' C r) else qu bs j w' C r
def lY (fr:Bool) (n:Nat) (ops:List T0) (bs:List Nat):Nat->Nat->Bool->List (x2×List (Nat×(x2->B)))->Env->x2->(Env->x2->B)->B
 |0,_,_,_,e,w,K=>K e w
 |fuel+1,J,same,I,e,w,K=>
  match qt J 0 ops with
  |[]=>K e w
  |i::r=>
   match wH ops (i::r) with
   |some q=>
    match nf ops q with
    |some o=>sL A ops o e
      (λe=>wE A o e w λU st=>
       bif ki o then lY fr n ops bs fuel (iZ J q) same I U w K
       else lY fr n ops bs fuel (iZ J q) true (wJ same q w st I) U w K)
      (λe=>bif ki o then lY fr n ops bs fuel (iZ J q) same I (gr e o.dst .u) w K
       else lY fr n ops bs fuel (iZ J q) true (wJ same q w (λ_=>A.jD) I) (gr e o.dst .u) w K)
    |none=>A.no
   |none=>
    wI A (λj=>match nf ops j with
     |some o=>sL A ops o e (λe=>wF A fr n o e w λU w'=>qu A bs j w' (lY fr n ops bs fuel (iZ J j) false I U w' K) I)
       (λe=>qu A bs j w (lY fr n ops bs fuel (iZ J j) false I (gr e o.dst .u) w K) I)
     |none=>A.no) (i::r)
def qv (e:Env):List Nat->List x1
 |[]=>[]
 |t::r=>(match look e t with|some x=>x.g A|none=>A.jC (x:=undef))::qv e r
def sO (l:List Nat) (vs:List x1) (e:Env):Env:=
 match l,vs with
 |t::r,v::vs=>(t,.v v)::sO r vs e
 |_,_=>e
def qw (d:Nat):Env->Env
 |[]=>[]
 |(t,x)::r=>bif oG d t then qw d r else (t,x)::qw d r
def C1 (l:List Nat) (I:List x1->x2->B) (J:(List x1->x2->B)->B):B:=
 match l with
 |[]=>A.di (λw=>I [] w) λk=>J λ_ w=>k w
 |[_]=>A.aQ (λa w=>I [a] w) λk=>J λvs w=>match vs with
  |[a]=>k a w
  |_=>A.no
 |[_,_]=>A.h4 (λa b w=>I [a,b] w) λk=>J λvs w=>match vs with
  |[a,b]=>k a b w
  |_=>A.no
 |[_,_,_]=>A.wg (λa b c w=>I [a,b,c] w) λk=>J λvs w=>match vs with
  |[a,b,c]=>k a b c w
  |_=>A.no
 |[_,_,_,_]=>A.wh (λa b c d w=>I [a,b,c,d] w) λk=>J λvs w=>match vs with
  |[a,b,c,d]=>k a b c d w
  |_=>A.no
 |[_,_,_,_,_]=>A.wi (λa b c d f w=>I [a,b,c,d,f] w) λk=>J λvs w=>match vs with
  |[a,b,c,d,f]=>k a b c d f w
  |_=>A.no
 |_=>A.no
def C2 (us:List x1) (w:x2) (I:List x1->x2->(List x1->x2->B)->B):B:=
 match us with
 |[]=>A.wj w λw k=>I [] w λ_ w=>k w
 |[a]=>A.wk a w λa w k=>I [a] w λvs w=>match vs with
  |[a]=>k a w
  |_=>A.no
 |[a,b]=>A.wm a b w λa b w k=>I [a,b] w λvs w=>match vs with
  |[a,b]=>k a b w
  |_=>A.no
 |[a,b,c]=>A.wn a b c w λa b c w k=>I [a,b,c] w λvs w=>match vs with
  |[a,b,c]=>k a b c w
  |_=>A.no
 |[a,b,c,d]=>A.wo a b c d w λa b c d w k=>I [a,b,c,d] w λvs w=>match vs with
  |[a,b,c,d]=>k a b c d w
  |_=>A.no
 |[a,b,c,d,f]=>A.wp a b c d f w λa b c d f w k=>I [a,b,c,d,f] w λvs w=>match vs with
  |[a,b,c,d,f]=>k a b c d f w
  |_=>A.no
 |[a,b,c,d,f,g]=>A.wq a b c d f g w λa b c d f g w k=>I [a,b,c,d,f,g] w λvs w=>match vs with
  |[a,b,c,d,f,g]=>k a b c d f g w
  |_=>A.no
 |_=>A.no
def sP (K:Nat->x2->B):List Nat->List (Nat×(x2->B))
 |[]=>[]
 |i::r=>(i,λw=>K i w)::sP K r
def gK (fr:Bool) (n:Nat):Code->Nat->Env->x2->(Exit->Env->x2->B)->B
 | .skip,_,e,w,K=>K .normal e w
 | .label _,_,e,w,K=>K .normal e w
 | .ret,_,e,w,K=>K .ret e w
 | .exit i,_,e,w,K=>K (.exit i) e w
 | .region _ ops X,_,e,w,K=>
  bif X then A.drew w λw'=>lY A fr n ops.toList (sG ops.toList []) (ops.toList.length) 0 false [] e w' (K .normal)
  else sM A fr n ops.toList ops.toList e w (K .normal)
 | .seq x y,rd,e,w,K=>
  bif Nat.ble 2 (kp x) then
   C1 A (lb 1000 0 (Nat.land (ha x) (Nat.lor (fq y) rd))) (λvs w'=>gK fr n y rd (sO (lb 1000 0 (Nat.land (ha x) (Nat.lor (fq y) rd))) vs (qw (ha x) e)) w' K)
    λY=>gK fr n x (Nat.lor (fq y) rd) e w λex I w'=>match ex with
     | .normal=>Y (qv A I (lb 1000 0 (Nat.land (ha x) (Nat.lor (fq y) rd)))) w'
     |ex=>K ex I w'
  else gK fr n x (Nat.lor (fq y) rd) e w λex I w'=>match ex with
   | .normal=>gK fr n y rd I w' K
   |ex=>K ex I w'
 | .cond c x y,rd,e,w,K=>
  match lW A e c with
  | .b true=>gK fr n x rd e w K
  | .b false=>gK fr n y rd e w K
  | .v v=>A.split v (gK fr n x rd e w K) (gK fr n y rd e w K)
  | .u=>A.no
 | .block id c,rd,e,w,K=>gK fr n c rd e w λex I w'=>match ex with
  | .exit i=>bif T3 i id then K .normal I w' else K (.exit i) I w'
  |ex=>K ex I w'
 | .loop c,rd,e,w,K=>
  C2 A (qv A e (oH e (lb 1000 0 (Nat.land (ha c) (Nat.lor (fq c) rd))))) w λus w' k=>
   gK fr n c (Nat.lor (fq c) rd) (sO (oH e (lb 1000 0 (Nat.land (ha c) (Nat.lor (fq c) rd)))) us (qw (ha c) e)) w' λex I J=>match ex with
    | .normal=>k (qv A I (oH e (lb 1000 0 (Nat.land (ha c) (Nat.lor (fq c) rd))))) J
    |ex=>K ex I J
 | .scope c,rd,e,w,K=>gK fr n c rd e w K
 | .rangeFunc f aa W body,_,e,w,K=>
  match aa.toList with
  |[p]=>A.wr (cO A e f) w
    (λa w' k=>gK fr n W (fq body) ((p,.v a)::e) w' λex I J=>match ex with
     | .normal=>A.over J λU=>gK fr n body 0 I U λex _ V=>k ex V
     |_=>A.no)
    (λw'=>K .normal e w') (bif h2 body then λw'=>K .ret e w' else λ_=>A.no) (sP (λi w'=>K (.exit i) e w') (ir body))
  |[p,q]=>A.ws (cO A e f) w
    (λa b w' k=>gK fr n W (fq body) ((q,.v b)::(p,.v a)::e) w' λex I J=>match ex with
     | .normal=>A.over J λU=>gK fr n body 0 I U λex _ V=>k ex V
     |_=>A.no)
    (λw'=>K .normal e w') (bif h2 body then λw'=>K .ret e w' else λ_=>A.no) (sP (λi w'=>K (.exit i) e w') (ir body))
  |_=>A.no
 | .goto _,_,_,_,_=>A.no
 | .refuse _,_,_,_,_=>A.no
def wL:Nat->List x1->Env
 |_,[]=>[]
 |i,v::r=>(i,.v (A.jC (x:=v)))::wL (i+1) r
def qx (e:Env) (w:x2):List ResultVar->(List x1->B)->B
 |[],K=>K []
 | .tmp t::r,K=>qx e w r λvs=>K ((match look e t with|some x=>x.g A|none=>A.jC (x:=undef))::vs)
 | .cell a t::r,K=>A.sI (A.loadVar (t:=t) (match look e a with|some x=>x.g A|none=>A.jC (x:=undef))) w λv=>qx e w r λvs=>K (v::vs)
def qy (vs:List x1) (K:x1->B):B:=
 match vs with
 |[v]=>K v
 |vs=>K (A.v7 vs)
def sQ:List ResultVar->Nat->Nat
 |[],s=>s
 | .tmp t::r,s=>sQ r (iZ s t)
 | .cell a _::r,s=>sQ r (iZ s a)
def C3 (I:List ResultVar) (marks:Bool) (Q:x1->x2->B):Exit->Env->x2->B
 | .normal,e,w=>qx A e w I λvs=>bif marks then A.again w λw'=>qy A vs λv=>Q v w' else qy A vs λv=>Q v w
 | .ret,e,w=>qx A e w I λvs=>bif marks then A.again w λw'=>qy A vs λv=>Q v w' else qy A vs λv=>Q v w
 |_,_,_=>A.no
def sR (fr marks:Bool) (fn:Func) (c:Code) (args:List x1) (w:x2) (Q:x1->x2->B):B:=
 gK A fr n c (sQ fn.results.toList 0) (wL A 0 args) w (C3 A fn.results.toList marks Q)
end
def ng (P:W7):ld Prop (Sem x1) (Sem Unit) where
 jC {x}:=x
 v7 l:=.tuple l.toArray
 no:=False
 jD:=True
 and:=And
 or:=Or
 ext:=Ext
 stays:=bl P
 split:=Split
 sI:=J P
 v8:=aA P
 wa u w K:=aA P u w λ_ w'=>K w'
 runN {fr n}:=p5 P (fr,n)
 wb {f}:=ak P f
 wc {f}:=fZ P f
 we {fr}:=p8 P fr
 drew:=cm
 again:=vJ
 over:=Over
 di:=bB
 aQ:=bB
 h4:=bB
 wg:=bB
 wh:=bB
 wi:=bB
 wj:=CH
 wk:=bP
 wm:=bE
 wn:=k7
 wo:=qg
 wp:=m8
 wq:=CI
 wr:=na P
 ws:=k8 P
 loadVar {t} x:=do loadVar t (<-asAddr x)
 alloc {t}:=S7 t true (.tuple #[])
 box {t} x:=Instr.box t x
 build {t} l:=Instr.build t l.toArray
 buildSlice {t n} l:=Z7 t n l.toArray
 load {t} x:=x6 t x
 nil x:=aY x
 bin {op t} a b x y:=aC op t a b x y
 un {op} x:=Op.unary op x
 conv {s d} x:=convert s d x
 wu {t} x:=Instr.makeInterface t x
 wv {f} a b:=Instr.makeFunc f a.toArray b.toArray
 wx {t} x:=Instr.makeMap t x
 wy {t} l c:=Instr.makeSlice t l c
 slice {t} x l h m:=W6 t x l h m
 wz {t} x {f}:=x7 t x f
 field {t} x {f}:=Instr.field t x f
 wA {t} x i:=n0 t x i
 index {t} x i:=Instr.index t x i
 lookup {t} x i {ok}:=Instr.lookup t x i ok
 wB {t} m k:=Instr.mapEntry t m k
 range {t} x:=Instr.range t x
 entry x:=Instr.entry x
 assert {t a} x {ok}:=Instr.typeAssert x t a ok
 extract x {i}:=Z9 x i
 next x {b}:=Instr.next x b 0
 append {ats t} l:=l9 ats t l.toArray
 cap {ats t} l:=l7.cap_ ats t l.toArray
 clear {ats t} l:=l7.clear_ ats t l.toArray
 copy {ats t} l:=l7.copy_ ats t l.toArray
 delete {ats t} l:=l7.delete_ ats t l.toArray
 len {ats t} l:=Y3 ats t l.toArray
 max {ats t} l:=l7.max_ ats t l.toArray
 min {ats t} l:=l7.min_ ats t l.toArray
 store {t} a x:=o5 t a x
 sJ {t} m k x:=Instr.mapUpdate t m k x
 wC {t} m k x:=Instr.entryStore t m k x
end Go.Vc
namespace Go.Proofs.YtgbkinibgjmodaaGreatDoor
open Go Go.Vc Go.RowKit Go.Proofs Go.Proofs.Tryz
set_option maxRecDepth 100000
theorem mixed:x3.follows .mixedOrders=true:=Ψ
def wM:Nat:=9
def C4:Nat:=11
def C5:Nat:=12
def qz:Nat:=13
def C6:Nat:=14
def C7:Nat:=15
def C8:Nat:=16
def C9:Nat:=18
def Da:Nat:=19
def wN:Nat:=20
def Db:Nat:=21
def qA:Nat:=22
def sS:Nat:=31
def Dc:Nat:=32
def nh:Nat:=33
def Dd:Nat:=41
def wO:Nat:=42
def De:Nat:=43
def wP:Nat:=44
def sT:Nat:=45
def qB:Nat:=47
def sU:Nat:=48
def wQ:Nat:=49
def Df:Nat:=50
def Dg:Nat:=51
def Dh:Nat:=52
def Di:Nat:=53
def sV:Nat:=54
def wR:Nat:=55
def qC:Nat:=56
def oI:Nat:=57
def wS:Nat:=58
def wT:Nat:=59
def Dj:Nat:=60
def Dk:Nat:=61
def Dl:Nat:=62
def Dm:Nat:=63
def Dn:Nat:=64
def Do:Nat:=65
def Dp:Nat:=66
def Dq:Nat:=67
def Dr:Nat:=68
def Ds:Nat:=69
def Dt:Nat:=70
def Du:Nat:=71
def Dv:Nat:=72
def wU:Nat:=73
def wV:Nat:=74
def Dw:Nat:=75
def Dx:Nat:=76
def Dy:Nat:=77
def Dz:Nat:=78
def DA:Nat:=79
def sW:Nat:=80
def DB:Nat:=81
def wW:Nat:=83
def wX:Nat:=84
def wY:Nat:=85
def DC:Nat:=86
def wZ:Nat:=87
def sX:Nat:=88
def sY:Nat:=89
def sZ:Nat:=90
def s3:Nat:=91
def s4:Nat:=92
def w1:Nat:=93
def s5:Nat:=103
def DD:Nat:=113
def DE:Nat:=114
def DF:Nat:=115
def w2:Nat:=116
def DG:Nat:=117
def DH:Nat:=118
def DI:Nat:=119
def DJ:Nat:=120
def DK:Nat:=121
def DL:Nat:=122
def DM:Nat:=123
def DN:Nat:=124
def w3:Nat:=126
def DO:Nat:=127
def DP:Nat:=128
def DQ:Nat:=129
def DR:Nat:=130
def w4:Nat:=131
def w5:Nat:=132
def DS:Nat:=133
def DT:Nat:=134
def DU:Nat:=135
def DV:Nat:=136
def w6:Nat:=137
def DW:Nat:=138
def s6:Nat:=139
def DX:Nat:=140
def w7:Nat:=141
def DY:Nat:=142
def w8:Nat:=143
def DZ:Nat:=144
def D0:Nat:=145
def w9:Nat:=146
def xa:Nat:=147
def oJ:Nat:=148
def lZ:Nat:=149
def jE:Nat:=150
def xb:Nat:=151
def s7:Nat:=152
def l0:Nat:=153
def xc:Nat:=154
def s8:Nat:=155
def D1:Nat:=156
def D2:Nat:=157
def qD:Nat:=158
def kr:Nat:=159
def xd:Nat:=160
def l1:Nat:=161
def D3:Nat:=162
def D4:Nat:=163
def D5:Nat:=164
def D6:Nat:=165
def D7:Nat:=166
def D8:Nat:=167
def D9:Nat:=168
def Ea:Nat:=169
def s9:Nat:=170
def Eb:Nat:=171
def Ec:Nat:=172
def Ed:Nat:=173
def Ee:Nat:=174
def Ef:Nat:=175
def Eg:Nat:=181
def cmp_isNaN_int:Nat:=182
def Eh:Nat:=183
def l2:Nat:=184
def Ei:Nat:=185
def Ej:Nat:=186
def jF:Nat:=187
def Ek:Nat:=188
def El:Nat:=189
def MT:Nat:=190
def xe:Nat:=191
def Em:Nat:=192
def En:Nat:=193
def Eo:Nat:=194
def MU:Nat:=195
def qE:Nat:=196
def Ep:Nat:=197
def Er:Nat:=198
def xf:Nat:=199
def Es:Nat:=200
def Et:Nat:=201
def Eu:Nat:=202
def Ev:Nat:=203
def Ew:Nat:=204
def ni:Nat:=205
def Ex:Nat:=206
def Ey:Nat:=207
def qF:Nat:=208
def Ez:Nat:=209
def EA:Nat:=210
def xg:Nat:=211
def xh:Nat:=212
def EB:Nat:=213
def oK:Nat:=214
def EC:Nat:=215
def ta:Nat:=216
def ED:Nat:=217
def EE:Nat:=218
def xi:Nat:=219
def EF:Nat:=220
def EG:Nat:=221
def EH:Nat:=222
def EI:Nat:=223
def xj:Nat:=224
def EJ:Nat:=225
def EK:Nat:=226
def qG:Nat:=227
def EL:Nat:=228
def EM:Nat:=238
def EN:Nat:=239
def EO:Nat:=240
def nj:Nat:=241
def EP:Nat:=242
def tb:Nat:=243
def qH:Nat:=244
def EQ:Nat:=245
def tc:Nat:=246
def ER:Nat:=247
def ES:Nat:=248
def td:Nat:=249
def ET:Nat:=250
def EU:Nat:=251
def xk:Nat:=252
def xl:Nat:=253
def EV:Nat:=254
def EW:Nat:=255
def EX:Nat:=256
def EY:Nat:=257
def EZ:Nat:=258
def E0:Nat:=259
def E1:Nat:=260
def MV:Nat:=261
def qI:Nat:=263
def xm:Nat:=264
def E2:Nat:=265
def E3:Nat:=266
def E4:Nat:=267
def E5:Nat:=268
def E6:Nat:=269
def MW:Nat:=271
def E7:Nat:=277
def MX:Nat:=278
def E8:Nat:=279
def MY:Nat:=280
def E9:Nat:=281
def Fa:Nat:=282
def nk:Nat:=283
def Fb:Nat:=284
def Fc:Nat:=285
def Fe:Nat:=286
def Ff:Nat:=295
def Fg:Nat:=296
def Fh:Nat:=297
def Fi:Nat:=298
def kt:Nat:=299
def Fj:Nat:=300
def Fk:Nat:=302
def Fl:Nat:=303
def Fm:Nat:=304
def MZ:Nat:=305
def Fo:Nat:=309
def Fp:Nat:=310
def Fq:Nat:=312
def Fr:Nat:=313
def Fs:Nat:=314
def M0:Nat:=315
def Ft:Nat:=316
def M1:Nat:=317
def M2:Nat:=318
def M3:Nat:=319
def M4:Nat:=320
def M5:Nat:=321
def cmp_Less_int:Nat:=322
def M6:Nat:=323
def M7:Nat:=324
def M8:Nat:=334
def M9:Nat:=335
abbrev Fu:Nat:=0
abbrev ao:Nat:=2
abbrev ab:Nat:=3
abbrev eN:Nat:=4
abbrev cv:Nat:=5
abbrev cP:Nat:=9
abbrev cB:Nat:=22
abbrev dQ:Nat:=25
abbrev ai:Nat:=26
abbrev cz:Nat:=27
abbrev fs:Nat:=28
abbrev dJ:Nat:=29
abbrev b3:Nat:=30
abbrev e0:Nat:=31
abbrev aG:Nat:=33
abbrev eF:Nat:=37
abbrev ew:Nat:=39
abbrev b5:Nat:=41
abbrev qJ:Nat:=50
abbrev c0:Nat:=51
abbrev lf:Nat:=52
abbrev aR:Nat:=54
abbrev aw:Nat:=68
abbrev aZ:Nat:=70
abbrev b0:Nat:=72
abbrev lg:Nat:=92
abbrev fe:Nat:=95
abbrev bM:Nat:=98
abbrev te:Nat:=111
abbrev tf:Nat:=114
abbrev cK:Nat:=120
abbrev dj:Nat:=122
abbrev i7:Nat:=125
abbrev dR:Nat:=126
abbrev bt:Nat:=128
abbrev bq:Nat:=136
abbrev cE:Nat:=138
abbrev dD:Nat:=145
abbrev ek:Nat:=147
abbrev ca:Nat:=153
abbrev qK:Nat:=197
abbrev eG:Nat:=200
abbrev gu:Nat:=201
abbrev b6:Nat:=203
abbrev h5:Nat:=208
abbrev hy:Nat:=209
abbrev b1:Nat:=211
abbrev dq:Nat:=217
abbrev cr:Nat:=219
abbrev ey:Nat:=220
abbrev cn:Nat:=222
abbrev eT:Nat:=224
abbrev de:Nat:=228
abbrev br:Nat:=230
abbrev dk:Nat:=232
abbrev cd:Nat:=234
abbrev dK:Nat:=238
abbrev aX:Nat:=240
abbrev jG:Nat:=245
abbrev ff:Nat:=247
abbrev hb:Nat:=250
abbrev fN:Nat:=252
abbrev gv:Nat:=253
abbrev hz:Nat:=254
abbrev cH:Nat:=256
abbrev dr:Nat:=258
abbrev dE:Nat:=260
abbrev fg:Nat:=262
abbrev lh:Nat:=266
abbrev cU:Nat:=271
abbrev nl:Nat:=278
abbrev gL:Nat:=290
abbrev iu:Nat:=296
abbrev dL:Nat:=301
abbrev b4:Nat:=304
abbrev ft:Nat:=306
abbrev cL:Nat:=311
abbrev hA:Nat:=320
abbrev e1:Nat:=322
abbrev nm:Nat:=323
abbrev fu:Nat:=326
abbrev Na:Nat:=332
abbrev nn:Nat:=340
abbrev ga:Nat:=343
abbrev fh:Nat:=345
abbrev cp:Nat:=347
abbrev jH:Nat:=363
abbrev h6:Nat:=365
abbrev qL:Nat:=381
abbrev ku:Nat:=394
abbrev lj:Nat:=409
abbrev qM:Nat:=426
theorem aB {f:FuncId} {fn:Func} {c:Code} {Q:x1->x2->Prop} {Z:{B S aU:Type}->ld B S aU->(x1->x2->B)->B} {J:Prop} (U:x3.funcs[f]? =σ fn) (h:J)
  (V:fn.body=σ c:=by rfl) (_:∀ {B S aU:Type} (A:ld B S aU) (Q:x1->x2->B),sR A false false (n:=w.heap.size) fn c args w Q=Z A Q:=by intros;conv=>lhs;reduce)
  (_:Z (ng x3) Q=J:=by dsimp only[ng]) (e:J=ee x3 fn.ntmps (false,w.heap.size) c (la fn.results.toList) (jB 0 args) w (ko x3 fn.results.toList false Q):=by kernel_rfl)
  (I:(!(fn.name == "runtime.NumGoroutine")&&wf fn.ntmps c&&Nat.ble args.length fn.ntmps&& !iW c)=true:=by kernel_rfl):ak x3 f args w Q:=by
 simp only[U4,Bool.not_eq_true'] at I;exact ak.CX mixed U V I.1.1.1 I.1.1.2 I.1.2 I.2 (e▸h)
theorem lk {f:FuncId} {fn:Func} {c:Code} {Q:x1->x2->Prop} {Z:{B S aU:Type}->ld B S aU->(x1->x2->B)->B} {J:Prop} (U:x3.funcs[f]? =σ fn) (h:J)
  (V:fn.body=σ c:=by rfl) (_:∀ {B S aU:Type} (A:ld B S aU) (Q:x1->x2->B),sR A false true (n:=w.heap.size) fn c args w Q=Z A Q:=by intros;conv=>lhs;reduce)
  (_:Z (ng x3) Q=J:=by dsimp only[ng]) (e:J=ee x3 fn.ntmps (false,w.heap.size) c (la fn.results.toList) (jB 0 args) w (ko x3 fn.results.toList true Q):=by kernel_rfl)
  (I:(!(fn.name == "runtime.NumGoroutine")&&wf fn.ntmps c&&Nat.ble args.length fn.ntmps)=true:=by kernel_rfl):ak x3 f args w Q:=by
 simp only[U4,Bool.not_eq_true'] at I;exact ak.enter mixed U V I.1.1 I.1.2 I.2 (e▸h)
theorem oL {f:FuncId} {fn:Func} {c:Code} {Q:x1->x2->Prop} {Z:{B S aU:Type}->ld B S aU->(x1->x2->B)->B} {J:Prop} (U:x3.funcs[f]? =σ fn) (h:J)
  (V:fn.body=σ c:=by rfl) (_:∀ {B S aU:Type} (A:ld B S aU) (Q:x1->x2->B),sR A true false (n:=0) fn c args w Q=Z A Q:=by intros;conv=>lhs;reduce)
  (_:Z (ng x3) Q=J:=by dsimp only[ng]) (e:J=ee x3 fn.ntmps (true,0) c (la fn.results.toList) (jB 0 args) w (ko x3 fn.results.toList false Q):=by kernel_rfl)
  (I:(!(fn.name == "runtime.NumGoroutine")&&wf fn.ntmps c&&Nat.ble args.length fn.ntmps)=true:=by kernel_rfl):fZ x3 f args w Q:=by
 simp only[U4,Bool.not_eq_true'] at I;exact fZ.enter mixed U V I.1.1 I.1.2 I.2 (e▸h)
theorem l2.enters:Enters x3 l2:=Enters.of x3 (show x3.funcs[l2]? =σ Tryz.f184 from Tryz.func184) rfl Ψ
theorem jF.enters:Enters x3 jF:=Enters.of x3 (show x3.funcs[jF]? =σ Tryz.f187 from Tryz.func187) rfl Ψ
theorem nj.enters:Enters x3 nj:=Enters.of x3 (show x3.funcs[nj]? =σ Tryz.f241 from Tryz.func241) rfl Ψ
theorem nk.enters:Enters x3 nk:=Enters.of x3 (show x3.funcs[nk]? =σ Tryz.f283 from Tryz.func283) rfl Ψ
theorem kt.enters:Enters x3 kt:=Enters.of x3 (show x3.funcs[kt]? =σ Tryz.f299 from Tryz.func299) rfl Ψ
end Go.Proofs.YtgbkinibgjmodaaGreatDoor
namespace Go.Vc
open Go Go.RowKit
theorem tg {b:Nat} (h:w.cell? ⟨b,o,ν⟩=σ v):∃c e f,w.heap[b]? =σ (.cells c e f)/\c[o]? =σ v:=by
 simp only[x2.cell?] at h;split at h
 .rename_i c e f I;exact⟨c,e,f,I,by simpa using h⟩
 .cases h
theorem xn (I:ag S w w') {b:Nat} (J:¬S b) (h:w.cell? ⟨b,o,ν⟩=σ v):w'.cell? ⟨b,o,ν⟩=σ v:=by
 obtain⟨c,e,f,U,V⟩:=tg h;simp[x2.cell?,I.a7 b _ U rfl J,V]
theorem l3 (I:Ext w w') {b:Nat} (h:w.cell? ⟨b,o,ν⟩=σ v):w'.cell? ⟨b,o,ν⟩=σ v:=
 xn (I.aa λ_=>False) (λh=>h) h
theorem np (I:Ext w w') {b:Nat} (h:w.rangeAt b o cs):w'.rangeAt b o cs:=λj v J=>l3 I (h j v J)
theorem nq (I:ag S w w') {b:Nat} (J:¬S b) (h:w.rangeAt b o cs):w'.rangeAt b o cs:=λj v U=>xn I J (h j v U)
def af (w:x2) (g:Nat) (e:r9) (cs:List x1):Prop:=w.heap[g]? =σ (.cells cs.toArray e (0,0))
theorem af.ext {g:Nat} (h:af w g e cs) (I:Ext w w'):af w' g e cs:=I.a7 g _ h rfl
theorem af.aa {g:Nat} (h:af w g e cs) (I:ag S w w') (J:¬S g):af w' g e cs:=I.a7 g _ h rfl J
theorem af.lt {g:Nat} (h:af w g e cs):g<w.heap.size:=(j6.1 h).1
theorem af.cell {g:Nat} (h:af w g e cs) (I:cs[o]? =σ v):w.cell? ⟨g,o,ν⟩=σ v:=by
 unfold af at h;simp[x2.cell?,h,I]
theorem af.Qz{w:World}{g:Nat}{e:TypeId}{cs:List Value}{v:Value}(h:af w g e cs)(I:cs[0]? =σ v):w.cell? ⟨g,0,ν⟩=σ v:=h.cell I
theorem af.Q0{w:World}{g:Nat}{e:TypeId}{cs:List Value}{v:Value}(h:af w g e cs)(I:cs[0+0]? =σ v):w.cell? ⟨g,0+0,ν⟩=σ v:=h.cell I
theorem af.Q1{w:World}{g:Nat}{e:TypeId}{cs:List Value}{v:Value}(h:af w g e cs)(I:cs[0+1]? =σ v):w.cell? ⟨g,0+1,ν⟩=σ v:=h.cell I
theorem af.Q2{w:World}{g:Nat}{e:TypeId}{cs:List Value}{v:Value}(h:af w g e cs)(I:cs[0+2]? =σ v):w.cell? ⟨g,0+2,ν⟩=σ v:=h.cell I
theorem af.Q3{w:World}{g:Nat}{e:TypeId}{cs:List Value}{v:Value}(h:af w g e cs)(I:cs[0+3]? =σ v):w.cell? ⟨g,0+3,ν⟩=σ v:=h.cell I
theorem af.Q4{w:World}{g:Nat}{e:TypeId}{cs:List Value}{v:Value}(h:af w g e cs)(I:cs[0+4]? =σ v):w.cell? ⟨g,0+4,ν⟩=σ v:=h.cell I
theorem af.Q5{w:World}{g:Nat}{e:TypeId}{cs:List Value}{v:Value}(h:af w g e cs)(I:cs[0+5]? =σ v):w.cell? ⟨g,0+5,ν⟩=σ v:=h.cell I
theorem af.Q6{w:World}{g:Nat}{e:TypeId}{cs:List Value}{v:Value}(h:af w g e cs)(I:cs[0+6]? =σ v):w.cell? ⟨g,0+6,ν⟩=σ v:=h.cell I
theorem af.range {g:Nat} (h:af w g e cs):w.rangeAt g 0 cs:=λj v I=>by rw[V3];exact h.cell I
theorem af.frozen {g:Nat} (h:af w g e cs) (o:Nat) (I:Option Nat):w.frozen? ⟨g,o,I⟩=false:=by
 unfold af at h;simp[x2.frozen?,h]
def bW (w:x2) (k:Nat) (v:x1) (n:Nat) (cs:List x1):Prop:=
 cs.length=n*k/\ ∃b o base cap,v= .slice base n cap/\n<=cap/\cap<=maxLen/\(0<n->base=σ ⟨b,o,ν⟩)/\w.rangeAt b o cs
theorem bW.ext {k:Nat} (h:bW w k v n cs) (I:Ext w w'):bW w' k v n cs:=by
 obtain⟨h1,b,o,base,cap,J,U,V,W,X⟩:=h;exact⟨h1,b,o,base,cap,J,U,V,W,np I X⟩
theorem bW.le {k:Nat} (h:bW w k v n cs):n<=maxLen:=by
 obtain⟨_,_,_,_,_,_,I,J,_⟩:=h;exact Y9 I J
theorem bW.nil (w:x2) (k:Nat):bW w k (.slice ν 0 0) 0 []:=⟨Ξ,0,0,ν,0,rfl,o8 _,X3 _,λh=>absurd h (Nat.lt_irrefl _),λj v h=>by simp at h⟩
def aO (P:W7) (t:r9) (k b:Nat) (z:x1):Prop:=∃i,P.info? t=σ i/\i.size=k/\i.bytes=b/\i.zero=σ z
theorem aO.of {P:W7} {k b:Nat} (h:(P.info? t).map (λi=>(i.size,i.bytes,i.zero))=σ (k,b,σ z)):aO P t k b z:=by
 cases hi:P.info? t with
 |none=>simp[hi] at h
 |some i=>simp[hi] at h;exact⟨i,hi,h⟩
theorem aO.size {P:W7} {k b:Nat} (h:aO P t k b z):(P.info? t).map (·.size)=σ k:=by
 obtain⟨i,hi,I,_⟩:=h;simp[hi,I]
def bx (P:W7) (t:r9) (pl:List (Nat×Nat)):Prop:=∃I,P.underlying t=σ (.struct I)/\I.toList.map (λf=>(f.offset,((P.info? f.type).map (·.size)).getD 0))=pl
def xo (P:W7) (t:r9):Option (List (Nat×Nat)):=match P.underlying t with
 |some (.struct I)=>σ (I.toList.map λf=>(f.offset,((P.info? f.type).map (·.size)).getD 0))
 |_=>ν
theorem bx.of {P:W7} {pl:List (Nat×Nat)} (h:xo P t=σ pl):bx P t pl:=by
 unfold xo at h;split at h
 .rename_i I hu;exact⟨I,hu,by simpa using h⟩
 .cases h
section
variable {P:W7} {w:x2}
theorem J.of {s:Sem x1} (h:∀w',Ext w w'->s.run P w'= .ok v w'):J P s w K=K v:=by
 refine propext ⟨λ⟨I,h',k⟩=>?_,λk=>⟨v,h,k⟩⟩;have:=h' w (Ext.refl w);rw[h w (Ext.refl w)] at this;cases this;exact k
theorem aA.of {α:Type} {s:Sem α} {v:α} {K:α->x2->Prop} (h:s.run P w= .ok v w') (I:cN w w') (k:K v w'):aA P s w K:=⟨v,w',h,I,k⟩
theorem bD {c:Bool} {A B:Prop}:Split (.bool c) A B=((c=true->A)/\(c=false->B)):=by
 refine propext ⟨λ⟨J,h,h1,I⟩=>?_,λ⟨h1,I⟩=>⟨c,rfl,h1,I⟩⟩;cases h;exact⟨h1,I⟩
theorem ae {p:Prop} [Decidable p] {A B:Prop}:Split (.bool (decide p)) A B=((p->A)/\(¬p->B)):=by rw[bD];simp
theorem bQ {A B:Prop}:Split (.bool true) A B=A:=by rw[bD];simp
theorem aS {A B:Prop}:Split (.bool false) A B=B:=by rw[bD];simp
theorem aN {b:Int}:J P (aC .add t cx cy (.int k a) (.int k b)) w K=K (.int k (k.wrap (a+b))):=
 J.of λw' _=>by simp[aC,eqGuard,binOp,Op.intArith]
theorem c3 {b:Int}:J P (aC .sub t cx cy (.int k a) (.int k b)) w K=K (.int k (k.wrap (a-b))):=
 J.of λw' _=>by simp[aC,eqGuard,binOp,Op.intArith]
theorem fv {b:Int}:J P (aC .mul t cx cy (.int k a) (.int k b)) w K=K (.int k (k.wrap (a*b))):=
 J.of λw' _=>by simp[aC,eqGuard,binOp,Op.intArith]
theorem oM {b:Int} (I:b≠0):J P (aC .quo t cx cy (.int k a) (.int k b)) w K=K (.int k (k.wrap (a.tdiv b))):=
 J.of λw' _=>by simp[aC,eqGuard,binOp,Op.intDiv,I]
theorem kv {b:Int} (I:b≠0):J P (aC .rem t cx cy (.int k a) (.int k b)) w K=K (.int k (a.tmod b)):=
 J.of λw' _=>by simp[aC,eqGuard,binOp,Op.intDiv,I]
theorem aq {b:Int}:J P (aC .lss t cx cy (.int k a) (.int k b)) w K=K (.bool (decide (a<b))):=
 J.of λw' _=>by simp[aC,eqGuard,binOp,Op.intCmp]
theorem Υ{k:IntKind}{P:Program}{t:TypeId}{cx cy:Bool}{a b:Int}{w:World}{A B:Prop}(hA:a<b->A)(h:a<b:=by omega):J P (aC .lss t cx cy (.int k a) (.int k b)) w λv=>Split v A B:=by
 rw[aq,ae];exact ⟨hA,λe=>absurd h e⟩
theorem l4 {b:Int}:J P (aC .leq t cx cy (.int k a) (.int k b)) w K=K (.bool (decide (a<=b))):=
 J.of λw' _=>by simp[aC,eqGuard,binOp,Op.intCmp]
theorem bR {b:Int}:J P (aC .gtr t cx cy (.int k a) (.int k b)) w K=K (.bool (decide (b<a))):=
 J.of λw' _=>by simp[aC,eqGuard,binOp,Op.intCmp]
theorem ce {b:Int}:J P (aC .geq t cx cy (.int k a) (.int k b)) w K=K (.bool (decide (b<=a))):=
 J.of λw' _=>by simp[aC,eqGuard,binOp,Op.intCmp]
theorem bk {b:Int}:J P (aC .eql t cx cy (.int k a) (.int k b)) w K=K (.bool (decide (a=b))):=
 J.of λw' _=>by
  have:(a == b)=decide (a=b):=by by_cases h:a=b<;>simp[h]
  simp[aC,eqGuard,binOp,Op.intCmp,this]
theorem bG {b:Int}:J P (aC .neq t cx cy (.int k a) (.int k b)) w K=K (.bool (decide (a≠b))):=
 J.of λw' _=>by
  have:(a != b)=decide (a≠b):=by by_cases h:a=b<;>simp[h,bne]
  simp[aC,eqGuard,binOp,Op.intCmp,this]
theorem xp {I:o6} {b:Int} (U:0<=b):J P (aC .shl t cx cy (.int k a) (.int I b)) w K=K (.int k (k.wrap (a*2 ^ min b.toNat k.bits))):=
 J.of λw' _=>by simp[aC,eqGuard,binOp,Op.shift,show ¬b<0 by omega]
theorem bf {c:Bool}:J P (Op.unary .not (.bool c)) w K=K (.bool !c):=J.of λw' _=>by simp[Op.unary]
theorem kw:J P (Op.unary .neg (.int k a)) w K=K (.int k (k.wrap (0-a))):=J.of λw' _=>by simp[Op.unary,Op.intArith]
theorem e2 {s d:r9} {U:o6} (I:P.underlying s=σ (.int U)) (V:P.underlying d=σ (.int k)):
  J P (convert s d (.int U a)) w K=K (.int k (k.wrap a)):=J.of λw' _=>by simp[convert,run_underlying I,run_underlying V,Conv.intToInt]
theorem xq {x y:x1} {r:Bool} (I:∀w',(eqGuard .eql t (aL cx) (aL cy) x y).run P w'= .ok () w')
  (U:binOp .eql t x y=(do pure (.bool (<-Op.equal t x y)))) (h:∀w',Ext w w'->(Op.equal t x y).run P w'= .ok r w'):J P (aC .eql t cx cy x y) w K=K (.bool r):=J.of λw' V=>by
 unfold aC;rw[U,W0,I w',Result.andThen_ok,W0,h w' V];rfl
theorem xr {x y:x1} {r:Bool} (I:∀w',(eqGuard .neq t (aL cx) (aL cy) x y).run P w'= .ok () w')
  (U:binOp .neq t x y=(do pure (.bool (!(<-Op.equal t x y))))) (h:∀w',Ext w w'->(Op.equal t x y).run P w'= .ok r w'):J P (aC .neq t cx cy x y) w K=K (.bool !r):=J.of λw' V=>by
 unfold aC;rw[U,W0,I w',Result.andThen_ok,W0,h w' V];rfl
theorem xt (w:x2) (d:Nat) {p:Option Addr} (h:P.underlying t=σ (.pointer e)):(Op.equalIn (d+1) t (.pointer p) (.pointer ν)).run P w= .ok p.isNone w:=by
 cases p<;>simp[Op.equalIn,run_underlying h]
theorem qN {base:Option Addr} {c:Nat} (I:P.underlying t=σ (.slice e)):
  J P (aC .eql t cx cy (.slice base n c) (.slice ν 0 0)) w K=K (.bool base.isNone):=xq (λ_=>rfl) rfl λw' _=>run_equal_slice_nil w' t e base n c I
theorem cC {p:Option Addr} (I:P.underlying t=σ (.pointer e)):
  J P (aC .eql t cx cy (.pointer p) (.pointer ν)) w K=K (.bool p.isNone):=xq (λ_=>rfl) rfl λw' _=>xt w' 9999 I
theorem xu {p:Option Addr} (I:P.underlying t=σ (.pointer e)):
  J P (aC .neq t cx cy (.pointer p) (.pointer ν)) w K=K (.bool !p.isNone):=xr (λ_=>rfl) rfl λw' _=>xt w' 9999 I
theorem gw {I:r9} {base:Option Addr} {c:Nat} (U:P.underlying t=σ (.slice e)):
  J P (Y3 #[t] I #[.slice base n c]) w K=K (Δ n):=J.of λw' _=>by simp[Y3,run_underlying U,goInt]
theorem iv {I:Array r9} {U:r9} {b:Int}:
  J P (l7.min_ I U #[.int k a,.int k b]) w K=K (.int k (min a b)):=J.of λw' _=>by
 simp only[l7.min_,List.foldlM,l7.min2];simp only[W0,V1,Result.andThen_ok,Int.min_def];congr 2;split<;>split<;>omega
theorem qO {I:Array r9} {U:r9} {b:Int}:
  J P (l7.max_ I U #[.int k a,.int k b]) w K=K (.int k (max a b)):=J.of λw' _=>by
 simp only[l7.max_,List.foldlM,l7.max2];simp only[W0,V1,Result.andThen_ok,Int.max_def];congr 2;split<;>split<;>omega
theorem aK {vs:Array x1} {i:Nat} (h:vs[i]? =σ v):J P (Z9 (.tuple vs) i) w K=K v:=J.of λw' _=>by simp[Z9,h]
theorem kx {f:Fn} {a b:Array x1}:J P (Instr.makeFunc f a b) w K=K (.func f a b):=J.of λ_ _=>rfl
def jI (P:W7) (t:r9):Bool:=match P.underlying t with
 |some (.struct _)|some (.array _ _)|none=>false
 |_=>true
theorem ad {b:Nat} (I:jI P t=true) (h:w.cell? ⟨b,o,ν⟩=σ v):
  J P (x6 t (.pointer (σ ⟨b,o,ν⟩))) w K=K v:=J.of λw' U=>by
 have h':=l3 U h;unfold jI at I;cases hu:P.underlying t with
 |none=>rw[hu] at I;cases I
 |some d=>
  rw[hu] at I;cases d<;>first|(cases I;done)|simp[x6,Instr.sureAddr,loadVar,isAgg,run_underlying hu,h']
theorem xv {d:TypeDesc} {b k:Nat} (hu:P.underlying t=σ d) (U:d.isRow=true) (hi:aO P t k I z) (V:cs.length=k)
  (h:w.rangeAt b o cs):J P (x6 t (.pointer (σ ⟨b,o,ν⟩))) w K=K (.agg cs.toArray):=J.of λw' W=>
 run_loadAt_mid (P:=P) w' b o t cs d (np W h) hu U (by rw[hi.size,V])
theorem bn {pl:List (Nat×Nat)} {b k:Nat} (hu:bx P t pl) (hi:aO P t k I z) (U:cs.length=k)
  (h:w.rangeAt b o cs):J P (x6 t (.pointer (σ ⟨b,o,ν⟩))) w K=K (.agg cs.toArray):=by
 obtain⟨V,hu,_⟩:=hu;exact xv hu rfl hi U h
theorem ac {pl:List (Nat×Nat)} {i b off z:Nat} (Y:bx P t pl) (U:pl[i]? =σ (off,z+1)):
  J P (x7 t (.pointer (σ ⟨b,o,ν⟩)) i) w K=K (.pointer (σ ⟨b,o+off,ν⟩)):=J.of λw' _=>by
 obtain⟨aa,hu,rfl⟩:=Y;rw[x8] at U;cases V:aa[i]? with
 |none=>rw[S4,V] at U;cases U
 |some f=>
  rw[S4,V] at U;simp only[Y0,Y8,T8] at U;obtain⟨rfl,X⟩:=U;cases W:P.info? f.type with
  |none=>simp[W] at X
  |some j=>
   have I:j.size=z+1:=by simpa[W] using X
   simp[x7,run_underlying hu,V,Instr.sureAddr,fieldPlace,sizeOf,typeInfo,W,I,U7]
theorem xw {i:Int} {b c z V:Nat} {W:x1} {base:Option Addr} (hu:P.underlying t=σ (.slice e)) (X:aO P e z V W)
  (Y:0<=i) (hi:i<n) (U:0<n->base=σ ⟨b,o,ν⟩):
  J P (n0 t (.slice base n c) (.int k i)) w K=K (.pointer (σ ⟨b,o+i.toNat*z,ν⟩)):=J.of λw' _=>by
 have U:=U Ω;subst U;obtain⟨j,aa,I,_⟩:=X;simp[n0,asIntOf,run_underlying hu,Y,hi,sizeOf,typeInfo,aa,I,U7]
theorem fi {i:Nat} {b c z:Nat} {U:x1} {base:Option Addr} (hu:P.underlying t=σ (.slice e)) (V:aO P e z I U)
  (hi:i<n) (W:0<n->base=σ ⟨b,o,ν⟩):
  J P (n0 t (.slice base n c) (.int k (i:Int))) w K=K (.pointer (σ ⟨b,o+i*z,ν⟩)):=by
 rw[xw (i:=(i:Int)) hu V Ω Ω W];rfl
theorem Fv {i:Int} {b z:Nat} {V:x1} (hu:P.underlying t=σ (.array n e)) (W:aO P e z U V)
  (X:0<=i) (hi:i<n):
  J P (n0 t (.pointer (σ ⟨b,o,ν⟩)) (.int k i)) w K=K (.pointer (σ ⟨b,o+i.toNat*z,ν⟩)):=J.of λw' _=>by
 obtain⟨j,Y,I,_⟩:=W;simp[n0,asIntOf,run_underlying hu,Instr.sureAddr,X,hi,sizeOf,typeInfo,Y,I,U7]
theorem th {i:Nat} {b z:Nat} {U:x1} (hu:P.underlying t=σ (.array n e)) (V:aO P e z I U) (hi:i<n):
  J P (n0 t (.pointer (σ ⟨b,o,ν⟩)) (.int k (i:Int))) w K=K (.pointer (σ ⟨b,o+i*z,ν⟩)):=by
 rw[Fv (i:=(i:Int)) hu V Ω Ω];rfl
def ky:Option x1->Nat->Prop
 |none,l=>l=0
 |some v,l=>∃k,v= .int k l
def kz:Option x1->Nat->Nat->Prop
 |none,n,h=>h=n
 |some v,_,h=>∃k,v= .int k h
def maxOf:Option x1->Option x1->Nat->Nat->Prop
 |none,_,c,m=>m=c
 |some v,σ _,_,m=>∃k,v= .int k m
 |some _,ν,_,_=>False
theorem l6 {l:Nat}:ky (σ (.int k (l:Int))) l:=⟨_,rfl⟩
theorem l8 (l:Nat) (x:Int) (h:x=(l:Int)):ky (σ (.int k x)) l:=⟨k,by rw[h]⟩
theorem ma (l:Nat) (x:Int) (h:x=(l:Int)):kz (σ (.int k x)) n l:=⟨k,by rw[h]⟩
theorem hB:ky ν 0:=rfl
theorem mb:kz (σ (.int k (h:Int))) n h:=⟨_,rfl⟩
theorem hC:kz ν n n:=rfl
theorem ez {h:Option x1} {c:Nat}:maxOf ν h c c:=by cases h<;>rfl
theorem qP (w:x2) {sl:Bool} {c l:Nat} {low high mx:Option x1} (h1:ky low l) (J:kz high n h) (I:maxOf mx high c m) (U:l<=h) (aI:h<=m) (hm:m<=c):
  (Instr.sliceBounds sl n c low high mx).run P w= .ok (l,h,m) w:=by
 cases low<;>cases high<;>cases mx<;>simp only[ky,kz,maxOf] at h1 J I<;>(try exact I.elim)<;>(try obtain⟨V,rfl⟩:=h1)<;>(try obtain⟨W,rfl⟩:=J)<;>(try obtain⟨X,rfl⟩:=I)<;>(try subst h1)<;>(try subst J)<;>(try subst I) <;>
  simp[Instr.sliceBounds,Instr.sliceBound,asIntOf,U,aI,hm]
theorem fw {c z l:Nat} {V:x1} {base:Option Addr} {low high mx:Option x1} (hu:P.underlying t=σ (.slice e)) (W:aO P e z U V)
  (h1:ky low l) (X:kz high n h) (Y:maxOf mx high c m) (aa:l<=h) (aI:h<=m) (hm:m<=c):
  J P (W6 t (.slice base n c) low high mx) w K=K (.slice (if m=l then base else base.map (·.add (l*z))) (h-l) (m-l)):=J.of λw' _=>by
 obtain⟨j,ab,I,_⟩:=W;simp[W6,Instr.slice,run_underlying hu,qP w' h1 X Y aa aI hm,sizeOf,typeInfo,ab,I]
theorem qQ {z l b:Nat} {V:x1} {low high mx:Option x1} (hu:P.underlying t=σ (.array n e)) (W:aO P e z U V)
  (h1:ky low l) (X:kz high n h) (Y:maxOf mx high n m) (aa:l<=h) (aI:h<=m) (hm:m<=n):
  J P (W6 t (.pointer (σ ⟨b,o,ν⟩)) low high mx) w K=K (.slice (σ (if m=l then⟨b,o,ν⟩ else⟨b,o+l*z,ν⟩)) (h-l) (m-l)):=J.of λw' _=>by
 obtain⟨j,ab,I,_⟩:=W;simp[W6,Instr.sureAddr,run_underlying hu,qP w' h1 X Y aa aI hm,sizeOf,typeInfo,ab,I,U7]
theorem cW {parts:Array (Nat×x1)} {cs:Array x1} (h:P.built t parts.toList=σ cs):J P (Instr.build t parts) w K=K (.agg cs):=J.of λw' _=>
 run_build (P:=P) w' t parts cs h
end
theorem bW.part {k c l:Nat} {base:Option Addr} (I:bW w k (.slice base n c) n cs) (X:l<=h) (aI:h<=n) (hm:h<=m) (Y:m<=c):
  bW w k (.slice (if m=l then base else base.map (·.add (l*k))) (h-l) (m-l)) (h-l) ((cs.drop (l*k)).take ((h-l)*k)):=by
 obtain⟨h1,b,o,aa,cap,he,ab,ac,U,V⟩:=I;cases he;have ad:h*k<=n*k:=Y5 _ aI;have ae:l*k+(h-l)*k=h*k:=by rw[<-U5];congr 1;omega
 refine⟨by simp[h1];omega,b,o+l*k,_,m-l,rfl,Ω,Ω,λaf=>?_,λj v J=>?_⟩
 .rw[U Ω,if_neg Ω];simp[U7]
 .have W:=(x4.1 J).1;simp at W;rw[Y2 Ω,List.getElem?_drop] at J;rw[S8];exact V _ _ J
section
variable {P:W7} {w:x2}
structure h7 (g:Nat) (w w':x2):Prop where
 os:w'.os=w.os
 tape:iU w w'
 output:w'.output=w.output
 size:w'.heap.size=w.heap.size
 a7:∀r,r≠g->w'.heap[r]? =w.heap[r]?
theorem h7.refl (g:Nat) (w:x2):h7 g w w:=⟨rfl,.jx,rfl,rfl,λ_ _=>rfl⟩
theorem h7.trans {g:Nat} {a b:x2} (h:h7 g a b) (k:h7 g b c):h7 g a c:=
 ⟨k.os.trans h.os,k.tape.trans h.tape,k.output.trans h.output,k.size.trans h.size,λr I=>(k.a7 r I).trans (h.a7 r I)⟩
theorem h7.aa {g:Nat} (h:h7 g w w'):ag (λr=>r=g) w w':=⟨Nat.le_of_eq h.size.symm,λr o I _ J=>by rw[h.a7 r J];exact I⟩
theorem h7.dv {g:Nat} (h:h7 g w w') (U:af w g e cs):cN w w':=
 ⟨h.os,h.tape,h.output,Nat.le_of_eq h.size.symm,λr o J I=>by
  by_cases V:r=g
  .subst V;unfold af at U;rw[U] at J;cases J;simp[fK] at I
  .rw[h.a7 r V];exact J⟩
theorem xx {g:Nat} (h:af w g e cs) (o:Nat) (v:x1):af (w.setCell ⟨g,o,ν⟩ v) g e (cs.set o v)/\h7 g w (w.setCell ⟨g,o,ν⟩ v):=by
 unfold af at h;refine⟨?_,rfl,.jx,rfl,by simp[x2.setCell],λr I=>?_⟩
 .simp[af,x2.setCell,Array.getElem?_modify,h]
 .simp[x2.setCell,Array.getElem?_modify,T9 I]
def over (cs:List x1):Nat->List x1->List x1
 |_,[]=>cs
 |o,v::r=>over (cs.set o v) (o+1) r
theorem kA:∀ (vs cs:List x1) (o:Nat),(over cs o vs).length=cs.length
 |[],_,_=>rfl
 |v::r,cs,o=>by simp[over,kA r]
theorem mc:∀ (vs cs:List x1) (o:Nat),o+vs.length<=cs.length-> ∀j,(over cs o vs)[j]? =if o<=j/\j<o+vs.length then vs[j-o]? else cs[j]?
 |[],cs,o,_,j=>by simp[over];intro h1 I;omega
 |v::r,cs,o,h,j=>by
  simp only[j5] at h;rw[over,mc r (cs.set o v) (o+1) Θ j];simp only[j5];by_cases h1:o+1<=j/\j<o+1+r.length
  .rw[if_pos h1,if_pos Ω];rw[show j-o=(j-(o+1))+1 by omega,List.getElem?_cons_succ]
  .rw[if_neg h1];by_cases I:j=o
   .subst I;rw[if_pos Ω,V9 Ω];simp
   .rw[if_neg Ω,W8 (T9 I)]
theorem ll (h:o+vs.length<=cs.length):over cs o vs=cs.take o++vs++cs.drop (o+vs.length):=by
 apply X8;intro j;rw[mc vs cs o h];by_cases h1:j<o
 .rw[if_neg Ω,j9 Θ,j9 Θ,Y2 h1]
 .by_cases I:j<o+vs.length
  .rw[if_pos Ω,j9 Θ,Z2 Θ];congr 1;simp;omega
  .rw[if_neg Ω,Z2 Θ,List.getElem?_drop];congr 1;simp;omega
theorem md {g:Nat} {e:r9}:∀ (vs:List x1) (cs:List x1) (o:Nat) (w:x2),af w g e cs->af (w.setCells g o vs) g e (over cs o vs)/\h7 g w (w.setCells g o vs)
 |[],cs,o,w,h=>⟨h,h7.refl _ _⟩
 |v::r,cs,o,w,h=>by
  obtain⟨h1,I⟩:=xx h o v;obtain⟨J,U⟩:=md r (cs.set o v) (o+1) _ h1;exact⟨J,I.trans U⟩
theorem qR (w:x2) (c:List x1) (e:r9):af (w.alloc (.cells c.toArray e)) w.heap.size e c/\Ext w (w.alloc (.cells c.toArray e))/\cN w (w.alloc (.cells c.toArray e)):=
 ⟨heap_alloc_new w _,ow w _,ox w _⟩
theorem bp {k:Nat} {K:x1->x2->Prop} (hi:aO P t k I z)
  (h:∀g w',g=w.heap.size->Ext w w'->af w' g t z.cells.toList->K (Γ g) w'):aA P (S7 t true (.tuple #[])) w K:=by
 obtain⟨i,hi,_,_,J⟩:=hi;obtain⟨h1,U,V⟩:=qR w z.cells.toList t;refine .of ?_ V (h _ _ rfl U h1);simp[S7,zeroValue,typeInfo,hi,J,newVar,newRow]
theorem bN {K:x1->x2->Prop}
  (h:∀g w',g=w.heap.size->Ext w w'->af w' g t v.cells.toList->K (Γ g) w'):aA P (Instr.box t v) w K:=by
 obtain⟨h1,I,J⟩:=qR w v.cells.toList t;refine .of ?_ J (h _ _ rfl I h1);simp[Instr.box,newVar,newRow]
def dw (z:Array x1) (n:Nat):List x1:=((Array.range n).map (z[·% z.size]!)).toList
theorem nr (z:Array x1) (n:Nat):(dw z n).length=n:=by simp[dw]
theorem iw {k V:Nat} {parts:Array (Nat×x1)} {cs:Array x1} {K:x1->x2->Prop} (U:P.underlying t=σ (.slice e)) (hi:aO P e k V z)
  (ab:n*k<=2 ^ 24) (I:Instr.fill (λj=>σ (j*k,k)) ((Array.range (n*k)).map ((if n*k=0 then #[] else z.cells)[·% (if n*k=0 then #[] else z.cells).size]!)) parts.toList=σ cs)
  (h:∀g w',g=w.heap.size->Ext w w'->af w' g e cs.toList->K (.slice (σ ⟨g,0,ν⟩) n n) w'):aA P (Z7 t n parts) w K:=by
 obtain⟨i,hi,rfl,_,W⟩:=hi;obtain⟨h1,X,Y⟩:=qR w cs.toList e;refine .of ?_ Y (h _ _ rfl X h1);have aa:¬(16777216<n*i.size):=Ω
 by_cases J:n*i.size=0
 .simp only[J,if_true] at I;simp[Z7,run_underlying U,sizeOf,typeInfo,hi,J,newRow];simp at I;simp[I]
 .simp only[J,if_false] at I;simp[Z7,run_underlying U,sizeOf,typeInfo,hi,aa,J,newRow,zeroValue,W,I]
theorem bh {V g:Nat} {K:Unit->x2->Prop} (hi:aO P t 1 V z) (h1:v.cells= #[v]) (W:v.oneCell'=true) (J:af w g e cs) (X:o<cs.length)
  (h:∀w',ag (λr=>r=g) w w'->w'.heap.size=w.heap.size->af w' g e (cs.set o v)->K () w'):aA P (o5 t (.pointer (σ ⟨g,o,ν⟩)) v) w K:=by
 obtain⟨i,hi,I,_⟩:=hi;obtain⟨Y,U⟩:=xx J o v;refine .of (w':=w.setCell ⟨g,o,ν⟩ v) ?_ (U.dv J) (h _ U.aa U.size Y);have ab:=J.cell (y0 X);have ac:(⟨g,o,ν⟩:Addr).add 0=⟨g,o,ν⟩:=rfl;simp[o5,Instr.sureAddr,storeVar,sizeOf,typeInfo,hi,I,h1,storeCells,ac,run_store P w _ v _ W,ab,J.frozen]
theorem xy {k g:Nat} {K:Unit->x2->Prop} (hi:aO P t k U z) (V:vs.length=k) (W:∀v∈vs,v.oneCell'=true) (I:af w g e cs) (ab:o+vs.length<=cs.length)
  (h:∀w',ag (λr=>r=g) w w'->w'.heap.size=w.heap.size->af w' g e (over cs o vs)->K () w'):aA P (o5 t (.pointer (σ ⟨g,o,ν⟩)) (.agg vs.toArray)) w K:=by
 obtain⟨X,J⟩:=md vs cs o w I;refine .of (w':=w.setCells g o vs) ?_ (J.dv I) (h _ J.aa J.size X);exact run_storeAt_mid (P:=P) w g o t vs.toArray (λj Y=>⟨by rw[I.cell (y0 (show o+j<cs.length by simp at Y;omega))];rfl,I.frozen _ _⟩) (by rw[hi.size];simp[V]) (by simpa using W)
def bU (w:x2) (g:Nat) (e:r9) (k:Nat) (v:x1) (n:Nat) (xs:List x1):Prop:=
 xs.length=n*k/\((v= .slice ν 0 0/\n=0)\/ ∃cap cs,v= .slice (σ ⟨g,0,ν⟩) n cap/\af w g e cs/\n<=cap/\cap<=maxLen/\cs.length=cap*k/\cs.take (n*k)=xs)
theorem bU.nil (w:x2) (g:Nat) (e:r9) (k:Nat):bU w g e k (.slice ν 0 0) 0 []:=⟨Ξ,.inl ⟨rfl,rfl⟩⟩
theorem bU.full {g:Nat} {k:Nat} (h:af w g e cs) (I:cs.length=n*k) (J:n<=maxLen):bU w g e k (.slice (σ ⟨g,0,ν⟩) n n) n cs:=
 ⟨I,.inr ⟨n,cs,rfl,h,o8 _,J,I,by rw[<-I,o9]⟩⟩
theorem bU.aa {g:Nat} {k:Nat} (h:bU w g e k v n xs) (J:ag S w w') (U:g<w.heap.size->¬S g):bU w' g e k v n xs:=
 ⟨h.1,h.2.imp id λ⟨cap,cs,h1,I,V⟩=>⟨cap,cs,h1,I.aa J (U I.lt),V⟩⟩
theorem bU.ext {g:Nat} {k:Nat} (h:bU w g e k v n xs) (I:Ext w w'):bU w' g e k v n xs:=h.aa (I.aa λ_=>False) (λ_ h=>h)
theorem bU.sl {g:Nat} {k:Nat} (h:bU w g e k v n xs):bW w k v n xs:=by
 obtain⟨h1,⟨rfl,rfl⟩|⟨cap,cs,rfl,J,U,V,X,W⟩⟩:=h
 .have:xs=[]:=Z5 (by simpa using h1);subst this;exact bW.nil w k
 .refine⟨h1,g,0,_,cap,rfl,U,V,λ_=>rfl,λj v I=>?_⟩;rw[V3];have Y:=(x4.1 I).1;rw[<-W,Y2 Ω] at I;exact J.cell I
theorem bW.src {k:Nat} {x:x1} {J:List x1} {W:r9} (I:bW w k x m J) (X:P.underlying V=σ (.slice W)) (h1:∀u∈J,u.oneCell'=true) (Y:0<m):Src P k V x m J w:=by
 obtain⟨aa,b,o,base,cap,rfl,_,_,U,ab⟩:=I;have U:=U Y;subst U;exact Src.ofSlice w X ⟨b,o,ν⟩ m cap J aa (λj u hu=>by rw[U7];exact ab j u hu) h1
theorem bW.Fw {k:Nat} {x:x1} {V:List x1} {J W:r9} (I:bW w k x 0 V) (U:P.underlying J=σ (.slice W)):Src P k J x 0 [] w:=by
 obtain⟨X,b,o,base,cap,rfl,_,_,Y,aa⟩:=I;cases base with
 |none=>exact Src.ofNil w U cap
 |some a=>exact Src.ofSlice w U a 0 cap [] Ξ Ξ Ξ
theorem xz {X al ax:r9} {k am g:Nat} {x:x1} {J:List x1} {K:x1->x2->Prop}
  (ac:P.underlying t=σ (.slice e)) (ad:P.underlying V=σ (.slice ax)) (hi:aO P e k am z) (ay:z.cells.size=k)
  (an:bU w g al k v n xs) (I:bW w k x m J) (h1:∀u∈J,u.oneCell'=true) (az:(n+m)*am<=140737488355328) (ao:n+m<=maxLen)
  (h:∀ae af w' ah,(af=g/\ah=al/\(v=ae\/g<w.heap.size/\v≠ .slice ν 0 0)\/af=w.heap.size/\ah=e)->bU w' af ah k ae (n+m) (xs++J)->ag (λr=>r=g/\v≠ .slice ν 0 0) w w'->K ae w'):
  aA P (l9 #[t,V] X #[v,x]) w K:=by
 obtain⟨i,hi,rfl,rfl,aB⟩:=hi;have aC:=an.sl;obtain⟨U,ai⟩:=an;have W:=I.1;have grow:∀ (base:Option Addr) (cap:Nat),v= .slice base n cap->cap<n+m->0<m->(l7.firstCells i.size n (.slice base n cap)).run P w.drew= .ok xs.toArray w.drew->aA P (l9 #[t,V] X #[v,x]) w K:=by
  rintro base cap rfl ap hm aD;have Y:=run_append_grow_src (P:=P) w t V X e i z ac hi aB base n cap xs aD x m J (I.src ad h1 hm) ap (by simp only[maxLen] at ao;omega) (growslice_fits ap az);have aE:n+m<=grownCap w (n+m) cap e:=grownCap_ge w _ _ _;have aj:grownCap w (n+m) cap e<=maxLen:=grownCap_le_maxLen w (n+m) cap e ao;have aF:Ext w (w.drew.alloc (.cells ((xs++J).toArray++l7.zeroCells z.cells (grownCap w (n+m) cap e-(n+m))) e)):=(p4 w _).trans (ow _ _);refine .of Y ((ov w _ (S6 _)).trans (ox _ _)) (h _ w.heap.size _ _ (.inr ⟨rfl,rfl⟩) ⟨by simp[U,W,U5],.inr ⟨_,((xs++J).toArray++l7.zeroCells z.cells (grownCap w (n+m) cap e-(n+m))).toList,rfl,?_,aE,aj,?_,?_⟩⟩ (aF.aa _))
  .show _=_;rw[Array.toArray_toList];exact heap_alloc_new w.drew _
  .simp[U,W,size_zeroCells,ay,<-U5];congr 1;omega
  .rw[Array.toList_append,List.toList_toArray,U5,<-U,<-W,<-u9];exact List.take_left
 rcases Nat.eq_zero_or_pos m with rfl|hm
 .have aG:J=[]:=Z5 (by simpa using W);subst aG;have aH:=I.Fw ad;have aq:∀base cap,v= .slice base n cap->n<=cap->aA P (l9 #[t,V] X #[v,x]) w K:=by
   rintro base cap rfl aj;refine .of (run_append_nothing (P:=P) w t V X e i ac hi base n cap aj x aH) (cN.refl _) (h _ g _ _ (.inl ⟨rfl,rfl,.inl rfl⟩) ?_ (ag.refl _ _));rw[Nat.add_zero,X6];exact⟨U,ai⟩
  obtain⟨rfl,rfl⟩|⟨cap,cs,rfl,_,au,_⟩:=ai
  .exact aq _ _ rfl (o8 _)
  .exact aq _ _ rfl au
 .obtain⟨rfl,rfl⟩|⟨cap,cs,rfl,ab,au,aI,av,aJ⟩:=ai
  .have aK:xs=[]:=Z5 (by simpa using U);subst aK;exact grow ν 0 rfl Ω hm (run_firstCells_none w.drew i.size 0 0 0)
  .by_cases ak:n+m<=cap
   .have aL:n*i.size+J.length<=cs.length:=by rw[W,av,<-U5];exact Y5 _ ak
    have Y:=run_append_room_src (P:=P) w t V X e i ac hi g 0 n cap x m J (I.src ad h1 hm) ak
     (λj aR=>by rw[ab.cell (y0 (show 0+n*i.size+j<cs.length by omega))];rfl) (λj _=>ab.frozen _ _)
    obtain⟨aM,aw⟩:=md J cs (n*i.size) w ab;rw[V3] at Y;refine .of Y (aw.dv ab) (h _ g _ _ (.inl ⟨rfl,rfl,.inr ⟨ab.lt,Ξ⟩⟩) ⟨by simp[U,W,U5],.inr ⟨cap,_,rfl,aM,ak,aI,by rw[kA,av],?_⟩⟩ (aw.aa.mono λr _ h=>⟨h,Ξ⟩));rw[ll aL,aJ,U5,<-U,<-W,<-u9];exact List.take_left
   .refine grow _ cap rfl Ω hm (run_firstCells_some w.drew i.size n _ n cap xs U λj u hu=>?_);rw[U7];obtain⟨_,b,o,base,aS,he,_,_,aN,Y⟩:=aC;cases he;have aP:0<n:=by
     rcases Nat.eq_zero_or_pos n with rfl|aQ
     .simp at U;subst U;simp at hu
     .exact aQ
    have:=aN aP;cases this;simpa using Y j u hu
theorem me {W aa ab:r9} {k g:Nat} {x:x1} {V:List x1} {K:x1->x2->Prop}
  (ac:P.underlying t=σ (.slice e)) (ad:P.underlying W=σ (.slice ab)) (hi:aO P e k X z) (ae:z.cells.size=k)
  (af:bU w g e k v n xs) (I:bW w k x m V) (h1:∀u∈V,u.oneCell'=true) (ah:(n+m)*X<=140737488355328) (ai:n+m<=maxLen)
  (h:∀U J w',(J=g\/w.heap.size<=J)->bU w' J e k U (n+m) (xs++V)->ag (λr=>r=g) w w'->K U w'):
  aA P (l9 #[t,W] aa #[v,x]) w K:=
 xz ac ad hi ae af I h1 ah ai λU J w' ak Y hm aj=>by
  refine h U J w' (Y.imp And.left λh=>Nat.le_of_eq h.1.symm) ?_ (aj.mono λr _ h=>h.1);obtain⟨_,rfl,_⟩|⟨_,rfl⟩:=Y<;>exact hm
theorem xA {X Y:r9} {al g J ab:Nat} {x:x1} {base:Option Addr} {ae:r9} {K:x1->x2->Prop} (ah:P.underlying V=σ (.slice e)) (hi:aO P e 1 al z)
  (U:af w g ae cs) (am:0<J->base=σ ⟨g,o,ν⟩) (ay:o+J<=cs.length) (I:bW w 1 x n xs) (h1:∀u∈xs,u.oneCell'=true)
  (h:∀w',ag (λr=>r=g) w w'->w'.heap.size=w.heap.size->af w' g ae (over cs o (xs.take J))->K (Δ (min n J:Nat)) w'):
  aA P (l7.copy_ #[V,X] Y #[.slice base J ab,x]) w K:=by
 obtain⟨ac,b,o',an,cap,rfl,_,_,ao,ap⟩:=I;simp only[T5] at ac;have ai:(P.info? e).map (·.size)=σ 1:=hi.size;by_cases W:Nat.min n J=0
 .have he:xs.take J=[]:=Z5 (by rw[o4,ac];rw[Nat.min_comm];exact W);rw[he] at h;refine .of (run_copy_none (P:=P) w V X Y e base an J ab n cap ah ai W) (cN.refl _) ?_;have aj:min n J=0:=W;rw[aj] at h;exact h w (ag.refl _ _) rfl U
 .have aj:min n J≠0:=W;have aq:=ao Ω;have au:=am Ω;subst aq;subst au;have ak:(xs.take J).length=min n J:=by rw[o4,ac,Nat.min_comm]
  obtain⟨av,ad⟩:=md (xs.take J) cs o w U;have aw:=run_copy_cells (P:=P) w V X Y e g o J ab ⟨b,o',ν⟩ n cap (xs.take J) ah ai ak
   (λj u hu=>by
    rw[U7];have ax:=(x4.1 hu).1;rw[Y2 Ω] at hu;exact ap j u hu)
   (λj ax=>by rw[U.cell (y0 (show o+j<cs.length by omega))];rfl) (λj _=>U.frozen _ _) (λu hu=>h1 u (U3 hu))
  refine .of aw (ad.dv U) ?_;rw[ak];exact h _ ad.aa ad.size av
theorem ak.mono {f:FuncId} {K J:x1->x2->Prop} (h:ak P f args w K) (U:∀v w',cN w w'->K v w'->J v w'):ak P f args w J:=by
 cases h with
 |code h1 I=>exact .code h1 (I.mono λ_ w' ⟨v,h1,V,I⟩=>⟨v,h1,V,U v w' V I⟩)
 |ext v w' h1 I W=>exact .ext v w' h1 I (U v w' I W)
theorem fZ.mono {f:FuncId} {K J:x1->x2->Prop} (h:fZ P f args w K) (U:∀v w',K v w'->J v w'):fZ P f args w J:=by
 cases h with
 |code h1 I=>exact .code h1 (I.mono λ_ w' ⟨v,h1,I⟩=>⟨v,h1,U v w' I⟩)
 |ext v w' h1 V=>exact .ext v w' h1 (U v w' V)
end
end Go.Vc
namespace Go.Proofs.YtgbkinibgjmodaaGreatDoor
open Go Go.Vc Go.RowKit Go.Proofs Go.Proofs.Tryz
set_option maxRecDepth 100000
theorem ao.u:x3.underlying ao=σ (.int .i64):=Ψ
theorem ao.i:aO x3 ao 1 8 (Δ 0):=aO.of Ψ
theorem ab.u:x3.underlying ab=σ (.int .i64):=Ψ
theorem ab.i:aO x3 ab 1 8 (Δ 0):=aO.of Ψ
theorem eN.u:x3.underlying eN=σ .bool:=Ψ
theorem eN.i:aO x3 eN 1 1 (.bool false):=aO.of Ψ
theorem cv.u:x3.underlying cv=σ (.int .u8):=Ψ
theorem cv.i:aO x3 cv 1 1 (.int .u8 0):=aO.of Ψ
theorem cP.u:x3.underlying cP=σ .string:=Ψ
theorem cP.i:aO x3 cP 1 16 (.string ⟨#[]⟩):=aO.of Ψ
theorem cB.u:x3.underlying cB=σ (.slice cv):=Ψ
theorem dQ.u:x3.underlying dQ=σ (.pointer bt):=Ψ
theorem ai.u:x3.underlying ai=σ (.slice ab):=Ψ
theorem ai.i:aO x3 ai 1 24 (.slice ν 0 0):=aO.of Ψ
theorem cz.u:x3.underlying cz=σ (.slice ai):=Ψ
theorem cz.i:aO x3 cz 1 24 (.slice ν 0 0):=aO.of Ψ
theorem fs.u:x3.underlying fs=σ (.slice eN):=Ψ
theorem fs.i:aO x3 fs 1 24 (.slice ν 0 0):=aO.of Ψ
theorem dJ.u:x3.underlying dJ=σ (.slice aw):=Ψ
theorem dJ.i:aO x3 dJ 1 24 (.slice ν 0 0):=aO.of Ψ
theorem b3.u:x3.underlying b3=σ (.slice b0):=Ψ
theorem b3.i:aO x3 b3 1 24 (.slice ν 0 0):=aO.of Ψ
theorem e0.u:x3.underlying e0=σ (.slice ca):=Ψ
theorem e0.i:aO x3 e0 1 24 (.slice ν 0 0):=aO.of Ψ
theorem aG.p:bx x3 aG [(0,1),(1,1),(2,1),(3,1),(4,1),(5,1),(6,1),(7,1)]:=bx.of Ψ
theorem aG.i:aO x3 aG 8 160 (.agg #[(Δ 0),(.slice ν 0 0),(Δ 0),(.slice ν 0 0),(.slice ν 0 0),(.slice ν 0 0),(.slice ν 0 0),(.slice ν 0 0)]):=aO.of Ψ
theorem eF.i:aO x3 eF 1 8 (Δ 0):=aO.of Ψ
theorem ew.u:x3.underlying ew=σ (.int .u64):=Ψ
theorem ew.i:aO x3 ew 1 8 (.int .u64 0):=aO.of Ψ
theorem b5.p:bx x3 b5 [(0,1),(1,1)]:=bx.of Ψ
theorem b5.i:aO x3 b5 2 16 (.agg #[(.int .u64 0),(Δ 0)]):=aO.of Ψ
theorem qJ.u:x3.underlying qJ=σ (.slice aR):=Ψ
theorem c0.u:x3.underlying c0=σ (.slice aG):=Ψ
theorem c0.i:aO x3 c0 1 24 (.slice ν 0 0):=aO.of Ψ
theorem lf.u:x3.underlying lf=σ (.slice lh):=Ψ
theorem aR.p:bx x3 aR [(0,1),(1,1),(2,1),(3,1),(4,1),(5,1),(6,1),(7,1),(8,1)]:=bx.of Ψ
theorem aR.i:aO x3 aR 9 120 (.agg #[(.int .u8 0),(Δ 0),(Δ 0),(Δ 0),(Δ 0),(.slice ν 0 0),(.slice ν 0 0),(.slice ν 0 0),(.bool false)]):=aO.of Ψ
theorem aw.u:x3.underlying aw=σ (.slice ao):=Ψ
theorem aw.i:aO x3 aw 1 24 (.slice ν 0 0):=aO.of Ψ
theorem aZ.p:bx x3 aZ [(0,1),(1,1),(2,1)]:=bx.of Ψ
theorem aZ.i:aO x3 aZ 3 72 (.agg #[(.slice ν 0 0),(.slice ν 0 0),(.slice ν 0 0)]):=aO.of Ψ
theorem b0.p:bx x3 b0 [(0,3),(3,1)]:=bx.of Ψ
theorem b0.i:aO x3 b0 4 80 (.agg #[(.slice ν 0 0),(.slice ν 0 0),(.slice ν 0 0),(.bool false)]):=aO.of Ψ
theorem lg.u:x3.underlying lg=σ (.pointer ff):=Ψ
theorem fe.u:x3.underlying fe=σ (.slice bM):=Ψ
theorem fe.i:aO x3 fe 1 24 (.slice ν 0 0):=aO.of Ψ
theorem bM.p:bx x3 bM [(0,1),(1,1),(2,1)]:=bx.of Ψ
theorem bM.i:aO x3 bM 3 56 (.agg #[(Δ 0),(.slice ν 0 0),(.slice ν 0 0)]):=aO.of Ψ
theorem te.u:x3.underlying te=σ (.pointer cr):=Ψ
theorem tf.u:x3.underlying tf=σ (.pointer dk):=Ψ
theorem cK.u:x3.underlying cK=σ (.slice aZ):=Ψ
theorem cK.i:aO x3 cK 1 24 (.slice ν 0 0):=aO.of Ψ
theorem dj.p:bx x3 dj [(0,1),(1,1),(2,1),(3,1),(4,1)]:=bx.of Ψ
theorem dj.i:aO x3 dj 5 88 (.agg #[(Δ 0),(.slice ν 0 0),(Δ 0),(.slice ν 0 0),(.slice ν 0 0)]):=aO.of Ψ
theorem i7.u:x3.underlying i7=σ (.pointer cH):=Ψ
theorem dR.u:x3.underlying dR=σ (.slice cE):=Ψ
theorem dR.i:aO x3 dR 1 24 (.slice ν 0 0):=aO.of Ψ
theorem bt.p:bx x3 bt [(0,1),(1,1),(2,1),(3,1),(4,1)]:=bx.of Ψ
theorem bq.p:bx x3 bq [(0,1)]:=bx.of Ψ
theorem bq.i:aO x3 bq 1 24 (.agg #[(.slice ν 0 0)]):=aO.of Ψ
theorem cE.p:bx x3 cE [(0,1),(1,1),(2,1)]:=bx.of Ψ
theorem cE.i:aO x3 cE 3 56 (.agg #[(.slice ν 0 0),(.slice ν 0 0),(Δ 0)]):=aO.of Ψ
theorem dD.p:bx x3 dD [(0,1),(1,1),(2,1)]:=bx.of Ψ
theorem dD.i:aO x3 dD 3 56 (.agg #[(.slice ν 0 0),(Δ 0),(.slice ν 0 0)]):=aO.of Ψ
theorem ek.u:x3.underlying ek=σ (.pointer cU):=Ψ
theorem ek.i:aO x3 ek 1 8 (.pointer ν):=aO.of Ψ
theorem ca.p:bx x3 ca [(0,1),(1,1),(2,1)]:=bx.of Ψ
theorem ca.i:aO x3 ca 3 56 (.agg #[(Δ 0),(.slice ν 0 0),(.slice ν 0 0)]):=aO.of Ψ
theorem qK.u:x3.underlying qK=σ (.pointer gL):=Ψ
theorem eG.p:bx x3 eG [(0,1),(1,1),(2,1),(3,1)]:=bx.of Ψ
theorem gu.u:x3.underlying gu=σ (.slice iu):=Ψ
theorem gu.i:aO x3 gu 1 24 (.slice ν 0 0):=aO.of Ψ
theorem b6.p:bx x3 b6 [(0,1),(1,4),(5,1),(6,1)]:=bx.of Ψ
theorem h5.u:x3.underlying h5=σ (.slice b1):=Ψ
theorem hy.u:x3.underlying hy=σ (.slice dL):=Ψ
theorem hy.i:aO x3 hy 1 24 (.slice ν 0 0):=aO.of Ψ
theorem b1.p:bx x3 b1 [(0,1),(1,1),(2,1),(3,1)]:=bx.of Ψ
theorem b1.i:aO x3 b1 4 80 (.agg #[(.slice ν 0 0),(.slice ν 0 0),(Δ 0),(.slice ν 0 0)]):=aO.of Ψ
theorem dq.u:x3.underlying dq=σ (.slice cn):=Ψ
theorem dq.i:aO x3 dq 1 24 (.slice ν 0 0):=aO.of Ψ
theorem cr.p:bx x3 cr [(0,1),(1,1),(2,1),(3,1)]:=bx.of Ψ
theorem ey.u:x3.underlying ey=σ (.pointer e1):=Ψ
theorem ey.i:aO x3 ey 1 8 (.pointer ν):=aO.of Ψ
theorem cn.p:bx x3 cn [(0,1),(1,1)]:=bx.of Ψ
theorem cn.i:aO x3 cn 2 32 (.agg #[(.slice ν 0 0),(.pointer ν)]):=aO.of Ψ
theorem eT.u:x3.underlying eT=σ (.slice cd):=Ψ
theorem eT.i:aO x3 eT 1 24 (.slice ν 0 0):=aO.of Ψ
theorem de.u:x3.underlying de=σ (.slice aX):=Ψ
theorem de.i:aO x3 de 1 24 (.slice ν 0 0):=aO.of Ψ
theorem br.p:bx x3 br [(0,1),(1,1),(2,1),(3,1),(4,1),(5,1),(6,1),(7,1),(8,1)]:=bx.of Ψ
theorem dk.p:bx x3 dk [(0,1),(1,1),(2,1),(3,1)]:=bx.of Ψ
theorem cd.p:bx x3 cd [(0,1),(1,1)]:=bx.of Ψ
theorem cd.i:aO x3 cd 2 24 (.agg #[(.string ⟨#[]⟩),(Δ 0)]):=aO.of Ψ
theorem dK.u:x3.underlying dK=σ (.slice b4):=Ψ
theorem dK.i:aO x3 dK 1 24 (.slice ν 0 0):=aO.of Ψ
theorem aX.p:bx x3 aX [(0,1),(1,1),(2,1),(3,1)]:=bx.of Ψ
theorem aX.i:aO x3 aX 4 80 (.agg #[(.slice ν 0 0),(.slice ν 0 0),(Δ 0),(.slice ν 0 0)]):=aO.of Ψ
theorem jG.u:x3.underlying jG=σ (.slice hb):=Ψ
theorem jG.i:aO x3 jG 1 24 (.slice ν 0 0):=aO.of Ψ
theorem ff.p:bx x3 ff [(0,1),(1,1),(2,1),(3,1)]:=bx.of Ψ
theorem hb.p:bx x3 hb [(0,1),(1,1)]:=bx.of Ψ
theorem hb.i:aO x3 hb 2 32 (.agg #[(.slice ν 0 0),(.pointer ν)]):=aO.of Ψ
theorem fN.u:x3.underlying fN=σ (.slice dE):=Ψ
theorem fN.i:aO x3 fN 1 24 (.slice ν 0 0):=aO.of Ψ
theorem gv.u:x3.underlying gv=σ (.slice fg):=Ψ
theorem gv.i:aO x3 gv 1 24 (.slice ν 0 0):=aO.of Ψ
theorem hz.u:x3.underlying hz=σ (.slice dr):=Ψ
theorem hz.i:aO x3 hz 1 24 (.slice ν 0 0):=aO.of Ψ
theorem cH.p:bx x3 cH [(0,1),(1,1),(2,1),(3,1)]:=bx.of Ψ
theorem dr.p:bx x3 dr [(0,1),(1,1),(2,1)]:=bx.of Ψ
theorem dr.i:aO x3 dr 3 24 (.agg #[(Δ 0),(Δ 0),(.int .u64 0)]):=aO.of Ψ
theorem dE.p:bx x3 dE [(0,1),(1,1)]:=bx.of Ψ
theorem dE.i:aO x3 dE 2 16 (.agg #[(Δ 0),(.int .u64 0)]):=aO.of Ψ
theorem fg.p:bx x3 fg [(0,1),(1,2)]:=bx.of Ψ
theorem fg.i:aO x3 fg 3 24 (.agg #[(Δ 0),(Δ 0),(.int .u64 0)]):=aO.of Ψ
theorem lh.u:x3.underlying lh=σ (.int .u16):=Ψ
theorem lh.i:aO x3 lh 1 2 (.int .u16 0):=aO.of Ψ
theorem cU.p:bx x3 cU [(0,1),(1,1),(2,1)]:=bx.of Ψ
theorem nl.u:x3.underlying nl=σ (.int .u64):=Ψ
theorem gL.p:bx x3 gL [(0,1),(1,1),(2,1)]:=bx.of Ψ
theorem iu.p:bx x3 iu [(0,1),(1,1)]:=bx.of Ψ
theorem iu.i:aO x3 iu 2 48 (.agg #[(.slice ν 0 0),(.slice ν 0 0)]):=aO.of Ψ
theorem dL.p:bx x3 dL [(0,1),(1,1)]:=bx.of Ψ
theorem dL.i:aO x3 dL 2 32 (.agg #[(.slice ν 0 0),(Δ 0)]):=aO.of Ψ
theorem b4.p:bx x3 b4 [(0,1),(1,1)]:=bx.of Ψ
theorem b4.i:aO x3 b4 2 32 (.agg #[(.slice ν 0 0),(Δ 0)]):=aO.of Ψ
theorem ft.u:x3.underlying ft=σ (.slice cL):=Ψ
theorem cL.p:bx x3 cL [(0,1),(1,1)]:=bx.of Ψ
theorem cL.i:aO x3 cL 2 32 (.agg #[(.slice ν 0 0),(.pointer ν)]):=aO.of Ψ
theorem hA.u:x3.underlying hA=σ (.map cp ao):=Ψ
theorem e1.p:bx x3 e1 [(0,1),(1,1),(2,1),(3,1)]:=bx.of Ψ
theorem nm.u:x3.underlying nm=σ (.slice fu):=Ψ
theorem fu.p:bx x3 fu [(0,1),(1,1)]:=bx.of Ψ
theorem fu.i:aO x3 fu 2 32 (.agg #[(.slice ν 0 0),(Δ 0)]):=aO.of Ψ
theorem nn.u:x3.underlying nn=σ (.int .u32):=Ψ
theorem ga.u:x3.underlying ga=σ (.map cP ab):=Ψ
theorem fh.u:x3.underlying fh=σ (.int .i8):=Ψ
theorem fh.i:aO x3 fh 1 1 (.int .i8 0):=aO.of Ψ
theorem cp.u:x3.underlying cp=σ (.array 6 fh):=Ψ
theorem cp.i:aO x3 cp 6 6 (.agg #[(.int .i8 0),(.int .i8 0),(.int .i8 0),(.int .i8 0),(.int .i8 0),(.int .i8 0)]):=aO.of Ψ
theorem jH.u:x3.underlying jH=σ (.slice fh):=Ψ
theorem h6.u:x3.underlying h6=σ (.slice cp):=Ψ
theorem h6.i:aO x3 h6 1 24 (.slice ν 0 0):=aO.of Ψ
theorem qL.u:x3.underlying qL=σ (.array 64 cv):=Ψ
theorem ku.u:x3.underlying ku=σ (.map ao ab):=Ψ
theorem lj.u:x3.underlying lj=σ (.array 24 cv):=Ψ
theorem lj.i:aO x3 lj 24 24 (.agg #[(.int .u8 0),(.int .u8 0),(.int .u8 0),(.int .u8 0),(.int .u8 0),(.int .u8 0),(.int .u8 0),(.int .u8 0),(.int .u8 0),(.int .u8 0),(.int .u8 0),(.int .u8 0),(.int .u8 0),(.int .u8 0),(.int .u8 0),(.int .u8 0),(.int .u8 0),(.int .u8 0),(.int .u8 0),(.int .u8 0),(.int .u8 0),(.int .u8 0),(.int .u8 0),(.int .u8 0)]):=aO.of Ψ
theorem qM.u:x3.underlying qM=σ (.array 20 ew):=Ψ
end Go.Proofs.YtgbkinibgjmodaaGreatDoor
namespace Go.Vc
open Go Go.RowKit
def bO:x1->Int
 | .int _ i=>i
 |_=>0
theorem wrap_i64 {x:Int} (h1: -9223372036854775808<=x) (I:x<9223372036854775808):Y6.wrap x=x:=by
 simp only[o6.wrap,o6.bits,o6.signed];simp;omega
theorem wrap_u8 {x:Int} (h1:0<=x) (I:x<256):o6.u8.wrap x=x:=by
 simp only[o6.wrap,o6.bits,o6.signed];simp;omega
theorem wrap_u16 {x:Int} (h1:0<=x) (I:x<65536):o6.u16.wrap x=x:=by
 simp only[o6.wrap,o6.bits,o6.signed];simp;omega
theorem Fx {x:Int} (h1: -128<=x) (I:x<128):o6.i8.wrap x=x:=by
 simp only[o6.wrap,o6.bits,o6.signed];simp;omega
theorem wrap_u64 {x:Int} (h1:0<=x) (I:x<18446744073709551616):U6.wrap x=x:=by
 simp only[o6.wrap,o6.bits,o6.signed];simp;omega
abbrev ints (k:o6) (l:Λ):List x1:=l.map (V4 k)
theorem oN (k:o6) (l:Λ):∀u∈ints k l,u.oneCell'=true:=by
 intro u hu;obtain⟨x,_,rfl⟩:=Z1.1 hu;rfl
theorem jJ {i:Nat} {x:Int} (h:l[i]? =σ x):(ints k l)[i]? =σ (.int k x):=by simp[ints,h]
theorem ti {α:Type} {a b:List α} {i:Nat} {x y:α} (h:a.take i=b.take i) (I:a[i]? =σ x) (J:b[i]? =σ y) (U:x=y):a.take (i+1)=b.take (i+1):=by
 rw[r8,r8,h,I,J,U]
theorem di {I:x2->Prop} {B:(x2->Prop)->Prop} (G:x2->Prop) (h1:∀w,G w->I w) (U:∀J:x2->Prop,(∀w,G w->J w)->B J):bB I B:=U I h1
theorem aQ {I:x1->x2->Prop} {B:(x1->x2->Prop)->Prop} (G:x1->x2->Prop) (h1:∀v w,G v w->I v w)
  (U:∀J:x1->x2->Prop,(∀v w,G v w->J v w)->B J):bB I B:=U I h1
theorem h4 {I:x1->x1->x2->Prop} {B:(x1->x1->x2->Prop)->Prop} (G:x1->x1->x2->Prop) (h1:∀u v w,G u v w->I u v w)
  (U:∀J:x1->x1->x2->Prop,(∀u v w,G u v w->J u v w)->B J):bB I B:=U I h1
theorem ak.calls {P:W7} {f:FuncId} {K:x1->x2->Prop} (h:ak P f args w K) (I:Enters P f):Calls P f args.toArray w λe w'=>∃v,e= .returned v/\cN w w'/\K v w':=by
 cases h with
 |code _ h=>exact h
 |ext v w' h1=>rw[I] at h1;cases h1
theorem Fy (V:Ext w w') (J:cN w w'):Below w.heap.size w w':=
 ⟨J.os,J.tape.1,J.output,V.size,λk W=>by
  have U:w.heap[k]? =σ w.heap[k]:=Array.getElem?_eq_getElem W;rw[U];cases I:fK w.heap[k] with
  |true=>exact V.a7 k _ U I
  |false=>exact J.a7 k _ U I⟩
theorem tj {x:Addr} (h:w.cell? x=σ v):x=⟨x.block,x.off,ν⟩:=by
 obtain⟨b,o,s⟩:=x;cases s with
 |none=>rfl
 |some s=>
  unfold x2.cell? at h;split at h<;>simp at h
theorem Fz {a:Option Addr} {len cap:Nat} {I:Λ}
  (h:(a=ν/\len=0/\cap=0/\I=[])\/
   ∃x,a=σ x/\len<=cap/\cap<=maxLen/\I.length=cap/\(∀i,i<I.length->w.cell? (x.add i)=σ (.int k (I.getD i 0)))/\ ∀n∈I,(Lit.int k n).wf=true):
  bW w 1 (.slice a len cap) len (ints k (I.take len))/\ ∀n∈I.take len,k.min<=n/\n<=k.max:=by
 rcases h with⟨rfl,rfl,rfl,rfl⟩|⟨x,rfl,h1,W,X,J,Y⟩
 .exact⟨bW.nil _ _,Ξ⟩
 .refine⟨⟨by simp[X,h1],x.block,x.off,σ x,cap,rfl,h1,W,λad=>?_,λj v U=>?_⟩,λn aa=>?_⟩
  .have:=J 0 Ω;exact congrArg σ (tj this)
  .have ab:=(x4.1 U).1;rw[u4,o4] at ab;have ac:x=⟨x.block,x.off,ν⟩:=tj (v:=.int k (I.getD 0 0)) (J 0 Ω);have V:=J j Ω;rw[ac,U7] at V;rw[V,<-U,ints,x8,Y2 Ω,u5,y0 Ω];rfl
  .have:=Y n (U3 aa);simpa[Lit.wf] using this
def aJ (k:o6) (w:x2) (v:x1) (l:Λ):Prop:=bW w 1 v l.length (ints k l)
def au (k:o6) (e:r9) (w:x2) (g:Nat) (v:x1) (l:Λ):Prop:=bU w g e 1 v l.length (ints k l)
theorem aJ.ext (h:aJ k w v l) (I:Ext w w'):aJ k w' v l:=bW.ext h I
theorem au.ext {g:Nat} (h:au k e w g v l) (I:Ext w w'):au k e w' g v l:=bU.ext h I
theorem au.aa {g:Nat} (h:au k e w g v l) (I:ag S w w') (J:g<w.heap.size->¬S g):au k e w' g v l:=bU.aa h I J
theorem au.ls {g:Nat} (h:au k e w g v l):aJ k w v l:=bU.sl h
theorem aJ.of (h:bW w 1 v n (ints k l)):aJ k w v l:=by
 have:l.length=n:=by simpa using h.1
 unfold aJ;rw[this];exact h
theorem au.of {g:Nat} (h:bU w g e 1 v n (ints k l)):au k e w g v l:=by
 have:l.length=n:=by simpa using h.1
 unfold au;rw[this];exact h
theorem aJ.le (h:aJ k w v l):l.length<=9223372036854775807:=by
 have:=bW.le h;simpa[maxLen] using this
theorem aJ.cells (h:aJ k w v l):v.cells= #[v]/\v.oneCell'=true:=by
 obtain⟨_,_,_,_,_,rfl,_⟩:=h;exact⟨rfl,rfl⟩
theorem au.nil (k:o6) (e:r9) (w:x2) (g:Nat):au k e w g (.slice ν 0 0) []:=bU.nil w g e 1
section
variable {P:W7} {w:x2}
theorem aT {I:r9} (U:P.underlying t=σ (.slice e)) (h:aJ k w v l):
  J P (Y3 #[t] I #[v]) w K=K (Δ l.length):=by
 obtain⟨_,_,_,_,_,rfl,_⟩:=h;exact gw U
theorem bd {U:o6} {b:Nat} {i:Nat} {x:Int} (V:P.underlying t=σ (.slice e)) (hi:aO P e 1 b z) (h1:jI P e=true)
  (h:aJ k w v l) (I:l[i]? =σ x):J P (n0 t v (.int U (i:Int))) w (λp=>J P (x6 e p) w K)=K (.int k x):=by
 have W:=(x4.1 I).1;obtain⟨_,_,_,_,_,rfl,_,_,X,Y⟩:=h;rw[fi V hi W X,T5,ad h1 (Y i _ (jJ I))]
theorem dY {I:o6} {b:Nat} {i:Nat} {x:Int} (U:y=(i:Int)) (V:P.underlying t=σ (.slice e)) (hi:aO P e 1 b z) (h1:jI P e=true)
  (h:aJ k w v l) (W:l[i]? =σ x):J P (n0 t v (.int I y)) w (λp=>J P (x6 e p) w K)=K (.int k x):=by
 subst U;exact bd V hi h1 h W
theorem hD {b g:Nat} {x:x1} {m:Λ} {K:x1->x2->Prop} (U:P.underlying t=σ (.slice e)) (hi:aO P e 1 b z) (W:z.cells.size=1)
  (h:au k e w g v l) (X:aJ k w x m) (Y:(l.length+m.length)*b<=140737488355328) (aa:l.length+m.length<=9223372036854775807)
  (ab:∀J I w',(I=g\/w.heap.size<=I)->au k e w' I J (l++m)->ag (λr=>r=g) w w'->K J w'):aA P (l9 #[t,t] V #[v,x]) w K:=
 me U U hi W h X (oN _ _) Y (by simpa[maxLen] using aa) λJ I w' h1 ac ad=>ab J I w' h1 (au.of (by rw[ints,Z3];exact ac)) ad
theorem dx {b:Nat} {x:Int} {K:x1->x2->Prop} (U:P.underlying t=σ (.slice e)) (hi:aO P e 1 b z) (Y:z.cells.size=1)
  (h:∀v g w',g=w.heap.size->Ext w w'->au k e w' g v [x]->K v w'):aA P (Z7 t 1 #[(0,.int k x)]) w K:=
 iw U hi Ω (cs:=#[.int k x]) (by
   have I:∀ (a:Array x1),a.size=1->a.setIfInBounds 0 (.int k x)= #[.int k x]:=λa J=>by
    apply Array.ext
    .simp[J]
    .intro i h1 aa;have:i=0:=by simp[J] at h1;exact h1
     subst this;simp
   simp only[Instr.fill,x1.cells,List.zipIdx];simp;exact I _ Ξ) λg w' V W X=>h _ g w' V W (au.of (n:=1) (bU.full X rfl (by simp[maxLen])))
theorem ak.free {f:FuncId} {K:x1->x2->Prop} (h:ak P f args w K):fZ P f args w λv w'=>cN w w'/\K v w':=by
 cases h with
 |code h1 I=>exact .code h1 (I.mono λ_ w' ⟨v,h1,J,I⟩=>⟨v,h1,J,I⟩)
 |ext v w' h1 I U=>exact .ext v w' h1 ⟨I,U⟩
theorem ay {a:Addr}:J P (aY (.pointer (σ a))) w K=K (.pointer (σ a)):=J.of λ_ _=>by
 simp[aY,p6,execOp]
theorem bC {u:r9} {pl:List (Nat×Nat)} {b off z:Nat} {K:x1->x1->Prop} (V:bx P t pl) (i:Nat) (W:af w b e cs) (I:cs[(pl[i]?.getD (0,0)).1]? =σ v) (U:pl[i]? =σ (off,z+1):=by rfl) (X:jI P u=true:=by kernel_rfl):
  J P (x7 t (Γ b) i) w (λx=>J P (x6 u x) w (K x))=K (.pointer (σ ⟨b,0+off,ν⟩)) v:=by
 rw[U] at I;rw[ac V U,ad X (W.cell (by rw[V3];exact I))]
theorem ix {u:r9} {pl:List (Nat×Nat)} {b off z:Nat} {K:x1->x1->x1->Prop} (I:bx P t pl) (i:Nat) (U:af w b e cs) (V:cs[(pl[i]?.getD (0,0)).1]? =σ v) (W:pl[i]? =σ (off,z+1):=by rfl) (X:jI P u=true:=by kernel_rfl):
  J P (aY (Γ b)) w (λy=>J P (x7 t y i) w (λx=>J P (x6 u x) w (K y x)))=K (Γ b) (.pointer (σ ⟨b,0+off,ν⟩)) v:=by
 rw[ay,bC I i U V W X]
theorem xB {I J:o6} {k:Nat} {K:x1->x2->Prop} (W:P.underlying t=σ (.slice e)) (hi:aO P e k U z) (ac:n*U<=281474976710656) (ad:n<=9223372036854775807)
  (h:∀g w',g=w.heap.size->Ext w w'->af w' g e (dw z.cells (n*k))->K (.slice (σ ⟨g,0,ν⟩) n n) w'):aA P (Instr.makeSlice t (.int I (n:Int)) (.int J (n:Int))) w K:=by
 obtain⟨i,hi,rfl,rfl,X⟩:=hi;have Y:(i.bytes:Int)*(n:Int)<=281474976710656:=by
  rw[Int.mul_comm];have h:((n*i.bytes:Nat):Int)<=281474976710656:=Ω
  rwa [Int.natCast_mul] at h
 have V:=run_make (P:=P) w t e i z W hi X I J n n Ω (Int.le_refl _) Y Ω;have hm:madeCells z.cells ((n:Int).toNat*i.size)=(dw z.cells (n*i.size)).toArray:=by rw[dw,Array.toArray_toList];rfl
 rw[hm] at V;obtain⟨h1,aa,ab⟩:=qR w (dw z.cells (n*i.size)) e;exact .of V ab (h _ _ rfl aa h1)
theorem FA (v:x1) (n:Nat):dw #[v] n=o7 n v:=by
 apply List.ext_getElem
 .simp[dw]
 .intro i h1 I;simp[dw,Nat.mod_one]
theorem i9 {J U:o6} {K:x1->x2->Prop} (V:P.underlying t=σ (.slice e)) (hi:aO P e 1 I (.int k 0)) (W:n*I<=281474976710656) (X:n<=9223372036854775807)
  (h:∀g w',g=w.heap.size->Ext w w'->af w' g e (ints k (o7 n 0))->K (.slice (σ ⟨g,0,ν⟩) n n) w'):aA P (Instr.makeSlice t (.int J (n:Int)) (.int U (n:Int))) w K:=
 xB V hi W X λg w' Y aa ab=>h g w' Y aa (by
  have e:dw (V4 k 0).cells (n*1)=ints k (o7 n 0):=by rw[T5];show dw #[_] n=_;rw[FA];simp[ints]
  rw[<-e];exact ab)
theorem eO {pl:List (Nat×Nat)} {b k:Nat} (hu:bx P t pl) (hi:aO P t k I z) (U:cs.length=k)
  (h:w.rangeAt b o cs):J P (do loadVar t (<-asAddr (.pointer (σ ⟨b,o,ν⟩)))) w K=K (.agg cs.toArray):=J.of λw' V=>by
 obtain⟨W,hu,_⟩:=hu;have:=run_loadVar_mid (P:=P) w' b o t cs (.struct W) (np V h) hu rfl (by rw[hi.size,U]);simp only[asAddr,W0,V1,Result.andThen_ok,this]
theorem FB (h:vs.length=cs.length):over cs 0 vs=vs:=by
 rw[ll Ω];simp[h]
theorem bH {k J g:Nat} {K:Unit->x2->Prop} (hi:aO P t k J z) (U:vs.length=k) (Y:cs.length=k) (V:∀v∈vs,v.oneCell'=true) (W:af w g e cs)
  (h:∀w',ag (λr=>r=g) w w'->w'.heap.size=w.heap.size->af w' g e vs->K () w'):aA P (o5 t (Γ g) (.agg vs.toArray)) w K:=
 xy hi U V W Ω λw' h1 X I=>h w' h1 X (by rw[FB Ω] at I;exact I)
end
abbrev aj:=Nat->Prop
def hc (S:aj) (w:x2) (k:Nat) (v:x1) (n:Nat) (cs:List x1):Prop:=
 cs.length=n*k/\ ∃b o base cap,v= .slice base n cap/\n<=cap/\cap<=maxLen/\(0<n->base=σ ⟨b,o,ν⟩)/\(0<cs.length->S b)/\w.rangeAt b o cs
theorem hc.sl {S:aj} {k:Nat} (h:hc S w k v n cs):bW w k v n cs:=by
 obtain⟨h1,b,o,base,cap,I,J,U,V,_,W⟩:=h;exact⟨h1,b,o,base,cap,I,J,U,V,W⟩
theorem xC {b:Nat} (h:w.rangeAt b o cs) (I:0<cs.length):b<w.heap.size:=by
 have:=h 0 cs[0] (y0 I);obtain⟨c,e,f,J,_⟩:=tg this;exact (j6.1 J).1
theorem hc.aa {S T:aj} {k:Nat} (h:hc S w k v n cs) (V:ag T w w') (W:∀r,r<w.heap.size->S r->¬T r):hc S w' k v n cs:=by
 obtain⟨h1,b,o,base,cap,X,Y,ab,ac,J,U⟩:=h;refine⟨h1,b,o,base,cap,X,Y,ab,ac,J,?_⟩;rcases Nat.eq_zero_or_pos cs.length with I|I
 .intro j v ad;have:=(x4.1 ad).1;omega
 .exact nq V (W b (xC U I) (J I)) U
theorem hc.mono {S T:aj} {k:Nat} (h:hc S w k v n cs) (U:∀r,r<w.heap.size->S r->T r):hc T w k v n cs:=by
 obtain⟨h1,b,o,base,cap,V,W,X,Y,aa,I⟩:=h;exact⟨h1,b,o,base,cap,V,W,X,Y,λJ=>U b (xC I J) (aa J),I⟩
class am (α:Type) where
 n:Nat
 rep:Bool->aj->aj->x2->List x1->α->Prop
 len:∀ {m S R w cs a},rep m S R w cs a->cs.length=n
 one:∀ {m S R w cs a},rep m S R w cs a-> ∀u∈cs,u.oneCell'=true
 aa:∀ {m S R T w w' cs a},rep m S R w cs a->ag T w w'->(∀r,r<w.heap.size->S r\/R r->¬T r)->rep m S R w' cs a
 mono:∀ {m S S' R R' w cs a},rep m S R w cs a->(∀r,r<w.heap.size->S r->S' r)->(∀r,r<w.heap.size->R r->R' r)->rep m S' R' w cs a
 gJ:∀ {m S R w cs a},rep m S R w cs a->rep false (λ_=>False) (λr=>S r\/R r) w cs a
section
variable {α β:Type} [am α] [am β] {m:Bool} {S R T:aj} {w w':x2}
abbrev bi (S R:aj) (w:x2) (cs:List x1) (a:α):Prop:=am.rep true S R w cs a
abbrev Seen (R:aj) (w:x2) (cs:List x1) (a:α):Prop:=am.rep false (λ_=>False) R w cs a
abbrev ef:aj:=λ_=>True
theorem bg {a:α} (h:am.rep m S R w cs a) (I:Ext w w'):am.rep m S R w' cs a:=am.aa h (I.aa λ_=>False) λ_ _ _ h=>h
theorem kB {a:α} (h:am.rep m S R w cs a):am.rep m (λr=>S r/\r<w.heap.size) R w cs a:=am.mono h (λ_ h1 I=>⟨I,h1⟩) λ_ _ h=>h
theorem hE {a:α} (h:am.rep m S R w cs a):Seen ef w cs a:=am.mono (am.gJ h) (λ_ _ h=>h.elim) λ_ _ _=>trivial
theorem oO {a:α} {Q:aj} (h:am.rep m S R w cs a) (I:∀r,r<w.heap.size->S r\/R r->Q r):Seen Q w cs a:=am.mono (am.gJ h) (λ_ _ h=>h.elim) I
instance:am Int where
 n:=1
 rep _ _ _ _ cs a:=cs=[Δ a]
 len h:=by subst h;rfl
 one h:=by subst h;intro u hu;simp at hu;subst hu;rfl
 aa h _ _:=h
 mono h _ _:=h
 gJ h:=h
instance:am Bool where
 n:=1
 rep _ _ _ _ cs a:=cs=[.bool a]
 len h:=by subst h;rfl
 one h:=by subst h;intro u hu;simp at hu;subst hu;rfl
 aa h _ _:=h
 mono h _ _:=h
 gJ h:=h
instance:am ByteArray where
 n:=1
 rep _ _ _ _ cs a:=cs=[.string a]
 len h:=by subst h;rfl
 one h:=by subst h;intro u hu;simp at hu;subst hu;rfl
 aa h _ _:=h
 mono h _ _:=h
 gJ h:=h
def c4 (_:o6):Type:=Int
instance (k:o6):am (c4 k) where
 n:=1
 rep _ _ _ _ cs a:=cs=[.int k a]
 len h:=by subst h;rfl
 one h:=by subst h;intro u hu;simp at hu;subst hu;rfl
 aa h _ _:=h
 mono h _ _:=h
 gJ h:=h
def Rd (α:Type):Type:=α
instance Nb:am (Rd α) where
 n:=am.n α
 rep _ _ R w cs a:=am.rep (α:=α) false (λ_=>False) R w cs a
 len h:=am.len (α:=α) h
 one h:=am.one (α:=α) h
 aa h I J:=am.aa (α:=α) h I λr U h=>J r U (.inr (h.elim False.elim id))
 mono h _ V:=am.mono (α:=α) h (λ_ _ h=>h) V
 gJ h:=am.mono (α:=α) h (λ_ _ h=>h) λ_ _ h=>.inr h
instance Nc:am (α×β) where
 n:=am.n α+am.n β
 rep m S R w cs a:=∃c d A B,cs=c++d/\(∀r,A r->S r)/\(∀r,B r->S r)/\(m=true-> ∀r,A r->¬B r)/\am.rep m A R w c a.1/\am.rep m B R w d a.2
 len:=by
  rintro m S R w cs a ⟨c,d,A,B,rfl,_,_,_,h1,I⟩;simp[am.len h1,am.len I]
 one:=by
  rintro m S R w cs a ⟨c,d,A,B,rfl,_,_,_,h1,I⟩ u hu;rcases n9.1 hu with hu|hu
  .exact am.one h1 u hu
  .exact am.one I u hu
 aa:=by
  rintro m S R T w w' cs a ⟨c,d,A,B,rfl,U,V,X,h1,I⟩ Y W;exact⟨c,d,A,B,rfl,U,V,X,am.aa h1 Y λr J h=>W r J (h.imp (U r) id),am.aa I Y λr J h=>W r J (h.imp (V r) id)⟩
 mono:=by
  rintro m S S' R R' w cs a ⟨c,d,A,B,rfl,U,V,X,h1,I⟩ W ab;exact⟨c,d,λr=>A r/\r<w.heap.size,λr=>B r/\r<w.heap.size,rfl,λr h=>W r h.2 (U r h.1),λr h=>W r h.2 (V r h.1),λhm r h k=>X hm r h.1 k.1,
   am.mono h1 (λr J h=>⟨h,J⟩) ab,am.mono I (λr J h=>⟨h,J⟩) ab⟩
 gJ:=by
  rintro m S R w cs a ⟨c,d,A,B,rfl,U,V,X,h1,I⟩;exact⟨c,d,λ_=>False,λ_=>False,rfl,λ_ h=>h.elim,λ_ h=>h.elim,(λh=>by cases h),am.mono (am.gJ h1) (λ_ _ h=>h) λr _ h=>h.imp (U r) id,
   am.mono (am.gJ I) (λ_ _ h=>h) λr _ h=>h.imp (V r) id⟩
def kC (m:Bool) (R:aj) (F:Nat->aj) (w:x2) (vs:List (List x1)) (l:List α):Prop:=
 vs.length=l.length/\ ∀ (i:Nat) (c:List x1) (a:α),vs[i]? =σ c->l[i]? =σ a->am.rep m (F i) R w c a
structure xD (m:Bool) (S:aj) (g:Nat) (F:Nat->aj):Prop where
 sub:∀i r,F i r->S r
 top:m=true-> ∀i,¬F i g
 gM:m=true-> ∀i j r,i≠j->F i r->¬F j r
theorem kC.len {F:Nat->aj} {vs:List (List x1)} {l:List α} (h:kC m R F w vs l):∀c∈vs,c.length=am.n α:=by
 intro c I;obtain⟨i,hi,rfl⟩:=List.mem_iff_getElem.1 I;exact am.len (h.2 i _ _ (y0 hi) (y0 (h.1▸hi)))
theorem kC.one {F:Nat->aj} {vs:List (List x1)} {l:List α} (h:kC m R F w vs l):∀u∈vs.flatten,u.oneCell'=true:=by
 intro u hu;obtain⟨c,I,hu⟩:=List.mem_flatten.1 hu;obtain⟨i,hi,rfl⟩:=List.mem_iff_getElem.1 I;exact am.one (h.2 i _ _ (y0 hi) (y0 (h.1▸hi))) u hu
theorem ja {k:Nat}:∀ {vs:List (List x1)},(∀c∈vs,c.length=k)->vs.flatten.length=vs.length*k
 |[],_=>Ξ
 |c::r,h=>by
  have:=ja (vs:=r) λx I=>h x (.tail _ I);simp only[List.flatten_cons,u9,this,h c (.head _),j5,U5];omega
theorem mf {k:Nat}:∀ {vs:List (List x1)},(∀c∈vs,c.length=k)-> ∀ {i j:Nat} {c:List x1},vs[i]? =σ c->j<k->vs.flatten[i*k+j]? =c[j]?
 |J::r,h,0,j,c,I,U=>by
  simp only[List.getElem?_cons_zero,Y8] at I;subst I;rw[List.flatten_cons,j9 (by rw[h _ (.head _)];omega)];simp
 |J::r,h,i+1,j,c,I,U=>by
  simp only[List.getElem?_cons_succ] at I;have V:=h J (.head _);rw[List.flatten_cons,Z2 (by rw[V,U5];omega),V,U5,show i*k+1*k+j-k=i*k+j by omega];exact mf (λx W=>h x (.tail _ W)) I U
 |[],_,i,_,c,I,_=>by simp at I
instance instList:am (List α) where
 n:=1
 rep m S R w cs l:=∃v,cs=[v]/\ ∃ (vs:List (List x1)) (g:Nat) (F:Nat->aj),xD m S g F/\kC m R F w vs l/\hc (λr=>S r\/R r) w (am.n α) v l.length vs.flatten/\
  (m=true->(v= .slice ν 0 0\/S g)/\ ∃e,bU w g e (am.n α) v l.length vs.flatten)
 len:=by rintro m S R w cs a ⟨v,rfl,_⟩;rfl
 one:=by
  rintro m S R w cs a ⟨v,rfl,vs,g,F,_,_,⟨_,_,_,_,_,rfl,_⟩,_⟩ u hu;simp at hu;subst hu;rfl
 aa:=by
  rintro m S R T w w' cs a ⟨v,rfl,vs,g,F,U,he,I,hm⟩ ac W;refine⟨v,rfl,vs,g,F,U,⟨he.1,λi c a Y ab=>am.aa (he.2 i c a Y ab) ac λr V h=>W r V (h.imp (U.sub i r) id)⟩,I.aa ac W,λh=>?_⟩;obtain⟨h1,e,J⟩:=hm h;refine⟨h1,e,?_⟩;rcases h1 with rfl|h1
  .obtain⟨ae,⟨_,X⟩|⟨_,_,X,_⟩⟩:=J
   .exact⟨ae,.inl ⟨rfl,X⟩⟩
   .cases X
  .exact J.aa ac λV=>W g V (.inl h1)
 mono:=by
  rintro m S S' R R' w cs a ⟨v,rfl,vs,g,F,U,he,I,hm⟩ W ad;refine⟨v,rfl,vs,g,λi r=>F i r/\r<w.heap.size,⟨λi r h=>W r h.2 (U.sub i r h.1),λh i J=>U.top h i J.1,λh i j r af h1 J=>U.gM h i j r af h1.1 J.1⟩,
   ⟨he.1,λi c a Y ab=>am.mono (he.2 i c a Y ab) (λr V h=>⟨h,V⟩) ad⟩,I.mono λr V h=>h.imp (W r V) (ad r V),λh=>?_⟩
  obtain⟨h1,e,J⟩:=hm h;refine⟨?_,e,J⟩;obtain⟨_,⟨X,_⟩|⟨_,_,X,ag,_⟩⟩:=J
  .exact .inl X
  .rcases h1 with h1|h1
   .exact .inl h1
   .exact .inr (W g ag.lt h1)
 gJ:=by
  rintro m S R w cs a ⟨v,rfl,vs,g,F,U,he,I,hm⟩;exact⟨v,rfl,vs,g,λ_ _=>False,⟨λ_ _ h=>h,(λh=>by cases h),λh=>by cases h⟩,
   ⟨he.1,λi c a Y ab=>am.mono (am.gJ (he.2 i c a Y ab)) (λ_ _ h=>h) λr _ h=>h.imp (U.sub i r) id⟩,I.mono λr _ h=>.inr h,λh=>by cases h⟩
end
section
variable {P:W7} {w:x2} {α β:Type} [am α] [am β] {m:Bool} {S R:aj}
theorem gb {l:List α} (h:am.rep m S R w [v] l):∃ (vs:List (List x1)) (g:Nat) (F:Nat->aj),xD m S g F/\kC m R F w vs l/\hc (λr=>S r\/R r) w (am.n α) v l.length vs.flatten/\
  (m=true->(v= .slice ν 0 0\/S g)/\ ∃e,bU w g e (am.n α) v l.length vs.flatten):=by
 obtain⟨_,I,h⟩:=h;cases I;exact h
theorem gd {a:α} (h:am.rep m S R w [v] a):v.oneCell'=true:=am.one h v (.head _)
theorem jK {l:List α} (h:am.rep m S R w [v] l):v.cells= #[v]:=by
 obtain⟨_,_,_,_,_,⟨_,_,_,_,_,rfl,_⟩,_⟩:=gb h;rfl
theorem ns {l:List α} (h:am.rep m S R w [v] l):l.length<=9223372036854775807:=by
 obtain⟨_,_,_,_,_,h,_⟩:=gb h;have:=h.sl.le;simpa[maxLen] using this
theorem fx:am.rep m S R w [.slice ν 0 0] ([]:List α):=
 ⟨_,rfl,[],0,λ_ _=>False,⟨λ_ _ h=>h.elim,λ_ _ h=>h,λ_ _ _ _ _ h=>h.elim⟩,⟨rfl,λi c a I=>by simp at I⟩,
  ⟨Ξ,0,0,ν,0,rfl,o8 _,X3 _,λh=>absurd h (Nat.lt_irrefl _),λh=>by simp at h,λj v h=>by simp at h⟩,
  λ_=>⟨.inl rfl,0,bU.nil w 0 0 _⟩⟩
theorem xE {F:Nat->aj} {vs:List (List x1)} (h:kC m R F w vs l):vs.flatten=ints .i64 l:=by
 have:vs=l.map λx=>[V4 .i64 x]:=by
  apply List.ext_getElem
  .simp[h.1]
  .intro i h1 I;have J:i<l.length:=by simpa using I
   have:=h.2 i _ _ (y0 h1) (y0 J);rw[List.getElem_map];exact this
 subst this;clear h;induction l with
 |nil=>rfl
 |cons x l U=>simp only[S3,List.flatten_cons,U];rfl
theorem dZ (h:am.rep m S R w [v] l):aJ .i64 w v l:=by
 obtain⟨vs,g,F,_,he,I,_⟩:=gb h;have:=I.sl;rw[xE he] at this;exact this
theorem eP {I:r9} {l:List α} (U:P.underlying t=σ (.slice e)) (h:am.rep m S R w [v] l):
  J P (Y3 #[t] I #[v]) w K=K (Δ l.length):=by
 obtain⟨_,_,_,_,_,⟨_,_,_,_,_,rfl,_⟩,_⟩:=gb h;exact gw U
theorem jL {X:o6} {i b:Nat} {l:List α} {a:α} (Y:y=(i:Int)) (aa:P.underlying t=σ (.slice e)) (hi:aO P e (am.n α) b z)
  (h:am.rep m S R w [v] l) (I:l[i]? =σ a) (ab:∀b o cs,w.rangeAt b o cs->am.rep m S R w cs a->K (.pointer (σ ⟨b,o,ν⟩))):J P (n0 t v (.int X y)) w K:=by
 subst Y;obtain⟨vs,g,F,ac,he,⟨_,b,o,base,cap,rfl,_,_,ad,_,ae⟩,_⟩:=gb h;have U:=(x4.1 I).1;rw[fi aa hi U ad];obtain⟨c,V⟩:∃c,vs[i]? =σ c:=⟨_,y0 (by rw[he.1];exact U)⟩;have W:=he.2 i c a V I;have af:=am.len W;refine ab _ _ c (λj u hu=>?_) (am.mono W (λr _ h=>ac.sub i r h) λ_ _ h=>h);have ag:=(x4.1 hu).1;rw[S8];refine ae (i*am.n α+j) u ?_;rw[mf he.len V Ω];exact hu
theorem lm {V:o6} {i b:Nat} {l:List α} {a:α} (W:am.n α=1) (X:y=(i:Int)) (Y:P.underlying t=σ (.slice e)) (hi:aO P e (am.n α) b z)
  (h1:jI P e=true) (h:am.rep m S R w [v] l) (aa:l[i]? =σ a) (ab:∀u,am.rep m S R w [u] a->K u):
  J P (n0 t v (.int V y)) w λp=>J P (x6 e p) w K:=by
 refine jL X Y hi h aa λb o cs ac I=>?_;have U:=am.len I;rw[W] at U;obtain⟨u,rfl⟩:=X9.1 U;rw[ad h1 (by have:=ac 0 u rfl;simpa using this)];exact ab u I
theorem iy {pl:List (Nat×Nat)} {U:o6} {i b:Nat} {l:List α} {a:α} (hu:bx P e pl) (V:y=(i:Int)) (W:P.underlying t=σ (.slice e)) (hi:aO P e (am.n α) b z)
  (h:am.rep m S R w [v] l) (X:l[i]? =σ a) (Y:∀cs,am.rep m S R w cs a->K (.agg cs.toArray)):
  J P (n0 t v (.int U y)) w λp=>J P (x6 e p) w K:=by
 refine jL V W hi h X λb o cs aa I=>?_;rw[bn hu hi (am.len I) aa];exact Y cs I
theorem mg {g:Nat} {k:Nat} (h:bU w g e k v n xs) (J:v= .slice ν 0 0\/S g):hc S w k v n xs:=by
 obtain⟨h1,⟨rfl,rfl⟩|⟨cap,cs,rfl,U,V,W,Y,X⟩⟩:=h
 .have:xs=[]:=Z5 (by simpa using h1);subst this;exact⟨Ξ,0,0,ν,0,rfl,o8 _,X3 _,λh=>absurd h (Nat.lt_irrefl _),λh=>by simp at h,λj v h=>by simp at h⟩
 .refine⟨h1,g,0,_,cap,rfl,V,W,λ_=>rfl,λ_=>J.resolve_left Ξ,λj v I=>?_⟩;rw[V3];have aa:=(x4.1 I).1;rw[<-X,Y2 Ω] at I;exact U.cell I
open Classical in
theorem xF {ap av aw:r9} {b:Nat} {x:x1} {us:List (List x1)} {l l':List α} {G:Nat->aj} {K:x1->x2->Prop} (ax:P.underlying t=σ (.slice e)) (ay:P.underlying ap=σ (.slice av)) (hi:aO P e (am.n α) b z) (az:z.cells.size=am.n α)
  (h:bi S R w [v] l) (aB:bW w (am.n α) x l'.length us.flatten) (ah:kC true R G w us l') (aC:∀i j r,i≠j->G i r->¬G j r)
  (ad:∀r,r<w.heap.size->S r->(∀i,¬G i r)/\¬R r) (aD:(l.length+l'.length)*b<=140737488355328) (aE:l.length+l'.length<=9223372036854775807)
  (aF:∀U w',bi (λr=>S r\/(∃i,G i r)\/w.heap.size<=r) R w' [U] (l++l')->ag S w w'->K U w'):aA P (l9 #[t,ap] aw #[v,x]) w K:=by
 obtain⟨vs,g,F,Y,he,I,hm⟩:=gb h;obtain⟨ai,aK,aq⟩:=hm rfl;refine xz ax ay hi az aq aB ah.one aD (by simpa[maxLen] using aE) ?_;intro U ae w' aG aH ak al;have an:∀r,r=g/\v≠ .slice ν 0 0->S r:=λr ⟨h1,J⟩=>h1▸ai.resolve_left J;have aI:=aq;have ao:(U= .slice ν 0 0)\/(ae=g/\S g/\g<w.heap.size)\/ae=w.heap.size:=by
  rcases aH with⟨h1,_,J|J⟩|⟨h1,_⟩
  .rcases ai with W|W
   .exact .inl (J▸W)
   .obtain⟨_,⟨X,_⟩|⟨_,_,_,X,_⟩⟩:=aI
    .exact .inl (J▸X)
    .exact .inr (.inl ⟨h1,W,X.lt⟩)
  .exact .inr (.inl ⟨h1,ai.resolve_left J.2,J.1⟩)
  .exact .inr (.inr h1)
 refine aF U w' ⟨U,rfl,vs++us,if U= .slice ν 0 0 then w.heap.size else ae,λi r=>if i<l.length then F i r/\r<w.heap.size else G (i-l.length) r/\r<w.heap.size,⟨λi r h=>?_,λ_ i h=>?_,λ_ i j r aJ h1 J=>?_⟩,⟨by simp[he.1,ah.1],λi c a hi af=>?_⟩,?_,λ_=>⟨?_,aG,?_⟩⟩ (al.mono λr _ h=>an r h)
 .split at h
  .exact .inl (Y.sub i r h.1)
  .exact .inr (.inl ⟨_,h.1⟩)
 .have ab:(if U= .slice ν 0 0 then w.heap.size else ae)<w.heap.size:=by split at h<;>exact h.2
  split at ab
  .omega
  .rename_i V;rw[if_neg V] at h;rcases ao with h1|⟨rfl,J,W⟩|h1
   .exact V h1
   .split at h
    .exact Y.top rfl i h.1
    .exact (ad _ W J).1 _ h.1
   .omega
 .split at h1<;>split at J
  .exact Y.gM rfl i j r aJ h1.1 J.1
  .exact (ad r h1.2 (Y.sub i r h1.1)).1 _ J.1
  .exact (ad r h1.2 (Y.sub j r J.1)).1 _ h1.1
  .exact aC (i-l.length) (j-l.length) r Ω h1.1 J.1
 .have au:∀r,r<w.heap.size->R r->¬(r=g/\v≠ .slice ν 0 0):=λr ac h1 J=>(ad r ac (an r J)).2 h1;by_cases ab:i<l.length
  .rw[j9 (by rw[he.1];exact ab)] at hi;rw[j9 ab] at af;simp only[if_pos ab];refine am.aa (kB (he.2 i c a hi af)) al λr ac h1 J=>?_;rcases h1 with h1|h1
   .exact Y.top rfl i (J.1▸h1.1)
   .exact au r ac h1 J
  .rw[Z2 (by rw[he.1];omega),he.1] at hi;rw[Z2 Ω] at af;simp only[if_neg ab];refine am.aa (kB (ah.2 _ c a hi af)) al λr ac h1 J=>?_;rcases h1 with h1|h1
   .exact (ad r ac (an r J)).1 _ h1.1
   .exact au r ac h1 J
 .rw[u9,List.flatten_append];refine mg ak ?_;rcases ao with h1|⟨rfl,J,_⟩|rfl
  .exact .inl h1
  .exact .inr (.inl (.inl J))
  .exact .inr (.inl (.inr (.inr (o8 _))))
 .rcases ao with h1|⟨rfl,J,_⟩|rfl
  .exact .inl h1
  .by_cases V:U= .slice ν 0 0
   .exact .inl V
   .rw[if_neg V];exact .inr (.inl J)
  .split
   .exact .inr (.inr (.inr (o8 _)))
   .exact .inr (.inr (.inr (o8 _)))
 .rw[u9,List.flatten_append];by_cases V:U= .slice ν 0 0
  .subst V;obtain⟨W,⟨_,X⟩|⟨_,_,X,_⟩⟩:=ak
   .exact⟨W,.inl ⟨rfl,X⟩⟩
   .cases X
  .rw[if_neg V];exact ak
theorem mh {ac:r9} {b:Nat} {x:x1} {l:List α} {a:α} {A:aj} {K:x1->x2->Prop} (Y:P.underlying t=σ (.slice e)) (hi:aO P e (am.n α) b z) (ad:z.cells.size=am.n α)
  (h:bi S R w [v] l) (ae:bW w (am.n α) x 1 cs) (af:bi A R w cs a) (aa:∀r,r<w.heap.size->S r->¬(A r\/R r)) (J:(l.length+1)*b<=140737488355328) (ah:l.length+1<=9223372036854775807)
  (ai:∀U w',bi (λr=>S r\/A r\/w.heap.size<=r) R w' [U] (l++[a])->ag S w w'->K U w'):aA P (l9 #[t,t] ac #[v,x]) w K:=by
 refine xF (l':=[a]) (us:=[cs]) (G:=λi r=>i=0/\A r) Y Y hi ad h (by simpa using ae) ⟨rfl,λi c b V J=>?_⟩ (λi j r ak h1 W=>ak (h1.1.trans W.1.symm)) (λr ab I=>⟨λi h=>aa r ab I (.inl h.2),λh=>aa r ab I (.inr h)⟩) (by simpa using J) (by simpa using ah)
  λU w' h1 W=>ai U w' (am.mono h1 (λr _ h=>h.imp id (Or.imp (λ⟨_,h⟩=>h.2) id)) λ_ _ h=>h) W
 have X:=(x4.1 V).1;have X:i=0:=by simpa using X
 subst X;simp at V J;subst V J;exact am.mono af (λr _ h=>⟨rfl,h⟩) λ_ _ h=>h
end
theorem xG:∀ (c:List x1) (i:Nat) (z:Array x1),(i+c.length<=z.size)->((c.zipIdx i).foldl (λcs (x:x1×Nat)=>cs.setIfInBounds x.2 x.1) z).toList=z.toList.take i++c++z.toList.drop (i+c.length)
 |[],i,z,h=>Ξ
 |x::r,i,z,h=>by
  simp only[j5] at h;rw[List.zipIdx_cons,List.foldl_cons,xG r (i+1) _ Θ];simp only[Array.toList_setIfInBounds,j5];rw[List.drop_set_of_lt Ω,List.take_set,r8,y0 Θ];simp only[Z4];rw[U9 _ _ Θ];have e:i-(z.toList.take i).length=0:=Θ
  rw[e,show i+1+r.length=i+(r.length+1) by omega];simp
theorem xH {k:Nat} {z:Array x1} (I:z.size=k) (J:v.cells.size=k):Instr.fill (λj=>σ (j*k,k)) z [(0,v)]=σ v.cells:=by
 have h:=xG v.cells.toList 0 z Θ;simp only[Instr.fill,Nat.zero_mul,V3];rw[if_neg Θ];congr 1;apply Array.toList_inj.1;rw[<-Array.foldl_toList,Array.toList_zipIdx,h];simp;omega
section
variable {P:W7} {w:x2} {α β:Type} [am α] [am β] {m:Bool} {S R:aj}
theorem gN {b:Nat} {x:x1} {a:α} {A:aj} {K:x1->x2->Prop} (Y:P.underlying t=σ (.slice e)) (hi:aO P e (am.n α) b z) (ah:am.n α<=100000)
  (U:x.cells=cs.toArray) (V:bi A R w cs a)
  (aa:∀v w',Ext w w'->bi (λr=>A r\/w.heap.size<=r) R w' [v] [a]->bW w' (am.n α) v 1 cs->K v w'):aA P (Z7 t 1 #[(0,x)]) w K:=by
 have ab:=am.len V;refine iw Y hi Ω (cs:=x.cells) (xH Ξ (by rw[U];simpa using ab)) λg w' ai W I=>?_;have I:af w' g e cs:=by rw[U] at I;simpa using I
 have hm:bU w' g e (am.n α) (.slice (σ ⟨g,0,ν⟩) 1 1) 1 cs:=bU.full I Ω (by simp[maxLen]);refine aa _ w' W ⟨_,rfl,[cs],g,λi r=>i=0/\A r/\r<w.heap.size,⟨λi r h=>.inl h.2.1,λ_ i h=>Ω,λ_ i j r ac h1 ad=>ac (h1.1.trans ad.1.symm)⟩,⟨rfl,λi c a' J X=>?_⟩,?_,λ_=>⟨.inr (.inr Ω),e,by simpa using hm⟩⟩ hm.sl
 .have ae:i=0:=by simpa using (x4.1 J).1
  subst ae;simp at J X;subst J X;exact bg (am.mono V (λr ag h=>⟨rfl,h,ag⟩) λ_ _ h=>h) W
 .have:=mg (S:=λr=>(A r\/w.heap.size<=r)\/R r) hm (.inr (.inl (.inr Ω)));simpa using this
end
theorem bP.range {B:x1->x2->(x1->x2->Prop)->Prop} (n:Nat) (I:Nat->x2->Prop)
  (X:n<=9223372036854775807) (U:I 0 w)
  (V:∀ (i:Nat) (w:x2) (k:x1->x2->Prop),i<n->I i w->(∀w',I (i+1) w'->k (Δ (Y6.wrap ((i:Int)+1))) w')->B (Δ (i:Int)) w k)
  (W:∀ (w:x2) (k:x1->x2->Prop),I n w->B (Δ (n:Int)) w k):bP (Δ 0) w B:=by
 refine⟨λt w=>∃i:Nat,t=Δ (i:Int)/\i<=n/\I i w,λt _=>n-(bO t).toNat,⟨0,rfl,X3 _,U⟩,?_⟩;rintro _ w ⟨i,rfl,hi,h⟩;by_cases J:i<n
 .refine V i w _ J h λw' h'=>⟨⟨i+1,?_,J,h'⟩,?_⟩
  .rw[wrap_i64 Ω Ω];rfl
  .rw[wrap_i64 Ω Ω];simp only[bO];omega
 .have:i=n:=Ω
  subst this;exact W w _ h
theorem bE.range {a:x1} {B:x1->x1->x2->(x1->x1->x2->Prop)->Prop} (n:Nat) (I:Nat->x1->x2->Prop)
  (X:n<=9223372036854775807) (U:I 0 a w)
  (V:∀ (i:Nat) (a:x1) (w:x2) (k:x1->x1->x2->Prop),i<n->I i a w->(∀a' w',I (i+1) a' w'->k a' (Δ (Y6.wrap ((i:Int)+1))) w')->B a (Δ (i:Int)) w k)
  (W:∀ (a:x1) (w:x2) (k:x1->x1->x2->Prop),I n a w->B a (Δ (n:Int)) w k):bE a (Δ 0) w B:=by
 refine⟨λa t w=>∃i:Nat,t=Δ (i:Int)/\i<=n/\I i a w,λa t _=>n-(bO t).toNat,⟨0,rfl,X3 _,U⟩,?_⟩;rintro a _ w ⟨i,rfl,hi,h⟩;by_cases J:i<n
 .refine V i a w _ J h λa' w' h'=>⟨⟨i+1,?_,J,h'⟩,?_⟩
  .rw[wrap_i64 Ω Ω];rfl
  .rw[wrap_i64 Ω Ω];simp only[bO];omega
 .have:i=n:=Ω
  subst this;exact W a w _ h
theorem k7.range {a b:x1} {B:x1->x1->x1->x2->(x1->x1->x1->x2->Prop)->Prop} (n:Nat) (I:Nat->x1->x1->x2->Prop)
  (Y:n<=9223372036854775807) (V:I 0 a b w)
  (W:∀ (i:Nat) (a b:x1) (w:x2) (k:x1->x1->x1->x2->Prop),i<n->I i a b w->(∀a' J w',I (i+1) a' J w'->k a' J (Δ (Y6.wrap ((i:Int)+1))) w')->B a b (Δ (i:Int)) w k)
  (X:∀ (a b:x1) (w:x2) (k:x1->x1->x1->x2->Prop),I n a b w->B a b (Δ (n:Int)) w k):k7 a b (Δ 0) w B:=by
 refine⟨λa b t w=>∃i:Nat,t=Δ (i:Int)/\i<=n/\I i a b w,λa b t _=>n-(bO t).toNat,⟨0,rfl,X3 _,V⟩,?_⟩;rintro a b _ w ⟨i,rfl,hi,h⟩;by_cases U:i<n
 .refine W i a b w _ U h λa' J w' h'=>⟨⟨i+1,?_,U,h'⟩,?_⟩
  .rw[wrap_i64 Ω Ω];rfl
  .rw[wrap_i64 Ω Ω];simp only[bO];omega
 .have:i=n:=Ω
  subst this;exact X a b w _ h
theorem qg.range {a b c:x1} {B:x1->x1->x1->x1->x2->(x1->x1->x1->x1->x2->Prop)->Prop} (n:Nat) (I:Nat->x1->x1->x1->x2->Prop)
  (aa:n<=9223372036854775807) (W:I 0 a b c w)
  (X:∀ (i:Nat) (a b c:x1) (w:x2) (k:x1->x1->x1->x1->x2->Prop),i<n->I i a b c w->(∀a' J U w',I (i+1) a' J U w'->k a' J U (Δ (Y6.wrap ((i:Int)+1))) w')->B a b c (Δ (i:Int)) w k)
  (Y:∀ (a b c:x1) (w:x2) (k:x1->x1->x1->x1->x2->Prop),I n a b c w->B a b c (Δ (n:Int)) w k):qg a b c (Δ 0) w B:=by
 refine⟨λa b c t w=>∃i:Nat,t=Δ (i:Int)/\i<=n/\I i a b c w,λa b c t _=>n-(bO t).toNat,⟨0,rfl,X3 _,W⟩,?_⟩;rintro a b c _ w ⟨i,rfl,hi,h⟩;by_cases V:i<n
 .refine X i a b c w _ V h λa' J U w' h'=>⟨⟨i+1,?_,V,h'⟩,?_⟩
  .rw[wrap_i64 Ω Ω];rfl
  .rw[wrap_i64 Ω Ω];simp only[bO];omega
 .have:i=n:=Ω
  subst this;exact Y a b c w _ h
theorem m8.range {a b c d:x1} {B:x1->x1->x1->x1->x1->x2->(x1->x1->x1->x1->x1->x2->Prop)->Prop} (n:Nat) (I:Nat->x1->x1->x1->x1->x2->Prop)
  (ab:n<=9223372036854775807) (X:I 0 a b c d w)
  (Y:∀ (i:Nat) (a b c d:x1) (w:x2) (k:x1->x1->x1->x1->x1->x2->Prop),i<n->I i a b c d w->(∀a' J U V w',I (i+1) a' J U V w'->k a' J U V (Δ (Y6.wrap ((i:Int)+1))) w')->B a b c d (Δ (i:Int)) w k)
  (aa:∀ (a b c d:x1) (w:x2) (k:x1->x1->x1->x1->x1->x2->Prop),I n a b c d w->B a b c d (Δ (n:Int)) w k):m8 a b c d (Δ 0) w B:=by
 refine⟨λa b c d t w=>∃i:Nat,t=Δ (i:Int)/\i<=n/\I i a b c d w,λa b c d t _=>n-(bO t).toNat,⟨0,rfl,X3 _,X⟩,?_⟩;rintro a b c d _ w ⟨i,rfl,hi,h⟩;by_cases W:i<n
 .refine Y i a b c d w _ W h λa' J U V w' h'=>⟨⟨i+1,?_,W,h'⟩,?_⟩
  .rw[wrap_i64 Ω Ω];rfl
  .rw[wrap_i64 Ω Ω];simp only[bO];omega
 .have:i=n:=Ω
  subst this;exact aa a b c d w _ h
section
variable {P:W7} {w:x2} {m:Bool} {S R:aj}
theorem FC (l:Λ):(l.map λx=>[V4 k x]).flatten=ints k l:=by
 induction l with
 |nil=>rfl
 |cons x l I=>simp only[S3,List.flatten_cons,I];rfl
theorem mi {g:Nat} (h:au .i64 e w g v l):bi (λr=>r=g) R w [v] l:=by
 have J:(l.map λx=>[V4 .i64 x]).flatten=ints .i64 l:=FC l;refine⟨v,rfl,l.map λx=>[Δ x],g,λ_ _=>False,⟨λ_ _ h=>h.elim,λ_ _ h=>h,λ_ _ _ _ _ h=>h.elim⟩,⟨Ξ,λi c a I U=>?_⟩,?_,λ_=>⟨.inr rfl,e,?_⟩⟩
 .rw[x8,U] at I;simp at I;exact I.symm
 .rw[J];exact mg h (.inr (.inl rfl))
 .rw[J];exact h
def c4.val (x:c4 k):Int:=x
theorem FD (h:bi S R w [v] l):∃g e,au .i64 e w g v l/\(v= .slice ν 0 0\/S g):=by
 obtain⟨vs,g,F,_,he,I,hm⟩:=gb h;obtain⟨h1,e,J⟩:=hm rfl;rw[xE he] at J;exact⟨g,e,J,h1⟩
end
end Go.Vc
namespace Go.Proofs.YtgbkinibgjmodaaGreatDoor
open Go Go.Vc Go.RowKit Go.Proofs Go.Proofs.Tryz
set_option maxRecDepth 100000
def right (k:Int):Prop:=1<=k/\k<=2147483648
def cQ (a k:Int):Prop:=right k/\0<=a/\a<=k
instance (k:Int):Decidable (right k):=by unfold right;infer_instance
instance (a k:Int):Decidable (cQ a k):=by unfold cQ;infer_instance
theorem xI {k:Int}:ak x3 EK [Δ k] w λv w'=>v= .bool (decide (right k))/\Ext w w':=by
 refine aB func226 ?_;simp only[bB,ce,l4,ae];refine⟨λh=>⟨?_,Ext.refl _⟩,λh=>⟨?_,Ext.refl _⟩⟩
 .congr 1;simp[right,h]
 .rw[decide_eq_false];intro I;exact h I.1
theorem kD {k:Int}:ak x3 D8 [Δ a,Δ k] w λv w'=>v= .bool (decide (cQ a k))/\Ext w w':=by
 refine aB func167 ?_;simp only[bB];refine xI.mono ?_;rintro _ U _ ⟨rfl,I⟩;simp only[ce,l4,ae];refine⟨λh=>⟨λJ=>⟨?_,I⟩,λJ=>⟨?_,I⟩⟩,λh=>⟨?_,I⟩⟩
 .congr 1;simp[cQ,h,J]
 .rw[decide_eq_false];intro V;exact J V.2.1
 .rw[decide_eq_false];intro V;exact h V.1
theorem FE {k:Int}:ak x3 D9 [Δ k] w λv w'=>v= .bool (decide (right k))/\Ext w w':=by
 refine aB func168 ?_;simp only[bB,bR,l4,ae];refine⟨λh=>⟨?_,Ext.refl _⟩,λh=>⟨?_,Ext.refl _⟩⟩
 .congr 1;have h':1<=k:=Ω
  simp[right,h']
 .rw[decide_eq_false];intro I;have:=I.1;omega
theorem FF {k:Int}:ak x3 wW [Δ a,Δ k] w λv w'=>v= .bool (decide (cQ a k))/\Ext w w':=by
 refine aB func83 ?_;simp only[bB];refine FE.mono ?_;rintro _ U _ ⟨rfl,I⟩;simp only[ce,l4,ae];refine⟨λh=>⟨λJ=>⟨?_,I⟩,λJ=>⟨?_,I⟩⟩,λh=>⟨?_,I⟩⟩
 .congr 1;simp[cQ,h,J]
 .rw[decide_eq_false];intro V;exact J V.2.1
 .rw[decide_eq_false];intro V;exact h V.1
def aM:Λ->Int
 |[]=>1
 |x::r=>x*aM r
theorem xJ:∀ (a b:Λ),aM (a++b)=aM a*aM b
 |[],b=>by simp[aM]
 |x::a,b=>by simp[aM,xJ a b,Int.mul_assoc]
theorem jM {i:Nat} {x:Int} (h:l[i]? =σ x):aM (l.take (i+1))=aM (l.take i)*x:=by
 rw[r8,h,xJ];simp[aM]
def bS (l:Λ):Prop:=l.length<=6/\ ∀x∈l,1<=x/\x<=32
theorem bS.take (h:bS l) (i:Nat):bS (l.take i):=⟨by rw[o4];have:=h.1;omega,λx I=>h.2 x (U3 I)⟩
theorem bS.drop (h:bS l) (i:Nat):bS (l.drop i):=⟨by rw[R5];have:=h.1;omega,λx I=>h.2 x (List.mem_of_mem_drop I)⟩
theorem oP:∀ (l:Λ),(∀x∈l,1<=x/\x<=32)->1<=aM l/\aM l<=32 ^ l.length
 |[],_=>by simp[aM]
 |x::r,h=>by
  obtain⟨h1,I⟩:=oP r λy J=>h y (.tail _ J);obtain⟨U,V⟩:=h x (.head _);simp only[aM,j5];constructor
  .have:=Int.mul_le_mul U h1 Ω Ω;simpa using this
  .have:=Int.mul_le_mul V I Ω Ω;rw[Int.pow_succ];rw[Int.mul_comm (32 ^ r.length) 32];exact this
theorem prod_bound (h:bS l):1<=aM l/\aM l<=1073741824:=by
 obtain⟨h1,I⟩:=oP l h.2;refine⟨h1,Int.le_trans I ?_⟩;have:(32:Int) ^ l.length<=32 ^ 6:=by
  have J:=h.1
  match l.length,J with
  |0,_=>decide
  |1,_=>decide
  |2,_=>decide
  |3,_=>decide
  |4,_=>decide
  |5,_=>decide
  |6,_=>decide
 simpa using this
def ct:Λ->Λ->Int->Option Int
 |[],[],n=>σ n
 |k::s,v::t,n=>if 0<=v/\v<k then ct s t (n*k+v) else ν
 |_,_,_=>ν
theorem tk:∀ (s t:Λ) (n:Int),s.length≠t.length->ct s t n=ν
 |[],[],_,h=>absurd rfl h
 |[],_::_,_,_=>rfl
 |_::_,[],_,_=>rfl
 |k::s,v::t,n,h=>by
  unfold ct;split
  .exact tk s t _ (by simpa using h)
  .rfl
def cF:Λ->Int->Λ
 |[],_=>[]
 |k::s,n=>(n / aM s) % k::cF s n
theorem h8:∀ (s:Λ) (n:Int),(cF s n).length=s.length
 |[],_=>rfl
 |_::s,n=>by simp[cF,h8 s n]
theorem xK:∀ {s:Λ} {n:Int} {i:Nat} {k:Int},s[i]? =σ k->(cF s n)[i]? =σ ((n / aM (s.drop (i+1))) % k)
 |I::s,n,0,k,h=>by simp at h;subst h;simp[cF]
 |I::s,n,i+1,k,h=>by
  simp only[List.getElem?_cons_succ] at h;simp only[cF,List.getElem?_cons_succ,List.drop_succ_cons];exact xK h
theorem mj:∀ {s t:Λ} {m n:Int},(∀x∈s,1<=x/\x<=32)->ct s t m=σ n->m*aM s<=n/\n<(m+1)*aM s
 |[],[],m,n,_,h=>by simp[ct] at h;subst h;simp[aM];omega
 |k::s,v::t,m,n,I,h=>by
  unfold ct at h;split at h
  .rename_i X;have U:=mj (λx J=>I x (.tail _ J)) h;have Y:=(oP s λx J=>I x (.tail _ J)).1;simp only[aM];have V:m*(k*aM s)=m*k*aM s:=(Int.mul_assoc _ _ _).symm;have W:(m+1)*(k*aM s)=(m*k+k)*aM s:=by rw[<-Int.mul_assoc,Int.add_mul,Int.one_mul]
   rw[V,W];constructor
   .refine Int.le_trans ?_ U.1;exact Int.mul_le_mul_of_nonneg_right Ω Ω
   .refine Int.lt_of_lt_of_le U.2 ?_;exact Int.mul_le_mul_of_nonneg_right Ω Ω
  .cases h
 |[],_::_,_,_,_,h=>by cases h
 |_::_,[],_,_,_,h=>by cases h
def bm:Λ->List (Λ)
 |[]=>[[]]
 |k::s=>(W3 k.toNat).flatMap λ(v:Nat)=>(bm s).map λt=>(v:Int)::t
theorem hd:∀ {s:Λ},(∀x∈s,1<=x/\x<=32)->(bm s).length=(aM s).toNat
 |[],_=>rfl
 |k::s,h=>by
  have J:=hd (s:=s) λx I=>h x (.tail _ I);have U:=h k (.head _);have V:=(oP s λx I=>h x (.tail _ I)).1;simp only[bm,aM,List.length_flatMap,u4,J];rw[List.map_const',List.length_range,List.sum_replicate_nat,Int.toNat_mul Ω Ω]
theorem tl:∀ {s x:Λ},x∈bm s->x.length=s.length
 |[],x,h=>by simp[bm] at h;subst h;rfl
 |k::s,x,h=>by
  simp only[bm,List.mem_flatMap,Z1] at h;obtain⟨v,_,t,I,rfl⟩:=h;simp[tl I]
theorem xL {s x:Λ} (h:(bm s)[j]? =σ x):x.length=s.length:=tl (x5 h)
theorem tm (h:aJ .i64 w sv l) (I:bS l):
  ak x3 wZ [sv] w λv w'=>v=Δ (aM l)/\Ext w w':=by
 refine aB func87 ?_;rw[aT ai.u h];refine⟨λn t U=>Ext w U/\ ∃i:Nat,t=Δ i/\i<=l.length/\n=Δ (aM (l.take i)),λ_ t _=>l.length-(bO t).toNat,⟨Ext.refl _,0,rfl,X3 _,rfl⟩,?_⟩;rintro _ _ U ⟨J,i,rfl,hi,rfl⟩;have X:=I.1;simp only[aq,ae];refine⟨λY=>?_,λaa=>⟨?_,J⟩⟩
 .obtain⟨x,V⟩:∃x,l[i]? =σ x:=⟨_,y0 Ω⟩;rw[bd ai.u ab.i Ψ (h.ext J) V];have W:=prod_bound (I.take (i+1));rw[jM V] at W;simp only[fv,aN];rw[wrap_i64 Ω Ω,wrap_i64 Ω Ω,<-jM V];refine⟨⟨J,i+1,rfl,Ω,rfl⟩,?_⟩;simp only[bO];omega
 .have:i=l.length:=Ω
  rw[this,o9]
theorem nt (h:aJ .i64 w sv l) (I:bS l):
  ak x3 Ed [.agg #[sv]] w λv w'=>v=Δ (aM l)/\Ext w w':=by
 refine aB func173 ?_;refine bN λg w0 aa W X=>?_;rw[ac bq.p rfl,ad Ψ (X.Q0 rfl),aT ai.u (h.ext W)];refine⟨λn t U=>Ext w U/\ ∃i:Nat,t=Δ i/\i<=l.length/\n=Δ (aM (l.take i)),λ_ t _=>l.length-(bO t).toNat,⟨W,0,rfl,X3 _,rfl⟩,?_⟩;rintro _ _ U ⟨J,i,rfl,hi,rfl⟩;have af:=I.1;simp only[aq,ae];refine⟨λag=>?_,λah=>⟨?_,J⟩⟩
 .obtain⟨x,V⟩:∃x,l[i]? =σ x:=⟨_,y0 Ω⟩;rw[bd ai.u ab.i Ψ (h.ext J) V];have Y:=prod_bound (I.take (i+1));rw[jM V] at Y;simp only[fv,aN];rw[wrap_i64 Ω Ω,wrap_i64 Ω Ω,<-jM V];refine⟨⟨J,i+1,rfl,Ω,rfl⟩,?_⟩;simp only[bO];omega
 .have:i=l.length:=Ω
  rw[this,o9]
theorem FG {i:Nat} (h:aJ .i64 w sv l) (I:bS l) (hi:i<l.length):
  ak x3 EO [.agg #[sv],Δ i] w λv w'=>v=Δ (aM (l.drop (i+1)))/\Ext w w':=by
 have aj:=I.1;refine aB func240 ?_;refine bN λg w0 al W X=>?_;have J:=h.ext W;simp only[bB,aq,ae];refine⟨λam=>Ω,λ_=>?_⟩;rw[ac bq.p rfl,ad Ψ (X.Q0 rfl),aT ai.u J];simp only[ce,ae];refine⟨λan=>Ω,λ_=>?_⟩;rw[ac bq.p rfl,ad Ψ (X.Q0 rfl)];simp only[aN];have Y:Y6.wrap ((i:Int)+1)=((i+1:Nat):Int):=by rw[wrap_i64 Ω Ω];omega
 rw[Y];have aa:=J;obtain⟨_,b,o,base,cap,rfl,ao,ap,au,av⟩:=id J;rw[fw ai.u ab.i (l:=i+1) (h:=l.length) (m:=cap) l6 hC ez Ω Ω Ω];have U:=bW.part (l:=i+1) (h:=l.length) (m:=cap) aa Ω Ω Ω Ω;generalize af:(x1.slice (if cap=i+1 then base else U1 (λx=>x.add ((i+1)*1)) base) (l.length-(i+1)) (cap-(i+1)))=q at U ⊢;have ag:((ints .i64 l).drop ((i+1)*1)).take ((l.length-(i+1))*1)=ints .i64 (l.drop (i+1)):=by
  rw[l5 Ξ,T5,ints,<-List.map_drop]
 rw[ag] at U;rw[cW (cs:=#[q]) (by subst af;kernel_rfl)];refine (nt (aJ.of U) (I.drop (i+1))).mono ?_;rintro _ V _ ⟨rfl,ah⟩;exact⟨rfl,W.trans ah⟩
def jN (s t:Λ):x1:=match ct s t 0 with
 |some n=>.tuple #[Δ n,Δ 0]
 |none=>.tuple #[Δ 0,Δ 3]
theorem xM {s t:Λ} (h:aJ .i64 w sv s) (aa:aJ .i64 w aE t) (I:bS s):
  ak x3 Eo [.agg #[sv],aE] w λv w'=>v=jN s t/\Ext w w':=by
 have au:=I.1;refine aB func194 ?_;refine bN λg w0 av V af=>?_;rw[aT ai.u (aa.ext V),ac bq.p rfl,ad Ψ (af.Q0 rfl),aT ai.u (h.ext V)];simp only[bG,ae];refine⟨λaw=>⟨?_,V⟩,λah=>?_⟩
 .unfold jN;rw[tk _ _ _ Ω]
 .have ah:s.length=t.length:=Ω
  rw[aT ai.u (aa.ext V)];refine⟨λ_ _ n c U=>Ext w0 U/\ ∃ (i:Nat) (m:Int),c=Δ i/\i<=t.length/\n=Δ m/\0<=m/\m<aM (s.take i)/\ct s t 0=ct (s.drop i) (t.drop i) m,λ_ _ _ c _=>t.length-(bO c).toNat,
   ⟨Ext.refl _,0,0,rfl,X3 _,rfl,Int.le_refl _,by simp[aM],rfl⟩,?_⟩
  rintro _ _ _ _ U ⟨Y,i,m,rfl,hi,rfl,aj,ax,W⟩;have J:=V.trans Y;simp only[aq,ae];refine⟨λay=>?_,λaz=>⟨?_,J⟩⟩
  .obtain⟨v,al,am⟩:∃v,t[i]? =σ v/\t.drop i=v::t.drop (i+1):=⟨t[i],y0 Ω,V0 Ω⟩;obtain⟨k,X,an⟩:∃k,s[i]? =σ k/\s.drop i=k::s.drop (i+1):=⟨s[i],y0 Ω,V0 Ω⟩;rw[am,an] at W;have ao:=prod_bound (I.take (i+1));have aA:=prod_bound (I.take i);have aC:=I.2 k (x5 X);rw[jM X] at ao;have ag:¬(0<=v/\v<k)->jN s t= .tuple #[Δ 0,Δ 3]:=λap=>by unfold jN;rw[W];simp[ct,ap]
   rw[bd ai.u ab.i Ψ (aa.ext J) al];simp only[bB,aq,ae,bQ];refine⟨λaD=>⟨(ag Ω).symm,J⟩,λaF=>?_⟩;rw[ac bq.p rfl,ad Ψ ((af.ext Y).Q0 rfl),bd ai.u ab.i Ψ (h.ext J) X];simp only[ce,ae];refine⟨λaG=>⟨(ag Ω).symm,J⟩,λaH=>?_⟩;rw[ac bq.p rfl,ad Ψ ((af.ext Y).Q0 rfl),bd ai.u ab.i Ψ (h.ext J) X];have aI:0<=m*k/\m*k+k<=aM (s.take i)*k:=by
    constructor
    .exact Int.mul_nonneg aj Ω
    .have:=Int.mul_le_mul_of_nonneg_right (show m+1<=aM (s.take i) by omega) (show 0<=k by omega);rw[Int.add_mul,Int.one_mul] at this;exact this
   simp only[fv,aN];rw[wrap_i64 (x:=m*k) Ω Ω,wrap_i64 (x:=m*k+v) Ω Ω,wrap_i64 (x:=(i:Int)+1) Ω Ω];refine⟨⟨Y,i+1,m*k+v,rfl,Ω,rfl,Ω,by rw[jM X];omega,?_⟩,?_⟩
   .rw[W];simp[ct,show 0<=v/\v<k from⟨Ω,Ω⟩]
   .simp only[bO];omega
  .have:i=t.length:=Ω
   rw[this,List.drop_of_length_le Ω,List.drop_of_length_le Ω] at W;unfold jN;rw[W];rfl
theorem FH {ag:x1} {a b:Λ} (h1:bW w 1 s1 I (ints .i64 a)) (ah:bW w 1 ag X (ints .i64 b)):
  ak x3 w2 [s1,ag] w λv w'=>v= .bool (decide (a=b))/\Ext w w':=by
 have az:a.length=I:=by simpa using h1.1
 have aA:b.length=X:=by simpa using ah.1
 have aj:=h1.le;obtain⟨_,aC,aD,aE,aF,rfl,aG,aH,an,ao⟩:=h1;obtain⟨_,aI,aJ,aK,aL,rfl,aM,aO,ap,au⟩:=ah;refine aB func116 ?_;simp only[gw ai.u,bG,ae];refine⟨λal=>⟨?_,Ext.refl _⟩,λam=>?_⟩
 .rw[decide_eq_false];rintro rfl;omega
 .have am:I=X:=Ω
  refine⟨λt4 Y U=>Ext w U/\ ∃i:Nat,Y=Δ i/\i<=I/\a.take i=b.take i,λ_ Y _=>I-(bO Y).toNat,⟨Ext.refl _,0,rfl,X3 _,rfl⟩,?_⟩;rintro t4 _ U ⟨J,i,rfl,hi,aa⟩;simp only[aq,ae,cm];refine⟨λac V av _ _=>?_,λaP=>⟨?_,J⟩⟩
  .have ac:i<I:=Ω
   have J:=J.trans av;obtain⟨x,af⟩:∃x,a[i]? =σ x:=⟨_,y0 Ω⟩;obtain⟨y,W⟩:∃y,b[i]? =σ y:=⟨_,y0 Ω⟩;have aw:=l3 J (ao i _ (jJ af));have ax:=l3 J (au i _ (jJ W));rw[fi ai.u ab.i ac an,T5,ad Ψ aw,fi ai.u ab.i (am▸ac) ap,T5,ad Ψ ax];simp only[bG,ae,aN];refine⟨λal=>⟨?_,J⟩,λaQ=>⟨⟨J,i+1,?_,Ω,ti aa af W Ω⟩,?_⟩⟩
   .rw[decide_eq_false];rintro rfl;rw[af] at W;cases W;exact al rfl
   .rw[wrap_i64 Ω (by simp only[maxLen] at aj;omega)];rfl
   .rw[wrap_i64 Ω (by simp only[maxLen] at aj;omega)];simp only[bO];omega
  .have ay:i=I:=Ω
   subst ay;rw[decide_eq_true];rw[l5 Ω,l5 Ω] at aa;exact aa
theorem FI {s:x1} {a:Λ} (h1:bW w 1 s n (ints .i64 a)) (af:n<=1000000):
  ak x3 qA [s] w λv w'=>Ext w w'/\ ∃g,w.heap.size<=g/\bU w' g ab 1 v n (ints .i64 a):=by
 have W:=h1;obtain⟨X,ag,ah,aj,al,rfl,am,an,Y,ao⟩:=h1;refine aB func22 ?_;simp only[qN ai.u,bD];refine⟨λJ=>⟨Ext.refl _,w.heap.size,o8 _,?_⟩,λ_=>?_⟩
 .have:n=0:=by
   rcases Nat.eq_zero_or_pos n with h|h
   .exact h
   .rw[Y h] at J;cases J
  subst this;have:ints .i64 a=[]:=Z5 (by simpa using X);rw[this];exact bU.nil _ _ _ _
 .refine iw ai.u ab.i Ω (cs:=#[]) Ψ ?_;intro g U ap I aa;refine me (g:=g) ai.u ai.u ab.i rfl (bU.full aa rfl Ω) (W.ext I) (oN _ _) Ω (by simp only[maxLen];omega) ?_;intro aq ac V au ad ae;refine⟨I.then ae (by rintro r av rfl;omega),ac,?_,?_⟩
  .have:=I.size;omega
  .simpa using ad
theorem FJ {af:x1} {a b:Λ} (h1:bW w 1 s1 I (ints .i64 a)) (ag:bW w 1 af X (ints .i64 b)):
  ak x3 wO [s1,af] w λv w'=>v= .bool (decide (a=b))/\Ext w w':=by
 have az:a.length=I:=by simpa using h1.1
 have aA:b.length=X:=by simpa using ag.1
 have ah:=h1.le;obtain⟨_,aC,aD,aE,aF,rfl,aG,aH,al,am⟩:=h1;obtain⟨_,aI,aJ,aK,aL,rfl,aM,aO,an,ap⟩:=ag;refine aB func42 ?_;simp only[gw aw.u,bG,ae];refine⟨λai=>⟨?_,Ext.refl _⟩,λaj=>?_⟩
 .rw[decide_eq_false];rintro rfl;omega
 .have aj:I=X:=Ω
  refine⟨λt4 Y U=>Ext w U/\ ∃i:Nat,Y=Δ i/\i<=I/\a.take i=b.take i,λ_ Y _=>I-(bO Y).toNat,⟨Ext.refl _,0,rfl,X3 _,rfl⟩,?_⟩;rintro t4 _ U ⟨J,i,rfl,hi,aa⟩;simp only[aq,ae,cm];refine⟨λab V au _ _=>?_,λaP=>⟨?_,J⟩⟩
  .have ab:i<I:=Ω
   have J:=J.trans au;obtain⟨x,ac⟩:∃x,a[i]? =σ x:=⟨_,y0 Ω⟩;obtain⟨y,W⟩:∃y,b[i]? =σ y:=⟨_,y0 Ω⟩;have av:=l3 J (am i _ (jJ ac));have ax:=l3 J (ap i _ (jJ W));rw[fi aw.u ao.i ab al,T5,ad Ψ av,fi aw.u ao.i (aj▸ab) an,T5,ad Ψ ax];simp only[bG,ae,aN];refine⟨λai=>⟨?_,J⟩,λaQ=>⟨⟨J,i+1,?_,Ω,ti aa ac W Ω⟩,?_⟩⟩
   .rw[decide_eq_false];rintro rfl;rw[ac] at W;cases W;exact ai rfl
   .rw[wrap_i64 Ω (by simp only[maxLen] at ah;omega)];rfl
   .rw[wrap_i64 Ω (by simp only[maxLen] at ah;omega)];simp only[bO];omega
  .have ay:i=I:=Ω
   subst ay;rw[decide_eq_true];rw[l5 Ω,l5 Ω] at aa;exact aa
theorem FK {s:x1} {a:Λ} (h1:bW w 1 s n (ints .i64 a)) (ae:n<=1000000):
  ak x3 xe [s] w λv w'=>Ext w w'/\ ∃g,w.heap.size<=g/\bU w' g ao 1 v n (ints .i64 a):=by
 have W:=h1;obtain⟨X,af,ag,ah,ai,rfl,aj,al,Y,am⟩:=h1;refine aB func191 ?_;simp only[qN aw.u,bD];refine⟨λJ=>⟨Ext.refl _,w.heap.size,o8 _,?_⟩,λ_=>?_⟩
 .have:n=0:=by
   rcases Nat.eq_zero_or_pos n with h|h
   .exact h
   .rw[Y h] at J;cases J
  subst this;have:ints .i64 a=[]:=Z5 (by simpa using X);rw[this];exact bU.nil _ _ _ _
 .refine iw aw.u ao.i Ω (cs:=#[]) Ψ ?_;intro g U an I aa;refine me (g:=g) aw.u aw.u ao.i rfl (bU.full aa rfl Ω) (W.ext I) (oN _ _) Ω (by simp only[maxLen];omega) ?_;intro ap ab V aq ac ad;refine⟨I.then ad (by rintro r au rfl;omega),ab,?_,?_⟩
  .have:=I.size;omega
  .simpa using ac
theorem kE {I:x1} {a b:Λ} (h1:aJ .i64 w s1 a) (J:aJ .i64 w I b):
  ak x3 w2 [s1,I] w λv w'=>v= .bool (decide (a=b))/\Ext w w':=FH h1 J
theorem hF {s:x1} {a:Λ} (h1:aJ .i64 w s a) (I:a.length<=1000000):
  ak x3 qA [s] w λv w'=>Ext w w'/\ ∃g,w.heap.size<=g/\au .i64 ab w' g v a:=FI h1 I
theorem xN {I:x1} {a b:Λ} (h1:aJ .i64 w s1 a) (J:aJ .i64 w I b):
  ak x3 wO [s1,I] w λv w'=>v= .bool (decide (a=b))/\Ext w w':=FJ h1 J
theorem tn {s:x1} {a:Λ} (h1:aJ .i64 w s a) (I:a.length<=1000000):
  ak x3 xe [s] w λv w'=>Ext w w'/\ ∃g,w.heap.size<=g/\au .i64 ao w' g v a:=FK h1 I
theorem FL {n:Int} (h:aJ .i64 w sv l) (I:bS l) (ag:0<=n) (aL:n<aM l):
  ak x3 Ek [.agg #[sv],Δ n] w λv w'=>Ext w w'/\ ∃aE g,v= .tuple #[aE,Δ 0]/\w.heap.size<=g/\au .i64 ab w' g aE (cF l n):=by
 have aO:=I.1;have aP:=prod_bound I;refine aB func188 ?_;refine bN λg w0 aQ ah J=>?_;have aR:=h.cells;simp only[bB,aq,ae];refine⟨λaS=>Ω,λ_=>?_⟩;rw[bn bq.p bq.i rfl J.range];refine (nt (h.ext ah) I).mono ?_;rintro _ U _ ⟨rfl,W⟩;simp only[ce,ae];refine⟨λaU=>Ω,λ_=>?_⟩;have X:=ah.trans W;rw[ac bq.p rfl,ad Ψ ((J.ext W).Q0 rfl),aT ai.u (h.ext X)];refine i9 ai.u ab.i Ω Ω ?_;intro ap V aV aj ay;simp only[gw ai.u];have az:=X.trans aj;have s0:=ah.size;have s1:=W.size;have aW:=J.lt;refine⟨λt Y=>Ext w Y/\Ext w0 Y/\ ∃i:Nat,t=Δ i/\i<=l.length/\af Y ap ab (ints .i64 ((cF l n).take i++o7 (l.length-i) 0)),λt _=>l.length-(bO t).toNat,
  ⟨az,W.trans aj,0,rfl,X3 _,by simpa using ay⟩,?_⟩
 rintro _ Y ⟨al,am,i,rfl,hi,av⟩;simp only[aq,ae];refine⟨λan=>?_,λaX=>?_⟩
 .have an:i<l.length:=Ω
  rw[bn bq.p bq.i rfl (J.ext am).range];refine (FG (h.ext al) I an).mono ?_;rintro _ aY _ ⟨rfl,aA⟩;simp only[cm];intro aZ aC _ _;have aa:=aA.trans aC;have aw:=al.trans aa;obtain⟨k,ao⟩:∃k,l[i]? =σ k:=⟨l[i],y0 Ω⟩;have a1:=I.2 k (x5 ao);have a2:=prod_bound (I.drop (i+1));have aD:0<=n / aM (l.drop (i+1)):=Int.ediv_nonneg ag Ω;have a6:n / aM (l.drop (i+1))<=n:=Int.ediv_le_self _ ag;rw[oM Ω,Int.tdiv_eq_ediv_of_nonneg ag,wrap_i64 Ω Ω,
   ac bq.p rfl,ad Ψ (((J.ext am).ext aa).Q0 rfl),bd ai.u ab.i Ψ (h.ext aw) ao,
   kv Ω,Int.tmod_eq_emod_of_nonneg aD,fi ai.u ab.i an (λ_=>rfl),T5]
  refine bh ab.i rfl rfl (av.ext aa) (by simp[h8];omega) ?_;intro a7 ax a8 aF;simp only[aN];rw[wrap_i64 Ω Ω];have ba:=aj.size;have bb:=X.size;refine⟨⟨aw.then ax (by rintro r aG rfl;omega),(am.trans aa).then ax (by rintro r aG rfl;omega),i+1,rfl,Ω,?_⟩,?_⟩
  .have aH:=xK (n:=n) ao;have e:(ints .i64 ((cF l n).take i++o7 (l.length-i) 0)).set (0+i) (Δ (n / aM (l.drop (i+1)) % k))=ints .i64 ((cF l n).take (i+1)++o7 (l.length-(i+1)) 0):=by
    have aI:((cF l n).take i).length=i:=by rw[o4,h8];omega
    rw[V3,ints,<-T2];congr 1;rw[List.set_append,if_neg Ω,aI,W9,show l.length-i=(l.length-(i+1))+1 by omega,List.replicate_succ,List.set_cons_zero,r8,aH];simp
   rw[<-e];exact aF
  .simp only[bO];omega
 .have aK:i=l.length:=Ω
  subst aK;refine⟨al,_,ap,rfl,by have:=X.size;omega,au.of (n:=l.length) (bU.full ?_ (by simp[ints,h8]) (by simp[maxLen];omega))⟩;have e:(cF l n).take l.length++o7 (l.length-l.length) 0=cF l n:=by rw[W9,l5 (by rw[h8];omega)];simp
  rw[<-e];exact av
def hf (x:Int):Prop:=1<=x/\x<=32
instance (x:Int):Decidable (hf x):=by unfold hf;infer_instance
theorem FM {x:Int}:ak x3 qG [Δ x] w λv w'=>v= .bool (decide (¬hf x))/\Ext w w':=by
 refine aB func227 ?_;simp only[bB,aq,bR,ae];refine⟨λh=>⟨?_,Ext.refl _⟩,λh=>⟨?_,Ext.refl _⟩⟩
 .rw[decide_eq_true];intro I;have:=I.1;omega
 .congr 1;have:(32<x)=(¬hf x):=propext ⟨λJ I=>by have:=I.2;omega,λJ=>by
   by_cases U:32<x
   .exact U
   .exact absurd ⟨Ω,Ω⟩ J⟩
  simp only[this]
theorem FN (h:aJ .i64 w sv l):
  ak x3 s9 [sv,.func (.func qG) #[] #[]] w λv w'=>Ext w w'/\ ∃n:Int,v=Δ n/\((0<=n)=¬∀x∈l,hf x):=by
 have af:=h.le;refine aB func170 ?_;rw[aT ai.u h];refine⟨λ_ t U=>Ext w U/\ ∃i:Nat,t=Δ i/\i<=l.length/\ ∀x∈l.take i,hf x,λ_ t _=>l.length-(bO t).toNat,⟨Ext.refl _,0,rfl,X3 _,Ξ⟩,?_⟩;rintro _ _ U ⟨J,i,rfl,hi,W⟩;simp only[aq,ae];refine⟨λag=>?_,λah=>⟨J,-1,rfl,?_⟩⟩
 .obtain⟨x,X⟩:∃x,l[i]? =σ x:=⟨_,y0 Ω⟩;rw[bd ai.u ab.i Ψ (h.ext J) X];show ak x3 qG [Δ x] U _;refine FM.mono ?_;rintro _ V _ ⟨rfl,Y⟩;simp only[ae,aN];refine⟨λaa=>⟨J.trans Y,i,rfl,?_⟩,λac=>?_⟩
  .exact propext ⟨λ_ ad=>aa (ad x (x5 X)),λ_=>Ω⟩
  .rw[wrap_i64 Ω Ω];refine⟨⟨J.trans Y,i+1,rfl,Ω,λy I=>?_⟩,?_⟩
   .rw[r8,X] at I;rcases n9.1 I with I|I
    .exact W y I
    .simp at I;subst I;exact X4.1 ac
   .simp only[bO];omega
 .have:i=l.length:=Ω
  rw[this,o9] at W;exact propext ⟨λh=>Ω,λh=>absurd W h⟩
theorem FO (h:aJ .i64 w sv l):
  ak x3 qE [sv,.func (.func qG) #[] #[]] w λv w'=>v= .bool (decide (¬∀x∈l,hf x))/\Ext w w':=by
 refine aB func196 ?_;refine (FN h).mono ?_;rintro _ U _ ⟨I,n,rfl,J⟩;simp only[ce];exact⟨by congr 1;simp only[J],I⟩
def FP (w:x2) (l:Λ) (v:x1) (w':x2):Prop:=
 Ext w w'/\
   (¬bS l->v= .tuple #[.agg #[.slice ν 0 0],Δ 1])/\
   (bS l->4096<aM l->v= .tuple #[.agg #[.slice ν 0 0],Δ 5])/\
   (bS l->aM l<=4096-> ∃g aE,v= .tuple #[.agg #[aE],Δ 0]/\w.heap.size<=g/\au .i64 ab w' g aE l)
theorem FQ (h:aJ .i64 w sv l):ak x3 Eb [sv] w (FP w l):=by
 refine aB func171 ?_;refine bp bq.i λaL U aZ J ac=>?_;have a1:=ac.lt;refine aQ (λv V=>Ext w V/\Ext U V/\ ∃c:Bool,v= .bool c/\((c=true)=¬bS l)) ?_ ?_
 .rintro _ V ⟨ad,ah,c,rfl,av⟩;simp only[bD];refine⟨λaM=>?_,λaN=>?_⟩
  .have aw:¬bS l:=by rw[<-av];exact aM
   rw[cW (cs:=#[.slice ν 0 0]) Ψ];refine bH (vs:=[.slice ν 0 0]) bq.i rfl rfl (by simp;rfl) (ac.ext ah) ?_;intro a2 aO a6 aP;rw[eO bq.p bq.i rfl aP.range];exact⟨ad.then aO (by rintro r aj rfl;omega),λ_=>rfl,λh=>absurd h aw,λh=>absurd h aw⟩
  .have W:bS l:=by
    have ax:¬(c=true):=by simp[aN]
    rw[av] at ax;exact Classical.not_not.1 ax
   have a7:=W.1;refine (hF (h.ext ad) Ω).mono ?_;rintro aE ay _ ⟨al,az,a8,hm⟩;have aA:=hm.ls.cells;rw[cW (cs:=#[aE]) (by obtain⟨_,_,_,_,_,rfl,_⟩:=hm.ls;kernel_rfl)];refine bp bq.i λgs ba bb am aR=>?_;refine bH (vs:=[aE]) bq.i rfl rfl (by intro u hu;simp at hu;subst hu;exact aA.2) aR ?_;intro an aC bc aD;rw[bn bq.p bq.i rfl aD.range];have bd:=al.size;have be:=am.size;have bf:=ah.size;have bg:ag (λr=>r=gs) ay an:=(am.aa _).trans aC;have ao:Ext ay an:=am.then aC (by rintro r aj rfl;omega);have aS:=(ad.trans al).trans ao;have aF:au .i64 ab an az aE l:=hm.ext ao;refine (nt aF.ls W).mono ?_;rintro _ aU _ ⟨rfl,X⟩;have aG:=aS.trans X;have aH:af aU aL bq [.slice ν 0 0]:=ac.ext (((ah.trans al).trans ao).trans X);simp only[bR,ae];refine⟨λaV=>?_,λaW=>?_⟩
   .rw[cW (cs:=#[.slice ν 0 0]) Ψ];refine bH (vs:=[.slice ν 0 0]) bq.i rfl rfl (by simp;rfl) aH ?_;intro aX Y aY ap;rw[eO bq.p bq.i rfl ap.range];exact⟨aG.then Y (by rintro r aj rfl;omega),λh=>absurd W h,λ_ _=>rfl,λ_ h=>Ω⟩
   .rw[bn bq.p bq.i rfl (aD.ext X).range];refine bH (vs:=[aE]) bq.i rfl rfl (by intro u hu;simp at hu;subst hu;exact aA.2) aH ?_;intro aX Y aY ap;rw[eO bq.p bq.i rfl ap.range];have bh:=J.size;exact⟨aG.then Y (by rintro r aj rfl;omega),λh=>absurd W h,λ_ h=>Ω,λ_ _=>⟨az,aE,rfl,Ω,(aF.ext X).aa Y Ω⟩⟩
 .intro bi aI;rw[aT ai.u (h.ext J)];simp only[bR,ae];refine⟨λaV=>aI _ _ ⟨J,Ext.refl _,true,rfl,?_⟩,λaW=>?_⟩
  .exact propext ⟨λ_ I=>by have:=I.1;omega,λ_=>rfl⟩
  .refine (FO (h.ext J)).mono ?_;rintro _ V _ ⟨rfl,aK⟩;refine aI _ _ ⟨J.trans aK,aK,_,rfl,?_⟩;rw[decide_eq_true_eq];exact propext ⟨λaq I=>aq I.2,λaq I=>aq ⟨Ω,I⟩⟩
theorem tp {P:W7} (I:0<=a) (h1:a<4294967296):
  J P (aC .and t cx cy (.int .u64 a) (.int .u64 4294967295)) w K=K (.int .u64 a):=J.of λw' _=>by
 obtain⟨n,rfl⟩:=Int.eq_ofNat_of_zero_le I;have X:n<4294967296:=Ω
 have e:(U8 64 (n:Int) &&& U8 64 4294967295).toNat=n:=by
  rw[BitVec.toNat_and,BitVec.toNat_ofInt,BitVec.toNat_ofInt];have U:((n:Int) % ((2 ^ 64:Nat):Int)).toNat=n:=Ω
  have V:((4294967295:Int) % ((2 ^ 64:Nat):Int)).toNat=2 ^ 32-1:=Φ
  rw[U,V,Nat.and_two_pow_sub_one_eq_mod];omega
 have W:(U8 U6.bits (n:Int) &&& U8 U6.bits 4294967295).toNat=n:=e;simp only[aC,eqGuard,binOp,Op.intBits,W];rw[wrap_u64 Ω Ω];rfl
theorem oQ {P:W7} (I:0<=a) (h1:a<4294967296):
  J P (aC .shr t cx cy (.int .u64 a) (.int .u64 32)) w K=K (.int .u64 0):=J.of λw' _=>by
 have e:a.fdiv (2 ^ min 32 U6.bits)=0:=by
  have:(2:Int) ^ min 32 U6.bits=4294967296:=rfl;rw[this,Int.fdiv_eq_ediv_of_nonneg _ Ω];omega
 simp[aC,eqGuard,binOp,Op.shift,e]
theorem FR {x:Int} (J:0<=x/\x<65536) (I:0<=y/\y<65536):
  ak x3 EL [.int .u64 x,.int .u64 y] w λv w'=>v= .tuple #[.int .u64 0,.int .u64 (x*y)]/\Ext w w':=by
 have W:0<=x*y/\x*y<4294967296:=⟨Int.mul_nonneg J.1 I.1,by
  have:x*y<=65535*65535:=Int.mul_le_mul Ω Ω I.1 Ω;omega⟩
 refine aB func228 ?_;refine ak.mono (K:=λv w'=>v= .tuple #[.int .u64 0,.int .u64 (x*y)]/\Ext w w') ?_ ?_
 .refine aB func271 ?_;rw[tp Ω Ω,oQ Ω Ω,tp Ω Ω,oQ Ω Ω];simp only[fv,Int.zero_mul,Int.mul_zero];rw[wrap_u64 (x:=x*y) Ω Ω,show U6.wrap 0=0 from rfl,oQ (a:=x*y) Ω Ω];simp only[aN,Int.add_zero];rw[show U6.wrap 0=0 from rfl,tp Ω Ω,oQ Ω Ω];simp only[fv,aN,Int.zero_mul,Int.mul_zero,Int.add_zero,show U6.wrap 0=0 from rfl];rw[oQ Ω Ω];simp only[fv,aN,Int.add_zero,show U6.wrap 0=0 from rfl];exact⟨trivial,Ext.refl _⟩
 .rintro _ U _ ⟨rfl,V⟩;rw[aK (v:=.int .u64 0) rfl,aK (v:=.int .u64 (x*y)) rfl];exact⟨rfl,V⟩
theorem xO {jO:x1} {c:Int} (h:aJ .i64 w jO [c]) (aL:n<65536):
  ak x3 Ec [jO,Δ n] w λv w'=>Ext w w'/\ ∃g,w.heap.size<=g/\au .i64 ao w' g v (o7 n c):=by
 refine aB func172 ?_;refine di (λU=>w=U) ?_ ?_
 .rintro _ rfl;rw[aT aw.u h,e2 ab.u nl.u,e2 ab.u nl.u,wrap_u64 Ξ Ξ,wrap_u64 Ω Ω];refine (FR (x:=([c].length:Int)) Ξ Ω).mono ?_;rintro _ V _ ⟨rfl,ad⟩;rw[aK (v:=.int .u64 0) rfl,aK (v:=.int .u64 (([c].length:Int)*n)) rfl];have al:(([c].length:Int)*n)=(n:Int):=Ξ
  rw[al];refine di (λI=>V=I) ?_ ?_
  .rintro _ rfl;rw[e2 nl.u ab.u,wrap_i64 Ω Ω];refine i9 aw.u ao.i Ω Ω ?_;intro g aM aO am an;have ag:=ad.trans am;have aP:=ad.size;refine xA aw.u ao.i an (o:=0) (λ_=>rfl) Ξ (h.ext ag) (oN _ _) ?_;intro aR ap aU ah;have av:=ag.then ap (by rintro r ax rfl;omega);have st:over (ints .i64 (o7 n 0)) 0 ((ints .i64 [c]).take n)=ints .i64 (o7 (min 1 n) c++o7 (n-min 1 n) 0):=by
    rcases Nat.eq_zero_or_pos n with rfl|J
    .simp[over]
    .rw[l5 Θ,ll Θ];have:min 1 n=1:=Ω
     simp[this,ints]
   rw[st] at ah;refine⟨λt W=>Ext w W/\ ∃i:Nat,t=Δ i/\i<=n/\(0<n->0<i)/\af W g ao (ints .i64 (o7 i c++o7 (n-i) 0)),λt _=>n-(bO t).toNat,
    ⟨av,min 1 n,Ξ,Ω,Ω,ah⟩,?_⟩
   rintro _ W ⟨X,i,rfl,hi,aV,Y⟩;simp only[gw aw.u,aq,ae,cm];refine⟨λay az aa _ _=>?_,λaW=>?_⟩
   .have ay:i<n:=Ω
    have ai:=Y.ext aa;rw[fw aw.u ao.i (l:=i) (h:=n) (m:=n) l6 hC ez Ω Ω Ω,
     fw aw.u ao.i (l:=0) (h:=i) (m:=n) hB mb ez Ω Ω Ω]
    have aA:bW az 1 (.slice (σ ⟨g,0,ν⟩) n n) n (ints .i64 (o7 i c++o7 (n-i) 0)):=(bU.full ai (by simp<;>omega) (by simp[maxLen]<;>omega)).sl;have J:=aA.part (l:=0) (h:=i) (m:=n) Ω Ω Ω Ω;have aC:((ints .i64 (o7 i c++o7 (n-i) 0)).drop (0*1)).take ((i-0)*1)=ints .i64 (o7 i c):=by
     simp[ints]
    rw[aC] at J;refine xA aw.u ao.i ai (o:=i) (λ_=>?_) (by simp<;>omega) J (oN _ _) ?_
    .rw[if_neg Ω];simp[U7]
    .intro aX aD aY aj;have aZ:=X.size;have a1:=aa.size;have aE:over (ints .i64 (o7 i c++o7 (n-i) 0)) i ((ints .i64 (o7 i c)).take (n-i))=ints .i64 (o7 (i+min i (n-i)) c++o7 (n-(i+min i (n-i))) 0):=by
      apply X8;intro j;rw[mc _ _ _ (by simp[ints]<;>omega)];simp only[ints,Z3,List.map_replicate,List.getElem?_append,List.getElem?_take,List.getElem?_replicate,o4,List.length_replicate]
      repeat' split
      all_goals first|rfl|omega
     rw[aE] at aj;have aF:min (i-0) (n-i)=min i (n-i):=Ω
     simp only[aN,aF];have aG:Y6.wrap ((i:Int)+((min i (n-i):Nat):Int))=((i+min i (n-i):Nat):Int):=by rw[wrap_i64 Ω Ω];omega
     rw[aG];refine⟨⟨(X.trans aa).then aD (by rintro r ax rfl;omega),_,rfl,Ω,Ω,aj⟩,?_⟩;simp only[bO,j0];omega
   .have:i=n:=Ω
    subst this;rw[W9,List.replicate_zero,X6] at Y;exact⟨X,g,Ω,au.of (n:=i) (bU.full Y Ξ (by simp[maxLen];omega))⟩
  .intro aH ac;refine aQ (λv I=>v= .bool false/\V=I) ?_ ?_
   .rintro _ _ ⟨rfl,rfl⟩;rw[aS];exact ac _ rfl
   .intro a2 aI;simp only[bR,ae];refine⟨λh=>Ω,λ_=>aI _ _ ⟨?_,rfl⟩⟩;rw[decide_eq_false];omega
 .intro aH ac;simp only[aq,ae];exact⟨λh=>Ω,λ_=>ac _ rfl⟩
def leads (v:x1) (r:Nat):Prop:=∃a n c,v= .slice (σ a) n c/\a.block=r
theorem bA {g:Nat} (h:au k e w g v l) {r:Nat} (I:leads v r):r=g/\g<w.heap.size:=by
 obtain⟨a,n,c,rfl,rfl⟩:=I;obtain⟨_,⟨h,_⟩|⟨cap,cs,h,J,_⟩⟩:=h
 .cases h
 .cases h;exact⟨rfl,J.lt⟩
theorem bc {g:Nat} (h:au k e w g v l) (I:ag S w w') (J:∀r,leads v r->¬S r):au k e w' g v l:=by
 refine⟨h.1,h.2.imp id λ⟨cap,cs,h1,U,V⟩=>⟨cap,cs,h1,U.aa I (J g ⟨_,_,_,h1,rfl⟩),V⟩⟩
def cR (w:x2) (g I:Nat) (sv:x1) (szs:Λ) (k:Int) (cs:Λ):Prop:=
 (∃aL gs,af w g cU [sv,Δ k,aL]/\au .i64 ab w gs sv szs/\au .i64 ao w I aL cs)/\(g≠I/\¬leads sv I/\aM szs<=4096)/\bS szs/\cs.length=(aM szs).toNat
theorem cR.ext {g J:Nat} {k:Int} {cs:Λ} (h:cR w g J sv szs k cs) (I:Ext w w'):cR w' g J sv szs k cs:=by
 obtain⟨⟨aL,gs,h1,U,V⟩,W⟩:=h;exact⟨⟨aL,gs,h1.ext I,U.ext I,V.ext I⟩,W⟩
def xP (w:x2) (l:Λ) (k I:Int) (v:x1) (w':x2):Prop:=
 Ext w w'/\
  (¬bS l->v= .tuple #[.pointer ν,Δ 1])/\
  (bS l->4096<aM l->v= .tuple #[.pointer ν,Δ 5])/\
  (bS l->aM l<=4096->¬cQ I k->v= .tuple #[.pointer ν,Δ 3])/\
  (bS l->aM l<=4096->cQ I k-> ∃g J sv,v= .tuple #[Γ g,Δ 0]/\w.heap.size<=g/\w.heap.size<=J/\(∀r,leads sv r->w.heap.size<=r)/\
   cR w' g J sv l k (o7 (aM l).toNat I))
theorem qS {k ah:Int} (h:aJ .i64 w sv l):ak x3 sY [sv,Δ k,Δ ah] w (xP w l k ah):=by
 refine aB func89 ?_;refine (FQ h).mono ?_;rintro v U _ ⟨av,aN,aO,aP⟩;obtain⟨aE,e,rfl,aQ,he⟩:∃ (aE:x1) (e:Int),v= .tuple #[.agg #[aE],Δ e]/\aE.oneCell'=true/\
   ((e=1/\¬bS l)\/(e=5/\bS l/\4096<aM l)\/(e=0/\bS l/\aM l<=4096/\ ∃g,w.heap.size<=g/\au .i64 ab U g aE l)):=by
  by_cases I:bS l
  .by_cases ag:aM l<=4096
   .obtain⟨g,aE,rfl,h1,ax⟩:=aP I ag;exact⟨aE,0,rfl,ax.ls.cells.2,.inr (.inr ⟨rfl,I,ag,g,h1,ax⟩)⟩
   .exact⟨_,_,aO I Ω,rfl,.inr (.inl ⟨rfl,I,Ω⟩)⟩
  .exact⟨_,_,aN I,rfl,.inl ⟨rfl,I⟩⟩
 rw[aK (v:=.agg #[aE]) rfl,aK (v:=Δ e) rfl];refine bp bq.i λbj V bk aR aS=>?_;refine bH (vs:=[aE]) bq.i rfl rfl (by intro u hu;simp at hu;subst hu;exact aQ) aS ?_;intro aT aU bl aV;have ay:Ext U aT:=aR.then aU (by rintro r Y rfl;omega);have az:=av.trans ay;simp only[bG,ae];refine⟨λaW=>⟨az,?_⟩,λbm=>?_⟩
 .rcases he with⟨rfl,ai⟩|⟨rfl,I,ag⟩|⟨rfl,_⟩
  .exact⟨λ_=>rfl,λh=>absurd h ai,λh=>absurd h ai,λh=>absurd h ai⟩
  .exact⟨λh=>absurd I h,λ_ _=>rfl,λ_ h=>Ω,λ_ h=>Ω⟩
  .exact absurd rfl aW
 .obtain⟨rfl,I,ag,gs,bo,hm⟩:e=0/\bS l/\aM l<=4096/\ ∃g,w.heap.size<=g/\au .i64 ab U g aE l:=by
   rcases he with⟨rfl,ai⟩|⟨rfl,I,ag⟩|h
   .omega
   .omega
   .exact h
  have br:=prod_bound I;refine kD.mono ?_;rintro _ bt _ ⟨rfl,al⟩;have aC:=az.trans al;simp only[bf,bD];refine⟨λaX=>⟨aC,λh=>absurd I h,λ_ h=>Ω,λ_ _ _=>rfl,λ_ _ h=>by simp[h] at aX⟩,λaY=>?_⟩;have aZ:cQ ah k:=by simpa using aY
  simp only[bB,cm];intro aD am _ _;have a1:=aC.trans am;have aj:=(ay.trans al).trans am;have aF:=(aV.ext al).ext am;rw[bn bq.p bq.i rfl aF.range,bn bq.p bq.i rfl aF.range];have s1:=av.size;have bu:=aj.size;have aG:((aM l).toNat:Int)=aM l:=Ω
  have aH:∀ {ad:x2} {ac:x1} {af:Nat},Ext aD ad->aD.heap.size<=af->au .i64 ao ad af ac (o7 (aM l).toNat ah)->
    J x3 (Instr.build cU #[(0,.agg #[aE]),(1,Δ k),(2,ac)]) ad λa2=>aA x3 (Instr.box cU a2) ad λa6 aI=>xP w l k ah (.tuple #[a6,Δ 0]) aI:=by
   intro ad ac af aa aL Y;rw[cW (cs:=#[aE,Δ k,ac]) (by
    obtain⟨_,_,_,_,_,rfl,_⟩:=Y.ls;obtain⟨_,_,_,_,_,rfl,_⟩:=hm.ls;kernel_rfl)]
   refine bN λg aI bw ap a7=>?_;have bx:=aa.size;have a8:leads ac af:=by
    obtain⟨bz,⟨_,ba⟩|⟨cap,cs,rfl,_⟩⟩:=Y
    .simp at ba;omega
    .exact⟨_,_,_,rfl,rfl⟩
   have bC:=(bA Y a8).2;refine⟨(a1.trans aa).trans ap,λh=>absurd I h,λ_ h=>Ω,λ_ _ h=>absurd aZ h,λ_ _ _=>⟨g,af,aE,rfl,Ω,Ω,λr bb=>?_,⟨ac,gs,a7,((hm.ext aj).ext aa).ext ap,Y.ext ap⟩,⟨Ω,λbc=>?_,ag⟩,I,Ξ⟩⟩
   .have:=(bA hm bb).1;omega
   .have:=bA hm bc;omega
  constructor
  .refine dx aw.u ao.i rfl λjO an bd be W aq=>⟨.inl W,?_⟩;refine (nt ((hm.ext aj).ext W).ls I).mono ?_;rintro _ bg _ ⟨rfl,X⟩;refine⟨.inl (W.trans X),?_⟩;rw[<-aG];refine (xO (aq.ext X).ls Ω).mono ?_;rintro ac ad _ ⟨aa,af,aL,Y⟩;have bh:=W.size;have bi:=X.size;exact⟨.inl ((W.trans X).trans aa),aH ((W.trans X).trans aa) Ω Y⟩
  .refine (nt (hm.ext aj).ls I).mono ?_;rintro _ bd _ ⟨rfl,W⟩;refine⟨.inl W,?_⟩;refine dx aw.u ao.i rfl λjO an bg be X aq=>⟨.inl (W.trans X),?_⟩;rw[<-aG];refine (xO aq.ls Ω).mono ?_;rintro ac ad _ ⟨aa,af,aL,Y⟩;have bh:=W.size;have bi:=X.size;exact⟨.inl ((W.trans X).trans aa),aH ((W.trans X).trans aa) Ω Y⟩
theorem ml {g:Nat} {I:List x1} (h:af w g e cs) (J:∀j v,I[j]? =σ v->cs[o+j]? =σ v):w.rangeAt g o I:=λj v U=>h.cell (J j v U)
theorem xQ {g W:Nat} {t:Λ} {k:Int} {cs:Λ} (h:cR w g W sv szs k cs) (X:aJ .i64 w aE t):
  ak x3 Ee [Γ g,aE] w λv w'=>v=jN szs t/\Ext w w':=by
 obtain⟨⟨aL,gs,Y,hm,aa⟩,_,I,_⟩:=h;refine aB func174 ?_;rw[cC ek.u];simp only[Z0,aS];rw[ay,ac cU.p rfl,bn (cs:=[sv]) bq.p bq.i rfl (ml Y (by
  intro j v J
  match j,J with
  |0,J=>exact J))]
 refine (xM hm.ls X I).mono ?_;rintro _ U _ ⟨rfl,V⟩;unfold jN;cases ct szs t 0 with
 |none=>rw[aK (v:=Δ 0) rfl,aK (v:=Δ 3) rfl];exact⟨rfl,V⟩
 |some n=>rw[aK (v:=Δ n) rfl,aK (v:=Δ 0) rfl];exact⟨rfl,V⟩
def nu (szs t cs:Λ):x1:=match ct szs t 0 with
 |some n=>.tuple #[Δ (cs.getD n.toNat 0),Δ 0]
 |none=>.tuple #[Δ 0,Δ 3]
theorem xR {t cs:Λ} {n:Int} (I:bS szs) (J:cs.length=(aM szs).toNat) (h:ct szs t 0=σ n):n=(n.toNat:Int)/\n.toNat<cs.length:=by
 have:=mj I.2 h;simp only[Int.zero_mul,Int.zero_add,Int.one_mul] at this;omega
theorem tq {g W:Nat} {t:Λ} {k:Int} {cs:Λ} (h:cR w g W sv szs k cs) (X:aJ .i64 w aE t):
  ak x3 E0 [Γ g,aE] w λv w'=>v=nu szs t cs/\Ext w w':=by
 refine aB func259 ?_;refine (xQ h X).mono ?_;rintro _ U _ ⟨rfl,J⟩;obtain⟨⟨aL,gs,Y,hm,aa⟩,_,I,ab⟩:=h.ext J;unfold jN nu;cases hi:ct szs t 0 with
 |none=>
  rw[aK (v:=Δ 0) rfl,aK (v:=Δ 3) rfl];simp only[bG,ae];exact⟨λ_=>⟨trivial,J⟩,λh=>by simp at h⟩
 |some n=>
  obtain⟨af,V⟩:=xR I ab hi;rw[aK (v:=Δ n) rfl,aK (v:=Δ 0) rfl];simp only[bG,ae];refine⟨λh=>absurd rfl h,λ_=>?_⟩;rw[ay,ac cU.p rfl,ad Ψ (Y.Q2 rfl),
   dY af aw.u ao.i Ψ aa.ls (y0 V)]
  refine⟨?_,J⟩;rw[u5,y0 V];rfl
def nv (szs t:Λ) (k c:Int) (cs:Λ):Λ:=match ct szs t 0 with
 |some n=>if cQ c k then cs.set n.toNat c else cs
 |none=>cs
def xS (szs t:Λ) (k c:Int):Int:=match ct szs t 0 with
 |some _=>if cQ c k then 0 else 3
 |none=>3
theorem xT {g:Nat} {t:Λ} {k c:Int} {cs:Λ} (h:cR w g X sv szs k cs) (an:aJ .i64 w aE t):
  ak x3 s3 [Γ g,aE,Δ c] w λv w'=>v=Δ (xS szs t k c)/\ag (λr=>r=X) w w'/\cR w' g X sv szs k (nv szs t k c cs):=by
 refine aB func91 ?_;refine (xQ h an).mono ?_;rintro _ U _ ⟨rfl,J⟩;have h1:=h.ext J;obtain⟨⟨aL,gs,W,hm,Y⟩,_,I,ab⟩:=h1;unfold jN xS nv;cases hi:ct szs t 0 with
 |none=>
  rw[aK (v:=Δ 0) rfl,aK (v:=Δ 3) rfl];simp only[bG,ae];exact⟨λ_=>⟨trivial,J.aa _,h.ext J⟩,λh=>by simp at h⟩
 |some n=>
  obtain⟨aD,aF⟩:=xR I ab hi;rw[aK (v:=Δ n) rfl,aK (v:=Δ 0) rfl];simp only[bG,ae];refine⟨λh=>absurd rfl h,λ_=>?_⟩;rw[ay,ac cU.p rfl,ad Ψ (W.Q1 rfl)];refine kD.mono ?_;rintro _ V _ ⟨rfl,af⟩;have ai:=(h.ext J).ext af;by_cases aj:cQ c k
  .simp only[aj,decide_true,bf,Y1,aS,if_true];obtain⟨⟨aL,gs,W,hm,Y⟩,⟨ap,al⟩,I,ab⟩:=ai;have aG:=Y;obtain⟨aH,⟨rfl,aI⟩|⟨cap,full,rfl,aq,au,av,ax,am⟩⟩:=Y
   .omega
   .rw[ay,ac cU.p rfl,ad Ψ (W.Q2 rfl),
     xw (i:=n) aw.u ao.i Ω Ω (λ_=>rfl)]
    refine bh ao.i rfl rfl aq Ω ?_;intro aM ah aN az;refine⟨trivial,((J.trans af).aa _).trans ah,⟨_,gs,W.aa ah Ω,bc hm ah (λr aA aC=>al.1 (aC▸aA)),?_⟩,⟨ap,al⟩,I,by simp[ab]⟩;refine⟨Ξ,.inr ⟨cap,full.set (0+n.toNat*1) (Δ c),?_,az,by simpa using au,av,by simpa using ax,?_⟩⟩
    .simp
    .simp only[X2,V3,T5] at am ⊢;rw[List.take_set,am,ints,ints,T2]
  .simp only[aj,decide_false,bf,X5,bQ,if_false];exact⟨trivial,(J.trans af).aa _,ai⟩
def cj (b:Int):Bool:=decide (b=32\/b=9\/b=10\/b=13)
def bJ (b:Int):Bool:=decide (33<=b/\b<=126)
def mm:Nat->Λ->List (Λ)×Bool
 |0,_=>([],true)
 |n+1,p=>
  match p.dropWhile cj with
  |[]=>([],true)
  |b::q=>
   if bJ b then
    match (b::q).dropWhile bJ with
    |[]=>([(b::q).takeWhile bJ],true)
    |c::r=>if cj c then (((b::q).takeWhile bJ)::(mm n (c::r)).1,(mm n (c::r)).2) else ([],false)
   else ([],false)
def lex (p:Λ):List (Λ)×Bool:=mm (p.length+1) p
theorem nw (f:Int->Bool):∀ (l:Λ),(l.dropWhile f).length<=l.length
 |[]=>o8 _
 |x::l=>by
  rw[List.dropWhile_cons];split
  .exact Y9 (nw f l) (S6 _)
  .exact o8 _
theorem qT {f:Int->Bool} {x:Int} (h:f x=true):((x::l).dropWhile f).length<=l.length:=by
 rw[List.dropWhile_cons,if_pos h];exact nw f l
theorem xU:∀ {n m:Nat} {p:Λ},p.length<n->p.length<m->mm n p=mm m p
 |n+1,m+1,p,W,hm=>by
  unfold mm;have h1:=nw cj p;cases U:p.dropWhile cj with
  |nil=>rfl
  |cons b q=>
   rw[U] at h1;simp only;by_cases I:bJ b=true
   .rw[if_pos I,if_pos I];have J:=qT (l:=q) I;cases V:(b::q).dropWhile bJ with
    |nil=>rfl
    |cons c r=>
     rw[V] at J;simp only[j5] at h1 J;simp only;rw[xU (n:=n) (m:=m) (p:=c::r) (by rw[j5];omega) (by rw[j5];omega)]
   .rw[if_neg I,if_neg I]
theorem jb (p:Λ):lex p=match p.dropWhile cj with
  |[]=>([],true)
  |b::q=>
   if bJ b then
    match (b::q).dropWhile bJ with
    |[]=>([(b::q).takeWhile bJ],true)
    |c::r=>if cj c then (((b::q).takeWhile bJ)::(lex (c::r)).1,(lex (c::r)).2) else ([],false)
   else ([],false):=by
 unfold lex
 conv=>lhs;unfold mm
 have h1:=nw cj p;cases U:p.dropWhile cj with
 |nil=>rfl
 |cons b q=>
  rw[U] at h1;simp only;by_cases I:bJ b=true
  .rw[if_pos I,if_pos I];have J:=qT (l:=q) I;cases V:(b::q).dropWhile bJ with
   |nil=>rfl
   |cons c r=>
    rw[V] at J;simp only[j5] at h1 J;simp only;rw[xU (n:=p.length) (m:=(c::r).length+1) (p:=c::r) (by rw[j5];omega) Ω]
  .rw[if_neg I,if_neg I]
theorem oR:∀ (n:Nat) (p:Λ),p.length<=n->(lex p).1.length<=p.length
 |n,p,X=>by
  rw[jb];have h1:=nw cj p;cases V:p.dropWhile cj with
  |nil=>simp
  |cons b q=>
   rw[V] at h1;simp only;by_cases I:bJ b=true
   .rw[if_pos I];have J:=qT (l:=q) I;cases W:(b::q).dropWhile bJ with
    |nil=>simp only[j5,List.length_nil] at h1 ⊢;omega
    |cons c r=>
     rw[W] at J;simp only[j5] at h1 J;simp only;by_cases U:cj c=true
     .rw[if_pos U]
      match n with
      |0=>omega
      |n+1=>
       have:=oR n (c::r) (by rw[j5];omega);simp only[j5] at this ⊢;omega
     .rw[if_neg U];simp
   .rw[if_neg I];simp
theorem qU:∀ (n:Nat) (p:Λ),p.length<=n-> ∀w∈(lex p).1,w≠[]/\(∀b∈w,bJ b=true)/\w.length<=p.length
 |n,p,ab,w,hw=>by
  rw[jb] at hw;have h1:=nw cj p;cases J:p.dropWhile cj with
  |nil=>rw[J] at hw;simp at hw
  |cons b q=>
   rw[J] at h1 hw;simp only at hw;have Y:(b::q).length<=p.length:=h1;by_cases I:bJ b=true
   .rw[if_pos I] at hw;have U:=qT (l:=q) I;have V:(b::q).takeWhile bJ≠[]/\(∀x∈(b::q).takeWhile bJ,bJ x=true)/\((b::q).takeWhile bJ).length<=p.length:=
     ⟨by rw[List.takeWhile_cons,if_pos I];simp,λx aa=>List.all_takeWhile (l:=b::q) (p:=bJ) |> List.all_eq_true.1 |> λh=>h x aa,Y9 (List.takeWhile_sublist _).length_le Y⟩
    cases W:(b::q).dropWhile bJ with
    |nil=>
     rw[W] at hw;simp only[j4] at hw;subst hw;exact V
    |cons c r=>
     rw[W] at U hw;simp only[j5] at h1 U;simp only at hw;by_cases X:cj c=true
     .rw[if_pos X] at hw;rcases T1.1 hw with rfl|hw
      .exact V
      .match n with
       |0=>omega
       |n+1=>
        have:=qU n (c::r) (by rw[j5];omega) w hw;exact⟨this.1,this.2.1,Y9 this.2.2 (by rw[j5];omega)⟩
     .rw[if_neg X] at hw;simp at hw
   .rw[if_neg I] at hw;simp at hw
def ax:Int:=4611686018427387904
def fy (b:Int):Bool:=decide (48<=b/\b<=57)
def eH (n b:Int):Int:=min ax (10*n+(b-48))
def jc:Λ->Option Int
 |[]=>ν
 |l=>if l.all fy then σ (l.foldl eH 0) else ν
def fz:Λ->Option Int
 |45::l=>(jc l).map λn=>-n
 |l=>jc l
theorem FS {n b:Int} (J:0<=n) (I:fy b=true):0<=eH n b/\eH n b<=ax:=by
 have I:=of_decide_eq_true I;unfold eH ax;omega
theorem qV:∀ {l:Λ} {n:Int},l.all fy=true->0<=n/\n<=ax->0<=l.foldl eH n/\l.foldl eH n<=ax
 |[],n,_,I=>I
 |b::l,n,h,I=>by
  rw[List.all_cons,U4] at h;exact qV (l:=l) h.2 (FS I.1 h.1)
structure aH where
 toks:List (Λ)
 told:Int
 big:Bool
 shared:List (Λ×List (Λ×Int))
deriving DecidableEq
def dy (s:aH):Option (Λ×aH):=match s.toks with
 |[]=>ν
 |w::l=>σ (w,{s with toks:=l})
def bb (lo hi:Int) (s:aH):Option (Int×aH):=match dy s with
 |none=>ν
 |some (w,s)=>match fz w with
  |none=>ν
  |some n=>if lo<=n/\n<=hi then σ (n,s) else ν
def a8 (b:Bool) (s:aH):aH:={s with big:=s.big||b}
def cD {α:Type} (f:List α->aH->Option (α×aH)):Nat->List α->aH->Option (List α×aH)
 |0,acc,s=>σ (acc,s)
 |n+1,acc,s=>match f acc s with
  |none=>ν
  |some (a,s)=>cD f n (acc++[a]) s
def eI (n:Int) (I:Nat) (s:aH):Option (Λ×aH):=cD (λacc s=>match bb 0 (n-1) s with
 |none=>ν
 |some (v,s)=>if v∈acc then ν else σ (v,s)) I [] s
def hG:Λ->Λ->aH->Option (Λ×aH)
 |[],acc,s=>σ (acc,s)
 |k::l,acc,s=>match bb 0 (k-1) s with
  |none=>ν
  |some (v,s)=>hG l (acc++[v]) s
def dz (sizes:Λ) (acc:List (Λ×Int)) (s:aH):Option ((Λ×Int)×aH):=match hG sizes [] s with
 |none=>ν
 |some (t,s)=>match bb 0 ax s with
  |none=>ν
  |some (c,s)=>if t∈acc.map (·.1) then ν else σ ((t,c),s)
def dA (sizes:Λ) (s:aH):Option (List (Λ×Int)×aH):=match bb (-ax) ax s with
 |none=>ν
 |some (n,s)=>
  if n<0 then match s.shared[(-n-1).toNat]? with
   |none=>ν
   |some (z,l)=>if z=sizes then σ (l,s) else ν
  else cD (dz sizes) n.toNat [] (a8 (decide (16384<min (s.told+n) ax)) {s with told:=min (s.told+n) ax})
def da (sizes:Λ):Bool:=decide (4096<aM (sizes.map λk=>min k 4097))
structure cg where
 scope:Λ
 sizes:Λ
 other:Int
 lines:List (Λ×Int)
deriving DecidableEq
def cX (all:Λ) (s:aH):Option (cg×aH):=match bb (-ax) ax s with
 |none=>ν
 |some (a,s)=>match eI all.length a.natAbs s with
  |none=>ν
  |some (scope,s)=>
   let sizes:=scope.map λv=>all.getD v.toNat 0
   match bb 0 ax (a8 (decide (6<a.natAbs)||da sizes) s) with
   |none=>ν
   |some (other,s)=>match dA sizes s with
    |none=>ν
    |some (lines,s)=>σ (⟨scope,sizes,other,lines⟩,if a<0 then {s with shared:=s.shared++[(sizes,lines)]} else s)
def fj (most:Int) (_:Λ) (s:aH):Option (Int×aH):=match bb 1 most s with
 |none=>ν
 |some (z,s)=>σ (z,a8 (decide (32<z)) s)
structure b2 where
 name:Λ
 k:Int
 sizes:Λ
 funs:List cg
deriving DecidableEq
def gO (s:aH):Option (b2×aH):=match dy s with
 |none=>ν
 |some (name,s)=>match bb 1 ax (a8 (decide (64<name.length)) s) with
  |none=>ν
  |some (n,s)=>match bb 1 ax (a8 (decide (64<n)) s) with
   |none=>ν
   |some (most,s)=>match bb 0 ax s with
    |none=>ν
    |some (count,s)=>match bb 1 ax (a8 (decide (256<count)) s) with
     |none=>ν
     |some (k,s)=>match cD (fj most) n.toNat [] (a8 (decide (2147483648<k)) s) with
      |none=>ν
      |some (sizes,s)=>match cD (λ_ s=>cX sizes s) count.toNat [] s with
       |none=>ν
       |some (funs,s)=>σ (⟨name,k,sizes,funs⟩,s)
def fO (p:Λ):Option b2:=if 65536<p.length then ν else match gO ⟨(lex p).1,0,false,[]⟩ with
 |none=>ν
 |some (f,s)=>if s.toks=[]/\(lex p).2=true/\s.big=false then σ f else ν
def ln (n:Int) (I:Bool) (v:Int):Prop:=0<=n/\n<=4611686018427387909/\(I=true->v=ax)/\(I=false->v=min ax n)
theorem FT {n b v:Int} {I:Bool} (h:ln n I v) (X:48<=b/\b<=57):
  ln (if I=true\/461168601842738790<n then n else 10*n+(b-48)) (I||decide (461168601842738790<n)) (eH v b):=by
 obtain⟨h1,U,V,W⟩:=h;unfold eH ln ax at*;cases I with
 |true=>
  have:=V rfl;rw[if_pos (.inl rfl)];exact⟨h1,U,λ_=>Ω,λh=>by cases h⟩
 |false=>
  have:=W rfl;by_cases J:461168601842738790<n
  .rw[if_pos (.inr J),decide_eq_true J];exact⟨h1,U,λ_=>Ω,λh=>by cases h⟩
  .rw[if_neg (by simp[J]),decide_eq_false J];exact⟨Ω,Ω,(λh=>by cases h),λ_=>Ω⟩
theorem FU:ln 0 false 0:=by unfold ln ax;exact⟨Ω,Ω,(λh=>by cases h),λ_=>Ω⟩
theorem FV {n v:Int} {I:Bool} (h:ln n I v):v=if I=true\/4611686018427387904<n then 4611686018427387904 else n:=by
 obtain⟨h1,W,U,V⟩:=h;unfold ax at*;cases I with
 |true=>rw[if_pos (.inl rfl)];exact U rfl
 |false=>
  have:=V rfl;by_cases J:4611686018427387904<n
  .rw[if_pos (.inr J)];omega
  .rw[if_neg (by simp[J])];omega
end Go.Proofs.YtgbkinibgjmodaaGreatDoor
