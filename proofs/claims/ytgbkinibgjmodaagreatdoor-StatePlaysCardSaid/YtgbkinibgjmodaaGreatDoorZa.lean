/- own texts, made small by a tool (wip/ holds them as they were written): no statement of the seat. -/
import Derived.RangeFuncNested
import Derived.RangeFuncLeaves
import Derived.OrdersIn
import Derived.KernelRfl
import Derived.Deep.Upon
import Derived.RangeFuncBound
import Derived.Deep.MidRow
import Derived.Laws.Cover3
import Derived.Laws.Pointers
import Derived.Laws.StructEq
import Derived.Laws.Tables
import Derived.Below
import Derived.Laws.MakeOwn
import Derived.Lib.Overlaps
import Derived.Lib.AppendZerosOnto
import Derived.Lib.SliceRun
import Derived.OpenShut
import Derived.Lib.ConvBytes
import Derived.Laws.BytesArg
import Derived.Laws.Concat
import Derived.MapKept
import Derived.Carry
import Derived.WideKeyArr
import Derived.WideKeyMaps
import Derived.Laws.IdiomRangeMap
import Derived.Shelf.SlSortCmp.NoneTotal
import Derived.Shelf.SlSortCmp.WholeK
import Derived.Ground.SlsfProg
import Derived.WideKeyEntry
import Derived.WalkKit
import Derived.Test.YtgbkinibgjmodaaGreatDoorProg
import Derived.Test.YtgbkinibgjmodaaGreatDoorChecked
set_option linter.unusedVariables false
set_option linter.unusedSimpArgs false
set_option linter.unnecessarySimpa false
open Array renaming getElem?_eq_some_iff→j4,getElem?_toList→S3
open BitVec renaming ofInt→U5
open Bool renaming not_true→Y1,not_false→X4,eq_iff_iff→V8,and_eq_true→U1,true_and→U7,or_eq_false_iff→S0
open Decidable renaming not_not→X2
open Go renaming Value→x1,World→x2,TypeId→u9,IntKind→o5,Builtin→l5,Program→W5,Oper→U8,Operand→T8
open Go.Addr renaming add_mid→U4
open Go.Builtin renaming append_→l7,len_→Y3
open Go.Instr renaming loadAt→x5,fieldAt→x7,storeAt→o4,indexAt→n0,buildSlice→Z7,extract→Z8,sliceAt→W3,alloc→S6
open Go.IntKind renaming i64→Y5,u64→U3
open Go.Proofs.Tryz renaming prog→x3
open Go.Result renaming andThen→W0
open Go.Sem renaming run_bind→X8,run_pure→W9
open Go.Sort renaming Holds→T9
open Go.Value renaming int→V2
open Int renaming toNat_natCast→j9
open List renaming getElem?_eq_getElem→y0,getElem?_eq_some_iff→x4,mem_of_getElem?→x6,getElem?_map→x8,getD_eq_getElem?_getD→u4,length_map→u5,length_append→r8,take_add_one→r9,replicate→o6,length_take→o7,take_length→o9,mem_append→n9,mem_singleton→l9,getElem?_append_left→j0,length_cons→j5,take_of_length_le→Z0,getElem?_append_right→Z1,eq_nil_of_length_eq_zero→Z2,map_append→Z4,mem_map→Z5,getElem?_take_of_lt→Y2,getElem?_eq_none→Y4,mem_iff_getElem?→Y7,length_set→X1,getElem?_set→X5,ext_getElem?→X6,length_eq_one_iff→X7,range→X9,getElem?_set_ne→W6,drop_eq_getElem_cons→W8,pairwise_iff_getElem→V0,mem_or_eq_of_mem_set→V3,append_nil→V4,getElem?_set_self→V5,flatMap_cons→V6,append_assoc→V9,set_append_right→U6,mem_cons→U9,map_set→T0,length_singleton→T1,mem_of_mem_take→T2,map_cons→S2,length→S9,length_drop→R0,getElem_mem→R2
open Nat renaming le_refl→o8,zero_le→Y9,le_trans→X0,mul_le_mul_right→X3,sub_self→W7,zero_add→V1,add_mul→U2,beq→T3,mul_one→T4,min_eq_left→T5,pow_le_pow_right→S4,le_succ→S5,add_assoc→S7,add_sub_cancel_left→S8
open Ne renaming symm→T7
open Option renaming isNone_some→j6,some→Z3,toList_some→Z9,map_some→Y0,map_eq_some_iff→Y8,map→V7,getD_some→S1
open Option.some renaming inj→Z6,injEq→Y6
open Prod.mk renaming injEq→T6
set_option maxHeartbeats 16000000
open Option renaming some→σ,none→ν
namespace Go
theorem Ω{p:Prop}(h:p:=by omega):p:=h
theorem Ψ{p:Prop}(h:p:=by kernel_rfl):p:=h
theorem Φ{p:Prop}(h:p:=by decide):p:=h
theorem Ξ{p:Prop}(h:p:=by simp):p:=h
theorem Θ{p:Prop}(h:p:=by simp;omega):p:=h
abbrev Γ(n:Nat):Value:=.pointer (some ⟨n,0,none⟩)
abbrev Δ:Int→Value:=Value.int .i64
end Go
variable {a y:Int}{c w w':x2}{S:Nat->Prop}{I U W h j m n o:Nat}{aD s1 sv v z:x1}{args cs vs xs:List x1}{K:x1->Prop}{l szs:List Int}{D:List Nat}{k:o5}{e t:u9}{cx cy:Bool}
namespace Go.Vc
open Go Go.RowKit
def fW:Obj->Bool
 | .loop _=>false
 | .deferred _=>false
 | .mapIter ..=>false
 |_=>true
def book:Obj->Bool
 | .loop _=>true
 | .deferred _=>true
 |_=>false
theorem BK {o:Obj} (h:book o=true):fW o=false:=by cases o <;> first|rfl|cases h
def pN:Obj->Bool
 | .mapIter ..=>true
 |_=>false
theorem BL {o:Obj} (h:pN o=true):fW o=false:=by cases o <;> first|rfl|cases h
structure Ext (w w':x2):Prop where
 size:w.heap.size<=w'.heap.size
 a7:∀ (r:Nat) (o:Obj),w.heap[r]? =σ o->fW o=true->w'.heap[r]? =σ o
theorem Ext.refl (w:x2):Ext w w:=⟨o8 _,λ_ _ h _=>h⟩
theorem Ext.trans {a b:x2} (h:Ext a b) (k:Ext b c):Ext a c:=
 ⟨X0 h.size k.size,λr o J I=>k.a7 r o (h.a7 r o J I) I⟩
structure af (S:Nat->Prop) (w w':x2):Prop where
 size:w.heap.size<=w'.heap.size
 a7:∀ (r:Nat) (o:Obj),w.heap[r]? =σ o->fW o=true->¬S r->w'.heap[r]? =σ o
theorem Ext.V (S:Nat->Prop) (h:Ext w w'):af S w w':=⟨h.size,λr o J I _=>h.a7 r o J I⟩
theorem af.ext (h:af S w w') (U:∀r,r<w.heap.size->¬S r):Ext w w':=
 ⟨h.size,λr o J I=>h.a7 r o J I (U r (j4.1 J).1)⟩
theorem af.refl (S:Nat->Prop) (w:x2):af S w w:=⟨o8 _,λ_ _ h _ _=>h⟩
theorem af.trans {a b:x2} (h:af S a b) (k:af S b c):af S a c:=
 ⟨X0 h.size k.size,λr o U I J=>k.a7 r o (h.a7 r o U I J) I J⟩
theorem af.mono {T:Nat->Prop} {a b:x2} (h:af S a b) (U:∀r,r<a.heap.size->S r->T r):af T a b:=
 ⟨h.size,λr o J I V=>h.a7 r o J I λW=>V (U r (j4.1 J).1 W)⟩
theorem Ext.then {a b:x2} (h:Ext a b) (k:af S b c) (U:∀r,r<a.heap.size->¬S r):Ext a c:=
 ⟨X0 h.size k.size,λr o J I=>k.a7 r o (h.a7 r o J I) I (U r (j4.1 J).1)⟩
def iL (w w':x2):Prop:=w'.tape=w.tape/\w.drawn<=w'.drawn
theorem iL.jm (h:w'.tape=w.tape:=by rfl) (k:w'.drawn=w.drawn:=by rfl):iL w w':=⟨h,Nat.le_of_eq k.symm⟩
theorem iL.trans {a b:x2} (k:iL b c) (h:iL a b):iL a c:=⟨k.1.trans h.1,X0 h.2 k.2⟩
structure cI (w w':x2):Prop where
 os:w'.os=w.os
 tape:iL w w'
 output:w'.output=w.output
 size:w.heap.size<=w'.heap.size
 a7:∀ (r:Nat) (o:Obj),w.heap[r]? =σ o->fW o=false->w'.heap[r]? =σ o
structure ce (n:Nat) (w w':x2):Prop where
 os:w'.os=w.os
 tape:iL w w'
 output:w'.output=w.output
 size:w.heap.size<=w'.heap.size
 a7:∀ (r:Nat) (o:Obj),w.heap[r]? =σ o->book o=true->w'.heap[r]? =σ o
 old:∀ (r:Nat) (o:Obj),r<n->w.heap[r]? =σ o->fW o=false->w'.heap[r]? =σ o
theorem cI.b (h:cI w w'):ce n w w':=⟨h.os,h.tape,h.output,h.size,λr o J I=>h.a7 r o J (BK I),λr o _ J I=>h.a7 r o J I⟩
theorem ce.refl (n:Nat) (w:x2):ce n w w:=⟨rfl,.jm,rfl,o8 _,λ_ _ h _=>h,λ_ _ _ h _=>h⟩
theorem ce.trans {a b:x2} (h:ce n a b) (k:ce n b c):ce n a c:=
 ⟨k.os.trans h.os,k.tape.trans h.tape,k.output.trans h.output,X0 h.size k.size,λr o J I=>k.a7 r o (h.a7 r o J I) I,λr o U J I=>k.old r o U (h.old r o U J I) I⟩
theorem ce.step {a b:x2} (h:ce n a b) (k:ce m b c) (hm:a.heap.size<=m):ce n a c:=
 ⟨k.os.trans h.os,k.tape.trans h.tape,k.output.trans h.output,X0 h.size k.size,λr o J I=>k.a7 r o (h.a7 r o J I) I,
  λr o U J I=>k.old r o (Nat.lt_of_lt_of_le (j4.1 J).1 hm) (h.old r o U J I) I⟩
theorem ce.ds (h:ce n w w') (U:w.heap.size<=n):cI w w':=
 ⟨h.os,h.tape,h.output,h.size,λr o J I=>h.old r o (Nat.lt_of_lt_of_le (j4.1 J).1 U) J I⟩
def eA (w w':x2):Prop:=∀ (r:Nat) (o:Obj),w.heap[r]? =σ o->pN o=true->w'.heap[r]? =σ o
theorem eA.refl (w:x2):eA w w:=λ_ _ h _=>h
theorem eA.trans {a b:x2} (h:eA a b) (k:eA b c):eA a c:=λr o J I=>k r o (h r o J I) I
theorem cI.kQ (h:cI w w'):eA w w':=λr o J I=>h.a7 r o J (BL I)
abbrev eV:=Bool×Nat
theorem cI.refl (w:x2):cI w w:=⟨rfl,.jm,rfl,o8 _,λ_ _ h _=>h⟩
theorem cI.trans {a b:x2} (h:cI a b) (k:cI b c):cI a c:=
 ⟨k.os.trans h.os,k.tape.trans h.tape,k.output.trans h.output,X0 h.size k.size,λr o J I=>k.a7 r o (h.a7 r o J I) I⟩
theorem pO (w:x2) (n:Nat):Ext w {w with drawn:=n}:=⟨o8 _,λ_ _ h _=>h⟩
theorem n1 (w:x2) (n:Nat) (h:w.drawn<=n):cI w {w with drawn:=n}:=⟨rfl,⟨rfl,h⟩,rfl,o8 _,λ_ _ h _=>h⟩
theorem n2 (w:x2) (o:Obj):Ext w {w with heap:=w.heap.push o}:=
 ⟨Ξ,λr o' h _=>by
  have I:=(j4.1 h).1;simp only[Array.getElem?_push];rw[if_neg Ω];exact h⟩
theorem n3 (w:x2) (o:Obj):cI w {w with heap:=w.heap.push o}:=
 ⟨rfl,.jm,rfl,Ξ,λr o' h _=>by
  have I:=(j4.1 h).1;simp only[Array.getElem?_push];rw[if_neg Ω];exact h⟩
inductive dW where
 |v (x:x1)
 |b (c:Bool)
 |u
def dW.val:dW->x1
 | .v x=>x
 | .b c=>.bool c
 | .u=>undef
def dW.ofConst:x1->dW
 | .bool c=>.b c
 |x=>.v x
theorem dW.BM (x:x1):(dW.ofConst x).val=x:=by cases x <;> rfl
abbrev Env:=List (Nat×dW)
def look:Env->Nat->Option dW
 |[],_=>ν
 |(s,x)::r,t=>bif T3 s t then σ x else look r t
def ef (e:Env):T8->Option dW
 | .tmp t=>look e t
 | .const x=>σ (dW.ofConst x)
 | .global g=>σ (.v (Γ g))
 | .func f=>σ (.v (.func (.func f) #[] #[]))
def cE (e:Env) (x:T8):x1:=
 match ef e x with
 |some y=>y.val
 |none=>undef
def known (e:Env):List T8->Bool
 |[]=>true
 |x::r=>(ef e x).isSome&&known e r
def T9 (N:Nat) (e:Env) (a:Act):Prop:=
 a.tmps.size=N/\ ∀t x,look e t=σ x->a.tmps.getD t undef=x.val
theorem T9.ef {N:Nat} {e:Env} {a:Act} (h:T9 N e a) {x:T8} {y:dW} (I:Vc.ef e x=σ y):a.eval x=y.val:=by
 cases x with
 |tmp t=>exact h.2 t y I
 |const v=>simp[Vc.ef] at I;subst I;simp[Act.eval,dW.BM]
 |global g=>simp[Vc.ef] at I;subst I;rfl
 |func f=>simp[Vc.ef] at I;subst I;rfl
theorem T9.eval {N:Nat} {e:Env} {a:Act} (h:T9 N e a) {x:T8} (J:(Vc.ef e x).isSome=true):a.eval x=cE e x:=by
 obtain⟨y,I⟩:=Option.isSome_iff_exists.1 J;rw[h.ef I];simp[cE,I]
theorem rN {e:Env}:∀ {l:List T8},known e l=true-> ∀x∈l,(ef e x).isSome=true
 |[],_,_,I=>by cases I
 |y::r,h,x,I=>by
  simp only[known,U1] at h;cases I with
  |head=>exact h.1
  |tail _ I=>exact rN h.2 x I
def dz (e:Env) (d:Option Tmp) (x:dW):Env:=
 match d with
 |some t=>(t,x)::e
 |none=>e
def ie (N:Nat) (d:Option Tmp):Bool:=
 match d with
 |some t=>Nat.blt t N
 |none=>true
theorem T9.put {N:Nat} {e:Env} {a:Act} (h:T9 N e a) {d:Option Tmp} (V:ie N d=true) {x:dW} (W:x.val=v):
  T9 N (dz e d x) (a.put d v):=by
 cases d with
 |none=>exact h
 |some t=>
  have X:t<N:=by simpa[ie,Nat.blt_eq] using V
  refine⟨by simp[Act.put,h.1],λs y I=>?_⟩;simp only[dz,look] at I;cases J:T3 t s with
  |true=>
   have U:t=s:=Nat.eq_of_beq_eq_true J;subst U;simp only[J,cond_true,Y6] at I;subst I;simp[Act.put,h.1,X,W]
  |false=>
   have U:t≠s:=Nat.ne_of_beq_eq_false J;simp only[J,cond_false] at I;have:=h.2 s y I;simp only[Act.put,Array.getD_eq_getD_getElem?] at this ⊢;rw[Array.getElem?_setIfInBounds_ne U];exact this
def dQ (r:Option Nat):Fence:={Fence.wide with round:=r}
theorem rO (r:Option Nat) (n:Nat):(dQ r).depth.isSome=true->1<=n:=λh=>by simp[dQ,Fence.wide] at h
theorem u1 {r:Option Nat} {P:W5} {f:FuncId} {args:Array x1} {R:Ending->x2->Prop}
  (h:Calls P f args w R):CallsIn (dQ r) n P f args w R:=by
 have:=(callsIn_wide (n:=n)).2 h;exact this
section
variable (P:W5)
def az {α:Type} (s:Sem α) (w:x2) (K:α->x2->Prop):Prop:=∃v w',s.run P w= .ok v w'/\cI w w'/\K v w'
def pP {α:Type} (free:eV) (s:Sem α) (w:x2) (K:α->x2->Prop):Prop:=∃v w',s.run P w= .ok v w'/\(free.1=false->ce free.2 w w')/\K v w'
def Split (x:x1) (A B:Prop):Prop:=∃c,x= .bool c/\(c=true->A)/\(c=false->B)
def aJ:Bool->T8
 |true=>.const (.bool true)
 |false=>.tmp 0
def mI:T8->Bool
 | .const _=>true
 |_=>false
theorem BN (op:BinOp) (t:u9) (x y:T8) (a b:x1):eqGuard op t x y a b=eqGuard op t (aJ (mI x)) (aJ (mI y)) a b:=by
 cases x <;> cases y <;> rfl
def aB (op:BinOp) (t:u9) (cx cy:Bool) (a b:x1):Sem x1:=do eqGuard op t (aJ cx) (aJ cy) a b;binOp op t a b
def pQ (s:Sem Next):Sem x1:=do
 match <-s with
 | .value v=>pure v
 |_=>stuck "no value"
def aX (x:x1):Sem x1:=pQ (execOp (λ_=>x) {dst:=ν,op:=.nilCheck (.tmp 0),type:=0,pos:= "",after:=#[],guard:=ν})
def bS (I:T8->x1):List T8->List x1
 |[]=>[]
 |x::r=>I x::bS I r
theorem pR (I:T8->x1):∀l,bS I l=l.map I
 |[]=>rfl
 |x::r=>by simp[bS,pR I r]
theorem rP (I:T8->x1) (l:Array T8):(bS I l.toList).toArray=l.map I:=by
 apply Array.toList_inj.1;simp[pR]
def partsOf (I:T8->x1):List (Nat×T8)->List (Nat×x1)
 |[]=>[]
 |x::r=>(x.1,I x.2)::partsOf I r
theorem u2 (I:T8->x1):∀l,partsOf I l=l.map λ(i,x)=>(i,I x)
 |[]=>rfl
 |x::r=>by simp[partsOf,u2 I r]
theorem BO (I:T8->x1) (l:Array (Nat×T8)):(partsOf I l.toList).toArray=l.map λ(i,x)=>(i,I x):=by
 apply Array.toList_inj.1;simp[u2]
def opsOf:Op->List T8
 | .alloc _| .ready _| .waits _=>[]
 | .move x| .assign x| .box _ x| .load _ x| .nilCheck x| .unOp _ _ x| .convert _ _ x| .sliceToArrayPointer _ x| .makeInterface _ x
 | .makeChan _ x| .fieldAddr _ x _| .field _ x _| .range _ x| .next x _| .entry x| .typeAssert x _ _ _| .extract x _| .panic x| .recv _ x _=>[x]
 | .pick c a b=>[c,a,b]
 | .build _ I| .buildSlice _ _ I=>I.toList.map (·.2)
 | .store _ a v| .binOp _ _ a v _| .makeSlice _ a v| .indexAddr _ a v| .index _ a v| .lookup _ a v _| .mapEntry _ a v| .send a v=>[a,v]
 | .makeFunc _ first J=>first.toList++J.toList
 | .makeMap _ r=>match r with
  |some x=>[x]
  |none=>[]
 | .slice _ x l h m=>x::((match l with
  |some y=>[y]
  |none=>[])++((match h with
  |some y=>[y]
  |none=>[])++(match m with
  |some y=>[y]
  |none=>[])))
 | .mapUpdate _ m k v| .entryStore _ m k v| .insert _ m k v=>[m,k,v]
 | .call c=>match c.callee with
  | .value f=>f::c.args.toList
  | .invoke r _=>r::c.args.toList
  | .builtin _=>c.args.toList
 | .go _| .defer _| .select ..=>[]
theorem BP {op:Op} (h1:∀c,op≠ .go c) (J:∀c,op≠ .defer c) (U:∀cs b,op≠ .select cs b):∀x∈op.operands,x∈opsOf op:=by
 intro x I;cases op <;> simp only[Op.operands,opsOf] at I ⊢ <;> try (first|(simp at I;done)|(simp at I ⊢;exact I))
 case go c=>exact absurd rfl (h1 c)
 case defer c=>exact absurd rfl (J c)
 case select cs b=>exact absurd rfl (U cs b)
 case makeMap t r=>cases r <;> simp at I ⊢ <;> exact I
 case slice t y l h m=>cases l <;> cases h <;> cases m <;> simpa[or_assoc] using I
 case call c=>cases V:c.callee <;> simpa[Call.operands,V] using I
def n4 (I:T8->x1):Op->Option (Sem x1)
 | .pick c a b=>σ (do pure (if <-asBool (I c) then I a else I b))
 | .alloc V=>σ (S6 V true (.tuple #[]))
 | .box V x=>σ (Instr.box V (I x))
 | .build t parts=>σ (Instr.build t (partsOf I parts.toList).toArray)
 | .buildSlice t len parts=>σ (Z7 t len (partsOf I parts.toList).toArray)
 | .load t a=>σ (x5 t (I a))
 | .nilCheck x=>σ (aX (I x))
 | .binOp op J x y _=>σ (aB op J (mI x) (mI y) (I x) (I y))
 | .unOp op _ x=>σ (Op.unary op (I x))
 | .convert src dst x=>σ (convert src dst (I x))
 | .makeInterface J x=>σ (Instr.makeInterface J (I x))
 | .makeFunc fn first W=>σ (Instr.makeFunc fn (bS I first.toList).toArray (bS I W.toList).toArray)
 | .makeMap t r=>σ (Instr.makeMap t (r.map I))
 | .makeSlice t l c=>σ (Instr.makeSlice t (I l) (I c))
 | .slice t x lo hi mx=>σ (W3 t (I x) (lo.map I) (hi.map I) (mx.map I))
 | .fieldAddr s x f=>σ (x7 s (I x) f)
 | .field J x f=>σ (Instr.field J (I x) f)
 | .indexAddr t x U=>σ (n0 t (I x) (I U))
 | .index J x U=>σ (Instr.index J (I x) (I U))
 | .lookup J x U ok=>σ (Instr.lookup J (I x) (I U) ok)
 | .mapEntry t m k=>σ (Instr.mapEntry t (I m) (I k))
 | .range J x=>σ (Instr.range J (I x))
 | .entry X=>σ (Instr.entry (I X))
 | .typeAssert x J Y ok=>σ (Instr.typeAssert (I x) J Y ok)
 | .extract t U=>σ (Z8 (I t) U)
 |_=>ν
def rQ (I:T8->x1):Op->Option (Sem Unit)
 | .store t a x=>σ (o4 t (I a) (I x))
 | .mapUpdate t m k x=>σ (Instr.mapUpdate t (I m) (I k) (I x))
 | .insert t m k x=>σ (Instr.mapUpdate t (I m) (I k) (I x))
 | .entryStore t m s x=>σ (Instr.entryStore t (I m) (I s) (I x))
 |_=>ν
def mJ (b:l5) (ats:Array u9) (I:u9) (args:Array x1):Option (Sem x1):=
 match b with
 | .append=>σ (l7 ats I args)
 | .cap=>σ (l5.cap_ ats I args)
 | .clear=>σ (l5.clear_ ats I args)
 | .copy=>σ (l5.copy_ ats I args)
 | .delete=>σ (l5.delete_ ats I args)
 | .len=>σ (Y3 ats I args)
 | .max=>σ (l5.max_ ats I args)
 | .min=>σ (l5.min_ ats I args)
 |_=>ν
theorem BQ {s:Sem Next} (h:(pQ s).run P w= .ok v w'):s.run P w= .ok (.value v) w':=by
 unfold pQ at h;rw[X8] at h;cases I:s.run P w with
 |halt x U=>rw[I] at h;simp[W0] at h
 |ok x U=>
  rw[I] at h;cases x <;> simp_all [W0,stuck,W9]
theorem BR (x:x1) (b:Bool) (t:u9):Instr.next x b 0=Instr.next x b t:=rfl
theorem rR {V:T8->x1} {o:U8} {s:Sem x1} (h:n4 V o.op=σ s) (I:s.run P w= .ok v w'):
  (execOp V o).run P w= .ok (.value v) w':=by
 cases J:o.op with
 |nilCheck x=>
  rw[J] at h;cases h;have:=BQ P I;unfold execOp at this ⊢;simpa[J] using this
 |pick c x y=>
  rw[J] at h;cases h;unfold execOp;simp only[J,X8,W9] at I ⊢;cases W:(asBool (V c)).run P w with
  |halt x U=>rw[W] at I;simp[W0] at I
  |ok x U=>rw[W] at I;simp only[W0,Result.ok.injEq] at I ⊢;simp[I]
 |binOp op X x y Y=>
  rw[J] at h;cases h;unfold execOp;simp only[J];unfold aB at I;rw[<-BN] at I;simp only[X8,W9] at I ⊢;rw[I];rfl
 |_=>
  rw[J] at h
  first
   |(cases h;done)
   |(cases h;simp only[rP,BO] at I;unfold execOp;simp only[J,X8,I,W0,W9])
   |(cases h;unfold execOp;simp only[J,X8,I,W0,W9])
theorem BS {I:T8->x1} {o:U8} {s:Sem Unit} (h:rQ I o.op=σ s) {v:Unit} (U:s.run P w= .ok v w'):
  (execOp I o).run P w= .ok .skip w':=by
 cases J:o.op with
 |_=>
  rw[J] at h
  first
   |(cases h;done)
   |(cases h;unfold execOp;simp only[J,X8,U,W0,W9])
def Enters (f:FuncId):Prop:=∀args w,(callFunc f args).run P w= .ok (.enter f args) w
inductive aj (f:FuncId) (args:List x1) (w:x2) (K:x1->x2->Prop):Prop
 |code (h1:Enters P f) (h2:Calls P f args.toArray w λe w'=>∃v,e= .returned v/\cI w w'/\K v w')
 |ext (v:x1) (w':x2) (h1:(callFunc f args.toArray).run P w= .ok (.value v) w') (h2:cI w w') (h3:K v w')
inductive fX (f:FuncId) (args:List x1) (w:x2) (K:x1->x2->Prop):Prop
 |code (h1:Enters P f) (h2:Calls P f args.toArray w λe w'=>∃v,e= .returned v/\K v w')
 |ext (v:x1) (w':x2) (h1:(callFunc f args.toArray).run P w= .ok (.value v) w') (h3:K v w')
theorem fX.calls {f:FuncId} {K:x1->x2->Prop} (h:fX P f args w K) (I:Enters P f):Calls P f args.toArray w λe w'=>∃v,e= .returned v/\K v w':=by
 cases h with
 |code _ h=>exact h
 |ext v w' h1=>rw[I] at h1;cases h1
def ig (l:Nat) (args:List x1) (w:x2) (K:x1->x2->Prop):Prop:=
 YieldAt Fence.wide 0 P l args.toArray w λe w'=>∃v,e= .returned v/\K v w'
theorem ig.mono {P:W5} {l:Nat} {K I:x1->x2->Prop} (h:ig P l args w K) (J:∀v w',K v w'->I v w'):ig P l args w I:=by
 obtain⟨fn,tmps,U,body,V,W⟩:=h;exact⟨fn,tmps,U,body,V,RoundIn.mono W λ_ w' ⟨v,h1,X⟩=>⟨v,h1,J v w' X⟩⟩
def pS (free:Bool) (f:x1) (args:List x1) (w:x2) (K:x1->x2->Prop):Prop:=
 match f with
 | .func (.func g) first cap=>bif free then fX P g (first.toList++args++cap.toList) w K else aj P g (first.toList++args++cap.toList) w K
 | .func (.yield l) first _=>bif free then free=true/\ig P l (first.toList++args) w K else ig P l (first.toList++args) w λv w'=>cI w w'/\K v w'
 |_=>False
def J (s:Sem x1) (w:x2) (K:x1->Prop):Prop:=∃v,(∀w',Ext w w'->s.run P w'= .ok v w')/\K v
def BT:List (Nat×Nat):=[(9,22),(22,22)]
def BU (s d:Nat):Bool:=BT.any λp=>T3 p.1 s&&T3 p.2 d
def hR (o:U8):Bool:=
 match o.op with
 | .convert s d _=>!BU s d
 | .move _| .assign _| .pick .. | .load .. | .nilCheck _| .binOp .. | .unOp .. | .makeInterface .. | .makeFunc .. | .slice .. | .fieldAddr .. | .field ..
 | .indexAddr .. | .index .. | .lookup .. | .extract .. | .build .. | .typeAssert ..=>true
 | .call c=>
  match c.callee with
  | .builtin .len| .builtin .cap| .builtin .min| .builtin .max=>true
  |_=>false
 |_=>false
def bk (s:Sem x1) (v:x1) (w':x2):Prop:=∀I,Ext w' I->s.run P I= .ok v I
def jY (o:U8) (e:Env) (w:x2) (K:Env->(x2->Prop)->Prop):Prop:=
 bif known e (opsOf o.op) then
  match o.op with
  | .move x| .assign x=>
   match ef e x with
   |some y=>K (dz e o.dst y) (λ_=>True)
   |none=>False
  | .pick c a b=>
   match ef e c with
   |some (.b true)=>(match ef e a with|some y=>K (dz e o.dst y) (λ_=>True)|none=>False)
   |some (.b false)=>(match ef e b with|some y=>K (dz e o.dst y) (λ_=>True)|none=>False)
   |some (.v x)=>Split x (K (dz e o.dst (.v (cE e a))) (λ_=>True)) (K (dz e o.dst (.v (cE e b))) (λ_=>True))
   |some .u=>False
   |none=>False
  | .call c=>
   match c.callee with
   | .builtin b=>
    match mJ b c.argTypes o.type (bS (cE e) c.args.toList).toArray with
    |some s=>J P s w λv=>K (dz e o.dst (.v v)) (bk P s v)
    |none=>False
   |_=>False
  |op=>
   match n4 (cE e) op with
   |some s=>J P s w λv=>K (dz e o.dst (.v v)) (bk P s v)
   |none=>False
 else False
def rS (free:eV) (o:U8) (e:Env) (w:x2) (K:Env->x2->Prop):Prop:=
 bif known e (opsOf o.op) then
  match o.op with
  | .call c=>
   match c.callee with
   | .builtin b=>
    match mJ b c.argTypes o.type (bS (cE e) c.args.toList).toArray with
    |some s=>az P s w λv w'=>K (dz e o.dst (.v v)) w'
    |none=>False
   | .value (.func f)=>
    bif free.1 then fX P f (bS (cE e) c.args.toList) w λv w'=>K (dz e o.dst (.v v)) w'
    else aj P f (bS (cE e) c.args.toList) w λv w'=>K (dz e o.dst (.v v)) w'
   | .value x=>pS P free.1 (cE e x) (bS (cE e) c.args.toList) w λv w'=>K (dz e o.dst (.v v)) w'
   | .invoke _ _=>False
  | .next x str=>pP P free (Instr.next (cE e x) str 0) w λv w'=>K (dz e o.dst (.v v)) w'
  |op=>
   match n4 (cE e) op with
   |some s=>az P s w λv w'=>K (dz e o.dst (.v v)) w'
   |none=>
    match rQ (cE e) op with
    |some s=>az P s w λ_ w'=>K (dz e o.dst (.v undef)) w'
    |none=>False
 else False
def mK (free:eV) (o:U8) (e:Env) (w:x2) (K:Env->x2->Prop):Prop:=
 bif hR o then jY P o e w (λI _=>K I w) else rS P free o e w K
theorem Enters.of {f:FuncId} {fn:Func} {c:Code} (I:P.funcs[f]? =σ fn) (J:fn.body=σ c) (U:(fn.name == "runtime.NumGoroutine")=false):Enters P f:=by
 intro args w;have V:fn.name≠ "runtime.NumGoroutine":=by simpa using U
 unfold callFunc;simp[X8,program,Sem.run,W0,I,V,J,W9]
variable {P}
variable {N:Nat} {r:Option Nat} {o:U8} {e:Env} {a:Act} {w:x2}
theorem iM (J:T9 N e a) (U:known e (opsOf o.op)=true) (I:∀cs b,o.op≠ .select cs b) (V:∀c,o.op≠ .go c:=by simp_all) (W:∀c,o.op≠ .defer c:=by simp_all):
  execOp a.eval o=execOp (cE e) o:=
 execOp_congr o I λx X=>J.eval (rN U x (BP V W I x X))
theorem n5 {next:Act->x2->Prop} {Q:Exit->Act->x2->Prop} (U:T9 N e a) (V:known e (opsOf o.op)=true) (I:∀cs b,o.op≠ .select cs b)
  (J:∀c,o.op≠ .defer c) {v:x1} {w':x2} (W:(execOp (cE e) o).run P w= .ok (.value v) w') (h:next (a.put o.dst v) w') (X:∀c,o.op≠ .go c:=by simp_all):o.wpIn (dQ r) 0 P a w next Q:=by
 refine⟨λ_ _=>trivial,?_⟩;rw[U8.semAt_eq _ _ _ J,iM U V I X J,W,U8.uponIn_value];exact h
theorem BV {next:Act->x2->Prop} {Q:Exit->Act->x2->Prop} (U:T9 N e a) (V:known e (opsOf o.op)=true) (I:∀cs b,o.op≠ .select cs b)
  (J:∀c,o.op≠ .defer c) {w':x2} (W:(execOp (cE e) o).run P w= .ok .skip w') (h:next (a.put o.dst undef) w') (X:∀c,o.op≠ .go c:=by simp_all):o.wpIn (dQ r) 0 P a w next Q:=by
 refine⟨λ_ _=>trivial,?_⟩;rw[U8.semAt_eq _ _ _ J,iM U V I X J,W,U8.uponIn_skip];exact h
def eO (N:Nat) (free:eV) (K:Env->x2->Prop) (o:U8) (a:Act) (w:x2) (a':Act) (w':x2):Prop:=
 ∃I v,K I w'/\T9 N I a'/\a'=a.put o.dst v/\(free.1=false->ce free.2 w w')
theorem eO.of {free:eV} {K:Env->x2->Prop} {x:dW} (I:K (dz e o.dst x) w') (J:T9 N e a) (U:ie N o.dst=true) (V:x.val=v)
  (W:free.1=false->ce free.2 w w'):eO N free K o a w (a.put o.dst v) w':=⟨_,v,I,J.put U V,rfl,W⟩
theorem u3 {free:eV} {K:Env->x2->Prop} {Q:Exit->Act->x2->Prop} {f:FuncId} {args:Array x1} (J:T9 N e a) (U:ie N o.dst=true)
  (h:Calls P f args w λI w'=>∃v,I= .returned v/\(free.1=false->ce free.2 w w')/\K (dz e o.dst (.v v)) w'):
  o.uponIn (dQ r) 0 P a (eO N free K o a w) Q (.ok (.enter f args) w):=by
 rw[U8.uponIn_enter];refine⟨rO _ _,CallsIn.mono (u1 h) ?_⟩;rintro I w' ⟨v,rfl,V,W⟩;exact eO.of W J U rfl V
theorem jZ {x:T8} {y:dW} (h:ef e x=σ y):cE e x=y.val:=by simp[cE,h]
theorem u6 {l:List T8} {x:T8} (I:known e l=true) (J:x∈l):∃y,ef e x=σ y:=Option.isSome_iff_exists.1 (rN I x J)
theorem u7 {K:Env->(x2->Prop)->Prop} (h:jY P o e w K) (aa:T9 N e a) (ai:ie N o.dst=true):
  ∃v,∃st:x2->Prop,(∀w',Ext w w'->(execOp a.eval o).run P w'= .ok (.value v) w')/\(∃ab,K ab st/\T9 N ab (a.put o.dst v))/\(∀c,o.op≠ .defer c)/\
   (∀w',st w'-> ∀U,Ext w' U->(execOp a.eval o).run P U= .ok (.value v) U):=by
 unfold jY at h;cases Y:known e (opsOf o.op) with
 |false=>rw[Y] at h;exact h.elim
 |true=>
  rw[Y] at h;simp only[cond_true] at h;have put:∀ {x:dW} {v:x1} {st:x2->Prop},K (dz e o.dst x) st->x.val=v-> ∃ab,K ab st/\T9 N ab (a.put o.dst v):=λh1 ac=>⟨_,h1,aa.put ai ac⟩;cases J:o.op with
  |move x=>
   rw[J] at h;simp only at h;cases W:ef e x with
   |none=>rw[W] at h;exact h.elim
   |some y=>
    rw[W] at h;have all:∀w':x2,(execOp a.eval o).run P w'= .ok (.value y.val) w':=λw'=>by
     rw[iM aa Y (by simp[J])];unfold execOp;simp only[J,W9,jZ W]
    exact⟨y.val,_,λw' _=>all w',put h rfl,Ξ,λ_ _ U _=>all U⟩
  |assign x=>
   rw[J] at h;simp only at h;cases W:ef e x with
   |none=>rw[W] at h;exact h.elim
   |some y=>
    rw[W] at h;have all:∀w':x2,(execOp a.eval o).run P w'= .ok (.value y.val) w':=λw'=>by
     rw[iM aa Y (by simp[J])];unfold execOp;simp only[J,W9,jZ W]
    exact⟨y.val,_,λw' _=>all w',put h rfl,Ξ,λ_ _ U _=>all U⟩
  |pick c x y=>
   rw[J] at h;simp only at h;have ae:=Y;rw[J] at ae;obtain⟨am,W⟩:=u6 ae (x:=x) (by simp[opsOf]);obtain⟨an,ah⟩:=u6 ae (x:=y) (by simp[opsOf]);have ad:∀ (t:Bool) (w':x2),cE e c= .bool t->(execOp a.eval o).run P w'= .ok (.value (if t=true then cE e x else cE e y)) w':=by
    intro t w' af;rw[iM aa Y (by simp[J])];unfold execOp;simp[J,af,asBool,W9]
   cases V:ef e c with
   |none=>rw[V] at h;exact h.elim
   |some aj=>
    rw[V] at h;cases aj with
    |b t=>
     cases t with
     |true=>
      simp only[W] at h;exact⟨_,_,λw' _=>ad true w' (jZ V),put h (by simp[jZ W]),Ξ,λ_ _ w' _=>ad true w' (jZ V)⟩
     |false=>
      simp only[ah] at h;exact⟨_,_,λw' _=>ad false w' (jZ V),put h (by simp[jZ ah]),Ξ,λ_ _ w' _=>ad false w' (jZ V)⟩
    |v z=>
     obtain⟨t,ak,af,al⟩:=h;have X:=λw'=>ad t w' (by rw[jZ V];exact ak);cases t with
     |true=>exact⟨_,_,λw' _=>X w',put (af rfl) rfl,Ξ,λ_ _ w' _=>X w'⟩
     |false=>exact⟨_,_,λw' _=>X w',put (al rfl) rfl,Ξ,λ_ _ w' _=>X w'⟩
    |u=>exact h.elim
  |call c=>
   rw[J] at h;simp only at h;cases V:c.callee with
   |builtin b=>
    rw[V] at h;simp only at h;rw[rP] at h;cases I:mJ b c.argTypes o.type (c.args.map (cE e)) with
    |none=>rw[I] at h;exact h.elim
    |some s=>
     rw[I] at h;obtain⟨v,X,ag⟩:=h;have all:∀w':x2,s.run P w'= .ok v w'->(execOp a.eval o).run P w'= .ok (.value v) w':=λw' X=>by
      rw[iM aa Y (by simp[J])];unfold execOp;cases b <;> simp only[mJ] at I <;> first|(cases I;done)|(cases I;simp[J,V,resolve,invoke,builtin,X,W0])
     exact⟨v,_,λw' hw=>all w' (X w' hw),put ag rfl,Ξ,λw' h1 U ac=>all U (h1 U ac)⟩
   |value x=>rw[V] at h;exact h.elim
   |invoke x m=>rw[V] at h;exact h.elim
  |_=>
   rw[J] at h
   first
    |(simp only[n4] at h;done)
    |(obtain⟨v,X,ag⟩:=h
      refine⟨v,_,λw' hw=>?_,put ag rfl,Ξ,λw' h1 U ac=>?_⟩
      .rw[iM aa Y (by simp[J])];exact rR P (by rw[J];rfl) (X w' hw)
      .rw[iM aa Y (by simp[J])];exact rR P (by rw[J];rfl) (h1 U ac))
theorem BW {free:eV} {K:Env->x2->Prop} {Q:Exit->Act->x2->Prop} (h:rS P free o e w K) (U:T9 N e a) (ab:ie N o.dst=true):
  o.wpIn (dQ r) 0 P a w (eO N free K o a w) Q:=by
 unfold rS at h;cases V:known e (opsOf o.op) with
 |false=>rw[V] at h;exact h.elim
 |true=>
  rw[V] at h;simp only[cond_true] at h;cases J:o.op with
  |call c=>
   rw[J] at h;simp only at h;cases ac:c.callee with
   |builtin b=>
    rw[ac] at h;simp only at h;rw[rP] at h;cases I:mJ b c.argTypes o.type (c.args.map (cE e)) with
    |none=>rw[I] at h;exact h.elim
    |some s=>
     rw[I] at h;obtain⟨v,w',W,Y,aa⟩:=h;refine n5 U V (by simp[J]) (by simp[J]) (v:=v) (w':=w') ?_ (eO.of aa U ab rfl λ_=>Y.b);unfold execOp;cases b <;> simp only[mJ] at I <;> first|(cases I;done)|(cases I;simp[J,ac,resolve,invoke,builtin,W,W0])
   |value x=>
    rw[ac] at h;have step:∀ (d:Deferred) (y:x1),cE e x=y->Deferred.ofValue y (c.args.map (cE e))=pure d->
      (invoke d.target d.args).run P w=(execOp (cE e) o).run P w:=by
     intro d y X am;unfold execOp;simp only[J,ac,resolve,X,am,X8,W9,W0]
    have af:∀ (g:FuncId) (first cap:Array x1),cE e x= .func (.func g) first cap->
      (execOp (cE e) o).run P w=(callFunc g (first.toList++bS (cE e) c.args.toList++cap.toList).toArray).run P w:=by
     intro g first cap X
     rw[<-step {target:=.fn (.func g) cap,args:=first++c.args.map (cE e)} _ X rfl];simp only[invoke];have ag:first++c.args.map (cE e)++cap=(first.toList++bS (cE e) c.args.toList++cap.toList).toArray:=by apply Array.toList_inj.1;simp[pR]
     rw[ag]
    have enter:∀ (g:FuncId) (first cap:Array x1),cE e x= .func (.func g) first cap->Enters P g->
      (execOp (cE e) o).run P w= .ok (.enter g (first.toList++bS (cE e) c.args.toList++cap.toList).toArray) w:=by
     intro g first cap X ad
     rw[af g first cap X,ad]
    have go:∀ (g:FuncId) (first cap:Array x1),cE e x= .func (.func g) first cap->
      (bif free.1 then fX P g (first.toList++bS (cE e) c.args.toList++cap.toList) w λv w'=>K (dz e o.dst (.v v)) w'
       else aj P g (first.toList++bS (cE e) c.args.toList++cap.toList) w λv w'=>K (dz e o.dst (.v v)) w')->
      o.wpIn (dQ r) 0 P a w (eO N free K o a w) Q:=by
     intro g first cap X h
     obtain⟨fr,an⟩:=free;cases fr with
     |true=>
      rcases h with⟨ad,ah⟩|⟨v,w',W,aa⟩
      .refine⟨λ_ _=>trivial,?_⟩;rw[U8.semAt_eq _ _ _ (by simp[J]),iM U V (by simp[J])];rw[enter g first cap X ad];exact u3 U ab (ah.mono λae w' ⟨v,h1,ai⟩=>⟨v,h1,(λh=>by cases h),ai⟩)
      .rw[<-af g first cap X] at W;exact n5 U V (by simp[J]) (by simp[J]) W (eO.of aa U ab rfl λh=>by cases h)
     |false=>
      rcases h with⟨ad,ah⟩|⟨v,w',W,Y,aa⟩
      .refine⟨λ_ _=>trivial,?_⟩;rw[U8.semAt_eq _ _ _ (by simp[J]),iM U V (by simp[J])];rw[enter g first cap X ad];exact u3 U ab (ah.mono λae w' ⟨v,h1,Y,ai⟩=>⟨v,h1,λ_=>Y.b,ai⟩)
      .rw[<-af g first cap X] at W;exact n5 U V (by simp[J]) (by simp[J]) W (eO.of aa U ab rfl λ_=>Y.b)
    have ak:pS P free.1 (cE e x) (bS (cE e) c.args.toList) w (λv w'=>K (dz e o.dst (.v v)) w')->
      o.wpIn (dQ r) 0 P a w (eO N free K o a w) Q:=by
     intro h;unfold pS at h;split at h
     .rename_i g first cap X
      exact go g first cap X h
     .rename_i l first cap X
      obtain⟨fn,tmps,al,body,ao,ap⟩:ig P l (first.toList++bS (cE e) c.args.toList) w λv w'=>(free.1=false->ce free.2 w w')/\K (dz e o.dst (.v v)) w':=by
       obtain⟨fr,an⟩:=free;cases fr with
       |true=>exact ig.mono h.2 λv w' V=>⟨(λh=>by cases h),V⟩
       |false=>exact ig.mono h λv w' V=>⟨λ_=>V.1.b,V.2⟩
      refine⟨λ_ _=>trivial,?_⟩;rw[U8.semAt_eq _ _ _ (by simp[J]),iM U V (by simp[J])];have:(execOp (cE e) o).run P w= .ok (.round l fn tmps al body) w:=by
       rw[<-step {target:=.fn (.yield l) cap,args:=first++c.args.map (cE e)} _ X rfl,<-ao];have ag:(first.toList++bS (cE e) c.args.toList).toArray=first++c.args.map (cE e):=by apply Array.toList_inj.1;simp[pR]
       rw[ag];rfl
      rw[this,U8.uponIn_round];refine⟨rO _ _,?_⟩;have aq:RoundIn (dQ r) (0-1) P l fn tmps al body w λae w'=>∃v,ae= .returned v/\(free.1=false->ce free.2 w w')/\K (dz e o.dst (.v v)) w':=ap;refine RoundIn.mono aq ?_;rintro ae w' ⟨v,rfl,Y,aa⟩;exact eO.of aa U ab rfl Y
     .exact h.elim
    cases x with
    |func f=>exact go f #[] #[] rfl (by simpa using h)
    |tmp t=>exact ak h
    |const v=>exact ak h
    |global g=>exact ak h
   |invoke x m=>rw[ac] at h;exact h.elim
  |next x str=>
   rw[J] at h;obtain⟨v,w',W,Y,aa⟩:=h;refine n5 U V (by simp[J]) (by simp[J]) (v:=v) (w':=w') ?_ (eO.of aa U ab rfl Y);rw[BR _ _ o.type] at W;unfold execOp;simp only[J,X8,W,W0,W9]
  |_=>
   rw[J] at h
   first
    |(simp only[n4,rQ] at h;done)
    |(obtain⟨v,w',W,Y,aa⟩:=h
      exact n5 U V (by simp[J]) (by simp[J]) (rR P (by rw[J];rfl) W) (eO.of aa U ab rfl λ_=>Y.b))
    |(obtain⟨v,w',W,Y,aa⟩:=h
      exact BV U V (by simp[J]) (by simp[J]) (BS P (by rw[J];rfl) W) (eO.of aa U ab rfl λ_=>Y.b))
theorem pT {free:eV} {K:Env->x2->Prop} {Q:Exit->Act->x2->Prop} (h:mK P free o e w K) (J:T9 N e a) (U:ie N o.dst=true):
  o.wpIn (dQ r) 0 P a w (eO N free K o a w) Q:=by
 unfold mK at h;cases V:hR o with
 |false=>rw[V] at h;exact BW h J U
 |true=>
  rw[V] at h;have h:jY P o e w (λI _=>K I w):=h;obtain⟨v,st,W,⟨I,X,Y⟩,aa,_⟩:=u7 h J U;refine⟨λ_ _=>trivial,?_⟩;rw[U8.semAt_eq _ _ _ aa,W w (Ext.refl _),U8.uponIn_value];exact⟨I,v,X,Y,rfl,λ_=>ce.refl _ _⟩
end
section
variable {P:W5}
def Still {α:Type} (P:W5) (s:Sem α):Prop:=∀w v U,s.run P w= .ok v U->U=w/\ ∀w',s.run P w'= .ok v w'
theorem Still.pure {α:Type} (a:α):Still P (Pure.pure a:Sem α):=λw v U h=>by
 rw[W9] at h;cases h;exact⟨rfl,λw'=>by rw[W9]⟩
theorem Still.bind {α β:Type} {s:Sem α} {f:α->Sem β} (I:Still P s) (W:∀a,Still P (f a)):Still P (s >>= f):=λw v U h=>by
 rw[X8] at h;cases J:s.run P w with
 |halt x V=>rw[J] at h;simp[W0] at h
 |ok a V=>
  rw[J] at h;obtain⟨rfl,X⟩:=I w a V J;obtain⟨rfl,Y⟩:=W a _ v U h;exact⟨rfl,λw'=>by rw[X8,X w'];exact Y w'⟩
theorem Still.never {α:Type} {s:Sem α} (h:∀w v U,s.run P w≠ .ok v U):Still P s:=λw v U h'=>absurd h' (h w v U)
theorem Still.stuck {α:Type} (m:String):Still P (stuck m:Sem α):=.never λw v U h=>by simp[Go.stuck] at h
theorem Still.unsupported {α:Type} (m):Still P (unsupported m:Sem α):=.never λw v U h=>by simp[Go.unsupported] at h
theorem Still.program:Still P program:=λw v U h=>by cases h;exact⟨rfl,λ_=>rfl⟩
theorem Still.underlying (t:u9):Still P (underlying t):=Still.bind .program λp=>by
 cases p.underlying t with
 |some d=>exact Still.pure d
 |none=>exact Still.stuck _
theorem Still.typeInfo (t:u9):Still P (typeInfo t):=Still.bind .program λp=>by
 cases p.info? t with
 |some d=>exact Still.pure d
 |none=>exact Still.stuck _
theorem Still.sizeOf (t:u9):Still P (sizeOf t):=Still.bind (.typeInfo t) λ_=>Still.pure _
theorem Still.boundsPanic {α:Type} (k:o5) (x y:Int) (c:BoundsCode):Still P (boundsPanic k x y c:Sem α):=.never λw v U h=>by
 have I:∀ (s:Sem Bool) (w:x2) (v:α) (U:x2),(s >>= λb=>(runtimePanic (.bounds (Y5.wrap x) y b c):Sem α)).run P w≠ .ok v U:=by
  intro s w v U h;rw[X8] at h;cases J:s.run P w with
  |halt x V=>rw[J] at h;simp[W0] at h
  |ok a V=>rw[J] at h;simp[W0,Go.runtimePanic,Go.goPanic] at h
 unfold Go.boundsPanic at h;dsimp only at h;split at h
 .exact I _ _ _ _ h
 .exact I _ _ _ _ h
theorem Still.asIntOf (v:x1):Still P (asIntOf v):=by
 unfold Go.asIntOf;split
 .exact Still.pure _
 .exact Still.unsupported _
 .exact Still.stuck _
theorem Still.sureAddr (v:x1):Still P (Instr.sureAddr v):=by
 unfold Instr.sureAddr;split
 .exact Still.pure _
 .exact Still.stuck _
theorem Still.extract (v:x1) (i:Nat):Still P (Z8 v i):=by
 unfold Z8;split
 .split
  .exact Still.pure _
  .exact Still.stuck _
 .exact Still.stuck _
theorem Still.indexAt (t:u9) (x i:x1):Still P (n0 t x i):=by
 have tail:∀ (t:u9) (k:o5) (i:Int) (base:Option Addr) (len:Nat) (I:u9),Still P (do
   let J:=len<=1&&(match <-Go.underlying t with| .array ..=>true|_=>false)
   match base with
   |some a=>
    if 0<=i/\i<len then Pure.pure (x1.pointer (σ (a.add (i.toNat*(<-Go.sizeOf I)))))
    else if J then Go.unsupported (.noEntry "op/indexAddr.an index out of range at an array of length 0 or 1 (ledger 616)")
    else Go.boundsPanic k i len .index
   |none=>Go.boundsPanic k i 0 .index):=by
  intro t k i base len I;refine .bind (.underlying t) λd=>?_;cases base with
  |none=>exact Still.boundsPanic _ _ _ _
  |some a=>
   dsimp only;split
   .exact .bind (.sizeOf I) λ_=>.pure _
   .split <;> split <;> first|exact Still.unsupported _|exact Still.boundsPanic _ _ _ _
 unfold n0;refine .bind (.asIntOf i) λU=>?_;refine .bind (.underlying t) λd=>?_;split
 .refine .bind (.sureAddr _) λb=>?_;refine .bind (.pure _) λy=>?_;exact tail _ _ _ _ _ _
 .refine .bind (.pure _) λy=>?_;exact tail _ _ _ _ _ _
 .refine .bind (.stuck _) λy=>?_;exact tail _ _ _ _ _ _
end
section
variable (P:W5)
def pU (free:eV) (ops:Array U8) (o:U8) (e:Env) (w:x2) (K:Env->x2->Prop):Prop:=
 match o.guard with
 |none=>mK P free o e w K
 |some (j,b)=>
  match (ops[j]?).bind (·.dst) with
  |none=>False
  |some s=>
   match look e s with
   |some (.b c)=>bif xor c b then K (dz e o.dst .u) w else mK P free o e w K
   |some (.v x)=>
    Split x (bif b then mK P free o ((s,.b true)::e) w K else K (dz ((s,.b true)::e) o.dst .u) w)
     (bif b then K (dz ((s,.b false)::e) o.dst .u) w else mK P free o ((s,.b false)::e) w K)
   |some .u=>K (dz e o.dst .u) w
   |none=>False
def mL (free:eV) (ops:Array U8):List U8->Env->x2->(Env->x2->Prop)->Prop
 |[],e,w,K=>K e w
 |o::l,e,w,K=>pU P free ops o e w λI w'=>mL free ops l I w' K
def rT (ops:Array U8) (o:U8) (e:Env) (w:x2) (K:Env->(x2->Prop)->Prop):Prop:=
 match o.guard with
 |none=>jY P o e w K
 |some (j,b)=>
  match (ops[j]?).bind (·.dst) with
  |none=>False
  |some s=>
   match look e s with
   |some (.b c)=>bif xor c b then K (dz e o.dst .u) (λ_=>True) else jY P o e w K
   |some (.v x)=>
    Split x (bif b then jY P o ((s,.b true)::e) w K else K (dz ((s,.b true)::e) o.dst .u) (λ_=>True))
     (bif b then K (dz ((s,.b false)::e) o.dst .u) (λ_=>True) else jY P o ((s,.b false)::e) w K)
   |some .u=>K (dz e o.dst .u) (λ_=>True)
   |none=>False
def j1 (o:U8):Bool:=
 match o.op with
 | .move _| .assign _| .extract .. | .indexAddr ..=>true
 |_=>false
def kR (ops:Array U8):List Nat->Option Nat
 |[]=>ν
 |i::r=>match ops[i]? with
  |some o=>bif hR o then σ i else kR ops r
  |none=>kR ops r
def rU (p:Nat->Prop):List Nat->Prop
 |[]=>True
 |[i]=>p i
 |i::r=>p i/\rU p r
def jn (bs:Array Nat) (j k:Nat):Bool:=!(T3 k j)&&(!((bs.getD j 0).testBit k)&& !((bs.getD k 0).testBit j))
def n7 (same:Bool) (q:Nat) (w:x2) (st:x2->Prop) (I:List (x2×List (Nat×(x2->Prop)))):List (x2×List (Nat×(x2->Prop))):=
 match same,I with
 |true,g::r=>(g.1,(q,st)::g.2)::r
 |_,I=>(w,[(q,st)])::I
def n8 (bs:Array Nat) (j:Nat):List (Nat×(x2->Prop))->Bool
 |[]=>false
 |x::r=>jn bs j x.1||n8 bs j r
def mM (bs:Array Nat) (j:Nat) (w':x2):List (Nat×(x2->Prop))->Prop
 |[]=>True
 |x::r=>bif jn bs j x.1 then x.2 w'/\mM bs j w' r else mM bs j w' r
def lx (bs:Array Nat) (j:Nat) (w':x2) (C:Prop):List (x2×List (Nat×(x2->Prop)))->Prop
 |[]=>C
 |g::r=>bif n8 bs j g.2 then (Ext g.1 w'\/mM bs j w' g.2)/\lx bs j w' C r else lx bs j w' C r
def kS (free:eV) (ops:Array U8) (bs:Array Nat):Nat->Array Bool->Bool->List (x2×List (Nat×(x2->Prop)))->Env->x2->(Env->x2->Prop)->Prop
 |0,I,_,_,e,w,K=>match Region.ready .any ops I with|[]=>K e w|_=>False
 |fuel+1,I,same,J,e,w,K=>
  match Region.ready .any ops I with
  |[]=>K e w
  |i::r=>
   match kR ops (i::r) with
   |some q=>
    bif Region.free .any ops I q then
     match ops[q]? with
     |some o=>rT P ops o e w λU st=>
       bif j1 o then kS free ops bs fuel (I.setIfInBounds q true) same J U w K
       else kS free ops bs fuel (I.setIfInBounds q true) true (n7 same q w st J) U w K
     |none=>False
    else False
   |none=>
    rU (λj=>match ops[j]? with
     |some o=>pU P free ops o e w λU w'=>lx bs j w' (kS free ops bs fuel (I.setIfInBounds j true) false J U w' K) J
     |none=>False) (i::r)
def rV (free:eV) (ops:Array U8) (e:Env) (w:x2) (K:Env->x2->Prop):Prop:=
 bif Region.noSelect ops then kS P free ops (Region.before ops) ops.size (Array.replicate ops.size false) false [] e w K else False
end
section
variable {P:W5} {N:Nat} {r:Option Nat} {free:eV} {ops:Array U8}
theorem BX {e:Env} {a:Act} (U:T9 N e a) {s:Nat} {c:Bool} (V:(ops[j]?).bind (·.dst)=σ s) {x:dW} (I:look e s=σ x) (W:x.val= .bool c):
  yielded ops a.tmps j=σ c:=by
 have h:=U.2 s x I;rw[W] at h;have X:a.tmps[s]? =σ (.bool c):=by
  rw[Array.getD_eq_getD_getElem?] at h;cases J:a.tmps[s]? with
  |none=>rw[J] at h;simp[undef] at h
  |some y=>rw[J] at h;simpa using h
 simp[yielded,V,X]
theorem pV {e:Env} {a:Act} (J:T9 N e a) {o:U8} {s:Nat} {b c:Bool} (U:o.guard=σ (j,b)) (V:(ops[j]?).bind (·.dst)=σ s) {x:dW}
  (I:look e s=σ x) (W:x.val= .bool c):Region.wanted o (yielded ops a.tmps)= !(xor c b):=by
 simp only[Region.wanted,U,BX J V I W];cases c <;> cases b <;> rfl
theorem va {e:Env} {a:Act} (U:T9 N e a) {o:U8} {s:Nat} {b:Bool} (V:o.guard=σ (j,b)) (W:(ops[j]?).bind (·.dst)=σ s)
  (I:look e s=σ .u):Region.wanted o (yielded ops a.tmps)=false:=by
 have h:=U.2 s .u I;have X:yielded ops a.tmps j=ν:=by
  rw[Array.getD_eq_getD_getElem?] at h;unfold yielded;rw[W];cases J:a.tmps[s]? with
  |none=>simp[J]
  |some y=>
   rw[J] at h;simp only[S1,dW.val] at h;subst h;simp[J,undef]
 simp[Region.wanted,V,X]
theorem T9.lit {e:Env} {a:Act} (U:T9 N e a) {s:Nat} {x:dW} {c:Bool} (I:look e s=σ x) (W:x.val= .bool c):T9 N ((s,.b c)::e) a:=by
 refine⟨U.1,λt y J=>?_⟩;simp only[look] at J;cases V:T3 s t with
 |true=>
  have:s=t:=Nat.eq_of_beq_eq_true V;subst this;simp only[V,cond_true,Y6] at J;subst J;rw[U.2 s x I,W];rfl
 |false=>simp only[V,cond_false] at J;exact U.2 t y J
theorem vb {o:U8} {e:Env} {a:Act} {K:Env->x2->Prop} {Q:Exit->Act->x2->Prop} (h:pU P free ops o e w K) (J:T9 N e a) (U:ie N o.dst=true):
  (Region.wanted o (yielded ops a.tmps)=true/\o.wpIn (dQ r) 0 P a w (eO N free K o a w) Q)\/
  (Region.wanted o (yielded ops a.tmps)=false/\eO N free K o a w (a.put o.dst undef) w):=by
 unfold pU at h;cases V:o.guard with
 |none=>rw[V] at h;exact .inl ⟨by simp[Region.wanted,V],pT h J U⟩
 |some ac=>
  obtain⟨j,b⟩:=ac;rw[V] at h;simp only at h;cases W:(ops[j]?).bind (·.dst) with
  |none=>rw[W] at h;exact h.elim
  |some s=>
   rw[W] at h;simp only at h;cases I:look e s with
   |none=>rw[I] at h;exact h.elim
   |some x=>
    rw[I] at h;cases x with
    |b c=>
     simp only at h;have hw:=pV J V W I (c:=c) rfl;cases ab:xor c b with
     |true=>
      rw[ab] at h hw;exact .inr ⟨hw,eO.of h J U rfl λ_=>ce.refl _ _⟩
     |false=>
      rw[ab] at h hw;exact .inl ⟨hw,pT h J U⟩
    |v y=>
     simp only at h;obtain⟨c,rfl,X,Y⟩:=h;have hw:=pV J V W I (c:=c) rfl;have aa:=J.lit I (c:=c) rfl;cases c with
     |true=>
      have X:=X rfl;cases b with
      |true=>exact .inl ⟨hw,pT X aa U⟩
      |false=>exact .inr ⟨hw,eO.of X aa U rfl λ_=>ce.refl _ _⟩
     |false=>
      have Y:=Y rfl;cases b with
      |true=>exact .inr ⟨hw,eO.of Y aa U rfl λ_=>ce.refl _ _⟩
      |false=>exact .inl ⟨hw,pT Y aa U⟩
    |u=>exact .inr ⟨va J V W I,eO.of h J U rfl λ_=>ce.refl _ _⟩
def fH (D:List Nat) (a a':Act):Prop:=a'.defers=a.defers/\ ∀t,t∉D->a'.tmps.getD t undef=a.tmps.getD t undef
theorem fH.refl (D:List Nat) (a:Act):fH D a a:=⟨rfl,λ_ _=>rfl⟩
theorem fH.trans {a b c:Act} (h:fH D a b) (k:fH D b c):fH D a c:=⟨k.1.trans h.1,λt I=>(k.2 t I).trans (h.2 t I)⟩
theorem fH.put (a:Act) {d:Option Tmp} (v:x1) (I:∀t,d=σ t->t∈D):fH D a (a.put d v):=by
 cases d with
 |none=>exact fH.refl _ _
 |some s=>
  refine⟨rfl,λt J=>?_⟩;have U:s≠t:=λh=>J (h▸I s rfl);simp only[Act.put,Array.getD_eq_getD_getElem?];rw[Array.getElem?_setIfInBounds_ne U]
def kT (N:Nat) (free:eV) (K:Env->x2->Prop) (D:List Nat) (a:Act) (w:x2) (a':Act) (w':x2):Prop:=
 ∃I,K I w'/\T9 N I a'/\fH D a a'/\(free.1=false->ce free.2 w w')
theorem kT.step {K:Env->x2->Prop} {a I a':Act} {U:x2} (h:kT N free K D I U a' w') (V:fH D a I) (W:free.1=false->ce free.2 w U):
  kT N free K D a w a' w':=by
 obtain⟨X,h1,Y,aa,ab⟩:=h;exact⟨X,h1,Y,V.trans aa,λJ=>(W J).trans (ab J)⟩
def ly (N:Nat) (l:List U8):Bool:=l.all λo=>ie N o.dst
theorem BY {K:Env->x2->Prop} {Q:Exit->Act->x2->Prop} (ac:∀o∈ops.toList,∀t,o.dst=σ t->t∈D) (Y:ly N ops.toList=true):
  ∀ (l:List U8) (k:Nat) (e:Env) (a:Act) (w:x2),(∀j,l[j]? =ops[k+j]?)->mL P free ops l e w K->T9 N e a->
   (∀a' w',kT N free K D a w a' w'->Q .normal a' w')->wpOpsIn (dQ r) 0 P ops Q (List.range' k l.length) a w:=by
 intro l;induction l with
 |nil=>
  intro k e a w _ h I J;exact J a w ⟨e,h,I,fH.refl _ _,λ_=>ce.refl _ _⟩
 |cons o l ad=>
  intro k e a w aa h I J;have V:=aa 0;simp only[List.getElem?_cons_zero,Nat.add_zero] at V;have ab:o∈ops.toList:=by
   have:=V.symm;rw[<-S3] at this;exact x6 this
  have ae:ie N o.dst=true:=by
   simp only[ly,List.all_eq_true] at Y;exact Y o ab
  have af:∀j,l[j]? =ops[k+1+j]?:=λj=>by
   have:=aa (j+1);rw[List.getElem?_cons_succ] at this;rw[this];congr 1;omega
  have next:∀W U,eO N free (λag w'=>mL P free ops l ag w' K) o a w W U->wpOpsIn (dQ r) 0 P ops Q (List.range' (k+1) l.length) W U:=by
   rintro W U ⟨ah,v,ai,aj,rfl,ak⟩;refine ad (k+1) ah _ U af ai aj λa' w' al=>J a' w' (al.step (fH.put a v λt am=>ac o ab t am) ak)
  simp only[mL] at h;show wpOpsIn (dQ r) 0 P ops Q (k::List.range' (k+1) l.length) a w;unfold wpOpsIn;rw[<-V];simp only;rcases vb (r:=r) (Q:=Q) h I ae with⟨hw,X⟩|⟨hw,X⟩
  .rw[if_pos hw];exact U8.wpIn_mono next X
  .rw[hw];exact⟨λ_ _=>trivial,next _ _ X⟩
theorem BZ {K:Env->x2->Prop} {Q:Exit->Act->x2->Prop} {id:Nat} {e:Env} {a:Act} (I:∀o∈ops.toList,∀t,o.dst=σ t->t∈D)
  (J:ly N ops.toList=true) (h:mL P free ops ops.toList e w K) (U:T9 N e a) (V:∀a' w',kT N free K D a w a' w'->Q .normal a' w'):
  (Code.region id ops false).wpIn (dQ r) 0 P Q a w:=by
 refine wpIn_region ?_;have:=BY (r:=r) I J ops.toList 0 e a w (λj=>Ξ) h U V;rw[List.range_eq_range'];simpa using this
end
section
variable {P:W5} {N:Nat} {r:Option Nat} {free:eV} {ops:Array U8} {Q:Exit->Act->x2->Prop}
theorem B1 (J:Option Nat) (o:U8) (I:∀cs b,o.op≠ .select cs b) (a:Act) (d:Option Tmp) (v:x1) (h:∀t,d=σ t->t∉o.looksAt ops):
  o.semAt J (a.put d v).eval=o.semAt J a.eval:=by
 have he:=execOp_put o I a d v h;unfold U8.semAt;split
 .rename_i l c U;have:resolve (a.put d v).eval c o.type=resolve a.eval c o.type:=resolve_congr c o.type λx V=>Act.eval_put λt W X=>h t W (by
   subst X;refine List.mem_append_left _ (List.mem_filterMap.2 ⟨.tmp t,?_,rfl⟩);rw[U];simpa[Op.operands] using V)
  rw[this]
 .exact he
def kU (o:U8) (w0:x2) (st:x2->Prop) (w':x2):Prop:=j1 o=true\/Ext w0 w'\/ ∃U,st U/\Ext U w'
theorem kU.ext {o:U8} {w0:x2} {st:x2->Prop} (h:kU o w0 st w) (k:Ext w w'):kU o w0 st w':=by
 rcases h with h|h|⟨U,h1,I⟩
 .exact .inl h
 .exact .inr (.inl (h.trans k))
 .exact .inr (.inr ⟨U,h1,I.trans k⟩)
theorem B2 {o:U8} (hm:j1 o=true) {J:T8->x1} (h:(execOp J o).run P w= .ok (.value v) w):(execOp J o).run P w'= .ok (.value v) w':=by
 unfold j1 at hm;split at hm
 .rename_i x I;unfold execOp at h ⊢;simp only[I,W9,Result.ok.injEq,and_true] at h ⊢;exact h
 .rename_i x I;unfold execOp at h ⊢;simp only[I,W9,Result.ok.injEq,and_true] at h ⊢;exact h
 .rename_i x i I;unfold execOp at h ⊢;simp only[I] at h ⊢;exact ((Still.bind (Still.extract _ _) λ_=>Still.pure _) _ _ _ h).2 _
 .rename_i t x i I;unfold execOp at h ⊢;simp only[I] at h ⊢;exact ((Still.bind (Still.indexAt _ _ _) λ_=>Still.pure _) _ _ _ h).2 _
 .cases hm
def gV (P:W5) (ops:Array U8) (o:U8) (v:x1) (a:Act) (w0:x2->Prop):Prop:=
 (Region.wanted o (yielded ops a.tmps)=true/\(∀c,o.op≠ .defer c)/\ ∀w',w0 w'->(execOp a.eval o).run P w'= .ok (.value v) w')\/
 (Region.wanted o (yielded ops a.tmps)=false/\v=undef)
theorem gV.put {o J:U8} {a:Act} {w0:x2->Prop} (U:gV P ops o v a w0) (I:∀cs b,o.op≠ .select cs b) (h:∀t,J.dst=σ t->t∉o.looksAt ops) (u:x1):
  gV P ops o v (a.put J.dst u) w0:=by
 unfold gV at*;rw[execOp_put o I a J.dst u h,wanted_put o a J.dst u h];exact U
theorem gV.go {i:Nat} {I:U8} {a:Act} {w0:x2->Prop} (hi:ops[i]? =σ I) (J:gV P ops I v a w0) (hw:w0 w) {K:Act->x2->Prop} (h:K (a.put I.dst v) w):
  wpOpIn (dQ r) 0 P ops Q i K a w:=by
 unfold wpOpIn;simp only[hi];rcases J with⟨h1,U,V⟩|⟨h1,rfl⟩
 .rw[if_pos h1];refine⟨λ_ _=>trivial,?_⟩;rw[U8.semAt_eq _ _ _ U,V w hw,U8.uponIn_value];exact h
 .rw[h1];exact⟨λ_ _=>trivial,h⟩
theorem B3 {I U:U8} (Y:ops[j]? =σ U) (aa:I.apart ops U=true) (ab:∀cs b,I.op≠ .select cs b) (ac:∀cs b,U.op≠ .select cs b)
  (W:∀c a w,¬Q (.panic c) a w) {K:Act->x2->Prop} {a:Act} {w:x2} {w0:x2->Prop} (J:gV P ops I v a w0) (h:wpOpIn (dQ r) 0 P ops Q j K (a.put I.dst v) w):
  wpOpIn (dQ r) 0 P ops Q j (λa' w'=>gV P ops I v a' w0/\K (a'.put I.dst v) w') a w:=by
 obtain⟨h1,V,ad⟩:=U8.apart_spec aa;have a7:∀ (a:Act),gV P ops I v a w0-> ∀u,gV P ops I v (a.put U.dst u) w0:=λa J u=>J.put ab ad u;have ae:∀d,gV P ops I v {a with defers:=d::a.defers} w0:=λd=>J;unfold wpOpIn at*;simp only[Y] at*;rw[wanted_put U a I.dst v h1] at h;split
 .rename_i hw;simp only[hw,if_true] at h;obtain⟨_,h⟩:=h;refine⟨λ_ _=>trivial,?_⟩;rw[B1 _ U ac a I.dst v h1] at h;generalize (U.semAt (dQ r).round a.eval).run P w=res at*;cases res with
  |ok n w'=>
   cases n <;> simp only[U8.uponIn] at h ⊢
   case value u=>exact⟨a7 a J u,by rw[<-Act.put_comm a v u V];exact h⟩
   case skip=>exact⟨a7 a J _,by rw[<-Act.put_comm a v undef V];exact h⟩
   case defer d=>
    refine⟨a7 _ (ae d) _,?_⟩;rw[<-Act.put_comm _ v undef V,<-Act.put_defers];exact h
   case enter f args=>
    refine⟨h.1,CallsIn.mono h.2 λe X he=>?_⟩;cases e with
    |returned u=>exact⟨a7 a J u,by rw[<-Act.put_comm a v u V];exact he⟩
    |panicked c=>exact absurd he (W _ _ _)
    |outgrown=>exact he
   case row row args=>exact⟨h.1,RowsIn.mono h.2 λu X he=>⟨a7 a J u,by rw[<-Act.put_comm a v u V];exact he⟩⟩
   case round l f tmps af body=>
    refine⟨h.1,RoundIn.mono h.2 λe X he=>?_⟩;cases e with
    |returned u=>exact⟨a7 a J u,by rw[<-Act.put_comm a v u V];exact he⟩
    |panicked c=>exact absurd he (W _ _ _)
    |outgrown=>exact he
  |halt x w'=>
   cases x <;> simp only[U8.uponIn] at h ⊢
   case panic u=>exact absurd h (W _ _ _)
 .rename_i hw;simp only[hw] at h;exact⟨λ_ _=>trivial,a7 a J _,by rw[<-Act.put_comm a v undef V];exact h.2⟩
def j2 (ops:Array U8) (bs:Array Nat):Bool:=
 (X9 ops.size).all λj=>(X9 ops.size).all λk=>!((bs.getD j 0).testBit k)||
  (match ops[j]? with
   |some o=>o.after.any λe=>Region.binds .any e&&Nat.blt e.on j&&(T3 e.on k||(bs.getD e.on 0).testBit k)
   |none=>false)
def Down (ops:Array U8) (I:Array Bool):Prop:=
 ∀ (x:Nat) (o:U8),ops[x]? =σ o->I.getD x false=true-> ∀e∈o.after,Region.binds .any e=true->I.getD e.on false=true
theorem vc {bs:Array Nat} (J:j2 ops bs=true) {k:Nat} (V:j<ops.size) (W:k<ops.size) (h:(bs.getD j 0).testBit k=true):
  ∃o,ops[j]? =σ o/\ ∃e∈o.after,Region.binds .any e=true/\e.on<j/\(e.on=k\/(bs.getD e.on 0).testBit k=true):=by
 simp only[j2,List.all_eq_true,List.mem_range] at J;have:=J j V k W;rw[h] at this;simp only[Y1,Bool.false_or] at this;cases U:ops[j]? with
 |none=>rw[U] at this;cases this
 |some o=>
  rw[U] at this;obtain⟨e,he,I⟩:=Array.any_eq_true'.1 this;simp only[U1,Nat.blt_eq,Bool.or_eq_true] at I;exact⟨o,rfl,e,he,I.1.1,I.1.2,I.2.imp (λh=>Nat.eq_of_beq_eq_true h) id⟩
theorem B4 {bs:Array Nat} {I:Array Bool} (V:j2 ops bs=true) (W:Down ops I):∀ (j k:Nat),j<ops.size->k<ops.size->I.getD j false=true->
  (bs.getD j 0).testBit k=true->I.getD k false=true:=by
 intro j;induction j using Nat.strongRecOn with
 |_ j X=>
  intro k Y J aa h;obtain⟨o,ab,e,he,ac,ad,h⟩:=vc V Y J h;have U:=W j o ab aa e he ac;rcases h with rfl|h
  .exact U
  .exact X e.on ad k Ω J U h
theorem vd {bs:Array Nat} {I:Array Bool} (J:j2 ops bs=true) (Y:Down ops I) {k:Nat} (U:k<ops.size) (aa:j∈Region.ready .any ops I)
  (h:(bs.getD j 0).testBit k=true):I.getD k false=true:=by
 obtain⟨_,o,V,ab⟩:=mem_ready.1 aa;have ac:=(j4.1 V).1;obtain⟨o',W,e,he,ad,ae,h⟩:=vc J ac U h;rw[V] at W;cases W;have X:=ab e he ad;rcases h with rfl|h
 .exact X
 .exact B4 J Y e.on k Ω U X h
theorem Down.set {I:Array Bool} (Y:Down ops I) {i:Nat} (aa:i∈Region.ready .any ops I):Down ops (I.setIfInBounds i true):=by
 intro x o J U e he V;by_cases W:x=i
 .subst W;obtain⟨_,o',X,ab⟩:=mem_ready.1 aa;rw[J] at X;cases X;exact getD_set_true (ab e he V)
 .rw[getD_set_ne false (T7 W)] at U;exact getD_set_true (Y x o J U e he V)
theorem rW {I:Array Bool} {k:Nat} (h:I.getD k true=false):I.getD k false=false:=by
 rcases Nat.lt_or_ge k I.size with h'|h'
 .simpa[h'] using h
 .simp[Array.getElem?_eq_none h'] at h
def kV (ops:Array U8) (i:Nat):Bool:=match ops[i]? with
 |some o=>hR o
 |none=>false
def kW (bs:Array Nat) (I:List (x2×List (Nat×(x2->Prop)))) (j:Nat) (w':x2):Prop:=∀g∈I,∀x∈g.2,jn bs j x.1=true->Ext g.1 w'\/x.2 w'
theorem rX {bs:Array Nat} {j:Nat} {w':x2}:∀ {l:List (Nat×(x2->Prop))},mM bs j w' l-> ∀x∈l,jn bs j x.1=true->x.2 w'
 |[],_,_,h,_=>by cases h
 |y::l,h,x,I,hu=>by
  unfold mM at h;cases J:jn bs j y.1 with
  |true=>
   rw[J] at h;cases I with
   |head=>exact h.1
   |tail _ I=>exact rX h.2 x I hu
  |false=>
   rw[J] at h;cases I with
   |head=>rw[J] at hu;cases hu
   |tail _ I=>exact rX (show mM bs j w' l from h) x I hu
theorem ve {bs:Array Nat} {j:Nat}:∀ {l:List (Nat×(x2->Prop))},n8 bs j l=false-> ∀x∈l,jn bs j x.1=false
 |[],_,_,h=>by cases h
 |y::l,h,x,I=>by
  simp only[n8,S0] at h;cases I with
  |head=>exact h.1
  |tail _ I=>exact ve h.2 x I
theorem rY {bs:Array Nat} {j:Nat} {w':x2} {C:Prop}:∀ {X:List (x2×List (Nat×(x2->Prop)))},lx bs j w' C X->C/\kW bs X j w'
 |[],h=>⟨h,λg Y=>by cases Y⟩
 |g::r,h=>by
  unfold lx at h;cases hu:n8 bs j g.2 with
  |true=>
   rw[hu] at h;obtain⟨h1,V⟩:=rY h.2;refine⟨h1,λW I x U J=>?_⟩;cases I with
   |head=>exact h.1.imp id λh=>rX h x U J
   |tail _ I=>exact V W I x U J
  |false=>
   rw[hu] at h;obtain⟨h1,V⟩:=rY (show lx bs j w' C r from h);refine⟨h1,λW I x U J=>?_⟩;cases I with
   |head=>rw[ve hu x U] at J;cases J
   |tail _ I=>exact V W I x U J
def rZ (ops:Array U8) (bs:Array Nat) (I:List (x2×List (Nat×(x2->Prop)))) (j:Nat) (w w':x2):Prop:=(kV ops j=true->Ext w w')/\(kV ops j=false->kW bs I j w')
def hq (r:Option Nat) (P:W5) (ops:Array U8) (bs:Array Nat) (Q:Exit->Act->x2->Prop):Nat->Array Bool->List (x2×List (Nat×(x2->Prop)))->Act->x2->Prop
 |0,I,_,a,w=>Region.ready .any ops I=[]/\Q .normal a w
 |fuel+1,I,J,a,w=>(Region.ready .any ops I=[]->Q .normal a w)/\
  ∀i∈Region.ready .any ops I,wpOpIn (dQ r) 0 P ops Q i (λa' w'=>rZ ops bs J i w w'/\hq r P ops bs Q fuel (I.setIfInBounds i true) J a' w') a w
theorem hq.any {bs:Array Nat}:∀ (fuel:Nat) (I:Array Bool) (J:List (x2×List (Nat×(x2->Prop)))) (a:Act) (w:x2),hq r P ops bs Q fuel I J a w->wpAnyIn (dQ r) 0 P .any ops Q fuel I a w
 |0,_,_,_,_,h=>h
 |fuel+1,_,_,_,_,h=>⟨h.1,λi hi=>wpOpIn_mono (λa' w' h'=>hq.any fuel _ _ a' w' h'.2) (h.2 i hi)⟩
theorem B5 {bs:Array Nat} {I:Array Bool} (J:j2 ops bs=true) (U:Down ops I) {i:Nat} {X:U8} (hi:ops[i]? =σ X)
  (V:i∈Region.ready .any ops I) (W:j∈Region.ready .any ops I) (Y:j≠i):jn bs j i=true:=by
 have aa:=(j4.1 hi).1;obtain⟨ab,af,ac,_⟩:=mem_ready.1 W;have ad:=(j4.1 ac).1;have ae:=(mem_ready.1 V).1;simp only[jn,U1,Bool.not_eq_true'];refine⟨?_,?_,?_⟩
 .cases h:T3 i j with
  |true=>exact absurd (Nat.eq_of_beq_eq_true h).symm Y
  |false=>rfl
 .cases h:(bs.getD j 0).testBit i with
  |true=>have:=vd J U aa W h;rw[rW ae] at this;cases this
  |false=>rfl
 .cases h:(bs.getD i 0).testBit j with
  |true=>have:=vd J U ad V h;rw[rW ab] at this;cases this
  |false=>rfl
theorem hq.take {bs:Array Nat} (ao:j2 ops bs=true) (ap:Region.noSelect ops=true) (aq:∀c a w,¬Q (.panic c) a w) {i:Nat} {J:U8} (hi:ops[i]? =σ J) (au:hR J=true)
  {w0:x2} {aa ev':List (x2×List (Nat×(x2->Prop)))} (af:∀j w',kW bs ev' j w'->kW bs aa j w') {st:x2->Prop} (av:j1 J=false-> ∀j w',jn bs j i=true->kW bs ev' j w'->Ext w0 w'\/st w'):
  ∀ (fuel:Nat) (I:Array Bool) (a:Act) (w:x2),Down ops I->
   (∀j X,ops[j]? =σ X->j≠i->I.getD j true=false->(∀e∈X.after,Region.binds .any e=true->e.on≠i)->J.apart ops X=true)->
   i∈Region.ready .any ops I->gV P ops J v a (kU J w0 st)->kU J w0 st w->
   hq r P ops bs Q fuel (I.setIfInBounds i true) ev' (a.put J.dst v) w->hq r P ops bs Q (fuel+1) I aa a w:=by
 have ag:=Region.noSelect_spec ap;have aw:kV ops i=true:=by simp[kV,hi,au]
 have gG:∀ (fuel:Nat) (I:Array Bool) (a:Act) (w:x2),hq r P ops bs Q fuel I ev' a w->hq r P ops bs Q fuel I aa a w:=by
  intro fuel;induction fuel with
  |zero=>intro I a w h;exact h
  |succ fuel ac=>intro I a w h;exact⟨h.1,λj V=>wpOpIn_mono (λa' w' h'=>⟨⟨h'.1.1,λad=>af _ _ (h'.1.2 ad)⟩,ac _ a' w' h'.2⟩) (h.2 j V)⟩
 have ah:∀w,rZ ops bs aa i w w:=λw=>⟨λ_=>Ext.refl _,λh=>by rw[aw] at h;cases h⟩;intro fuel;induction fuel with
 |zero=>
  intro I a w _ _ W ab hw H;refine⟨λh=>(by rw[h] at W;cases W),λj V=>?_⟩;by_cases U:j=i
  .subst U;exact ab.go hi hw ⟨ah w,gG _ _ _ _ H⟩
  .have:=ready_mono V U;rw[H.1] at this;cases this
 |succ fuel ac=>
  intro I a w ai aj W ab hw H;refine⟨λh=>(by rw[h] at W;cases W),λj V=>?_⟩;by_cases U:j=i
  .subst U;exact ab.go hi hw ⟨ah w,gG _ _ _ _ H⟩
  .have h1:=H.2 j (ready_mono V U);have hu:=B5 ao ai hi W V U;obtain⟨ak,X,ae,ax⟩:=mem_ready.1 V;have ay:∀e∈X.after,Region.binds .any e=true->e.on≠i:=λe he az aA=>by
    have h1:=ax e he az;rw[aA,rW (mem_ready.1 W).1] at h1;cases h1
   have aB:=B3 ae (aj j X ae U ak ay) (λcs b=>ag i J cs b hi) (λcs b=>ag j X cs b ae) aq ab h1;have aC:∀k ok,ops[k]? =σ ok->k≠i->(I.setIfInBounds j true).getD k true=false->
     (∀e∈ok.after,Region.binds .any e=true->e.on≠i)->J.apart ops ok=true:=λk ok aD aE al aF=>by
    refine aj k ok aD aE ?_ aF;by_cases am:j=k
    .subst am;exact ak
    .rw[getD_set_ne true am] at al;exact al
   refine wpOpIn_mono (λa' w' Y=>⟨⟨Y.2.1.1,λad=>af _ _ (Y.2.1.2 ad)⟩,ac (I.setIfInBounds j true) a' w' (ai.set V) aC (ready_mono W (T7 U)) Y.1 ?_ ?_⟩) aB
   .cases hm:j1 J with
    |true=>exact .inl hm
    |false=>
     cases an:kV ops j with
     |true=>exact hw.ext (Y.2.1.1 an)
     |false=>exact .inr ((av hm j w' hu (Y.2.1.2 an)).imp id λh=>⟨w',h,Ext.refl _⟩)
   .rw[Array.setIfInBounds_comm _ _ U];exact Y.2.2
theorem vf {p:Nat->Prop}:∀ {l:List Nat},rU p l-> ∀i∈l,p i
 |[],_,_,h=>by cases h
 |[i],h,j,I=>by cases I with
  |head=>exact h
  |tail _ h=>cases h
 |i::k::l,h,j,I=>by
  obtain⟨h1,J⟩:=h;cases I with
  |head=>exact h1
  |tail _ I=>exact vf J j I
theorem r0:∀ {l:List Nat} {q:Nat},kR ops l=σ q->q∈l/\ ∃o,ops[q]? =σ o/\hR o=true
 |[],q,h=>by cases h
 |i::l,q,h=>by
  simp only[kR] at h;cases I:ops[i]? with
  |none=>rw[I] at h;obtain⟨h1,J⟩:=r0 h;exact⟨.tail _ h1,J⟩
  |some o=>
   rw[I] at h;simp only at h;cases U:hR o with
   |true=>rw[U] at h;simp only[cond_true,Y6] at h;subst h;exact⟨.head _,o,I,U⟩
   |false=>rw[U] at h;obtain⟨h1,J⟩:=r0 h;exact⟨.tail _ h1,J⟩
theorem B6 {o:U8} {e:Env} {a:Act} {K:Env->(x2->Prop)->Prop} (h:rT P ops o e w K) (J:T9 N e a) (ae:ie N o.dst=true):
  ∃v st,gV P ops o v a (kU o w st)/\ ∃V,K V st/\T9 N V (a.put o.dst v):=by
 unfold rT at h;have Y:∀ {e:Env},T9 N e a->jY P o e w K->Region.wanted o (yielded ops a.tmps)=true-> ∃v st,gV P ops o v a (kU o w st)/\ ∃V,K V st/\T9 N V (a.put o.dst v):=λJ h hw=>by
  obtain⟨v,st,h1,af,ag,ah⟩:=u7 h J ae;exact⟨v,st,.inl ⟨hw,ag,λw' aa=>aa.elim (λhm=>B2 hm (h1 w (Ext.refl w))) λh=>h.elim (h1 w') λ⟨U,ai,aj⟩=>ah U ai w' aj⟩,af⟩
 have skip:∀ {e:Env},T9 N e a->K (dz e o.dst .u) (λ_=>True)->Region.wanted o (yielded ops a.tmps)=false-> ∃v st,gV P ops o v a (kU o w st)/\ ∃V,K V st/\T9 N V (a.put o.dst v):=λJ h hw=>
  ⟨undef,_,.inr ⟨hw,rfl⟩,_,h,J.put ae rfl⟩
 cases W:o.guard with
 |none=>rw[W] at h;exact Y J h (by simp[Region.wanted,W])
 |some ak=>
  obtain⟨j,b⟩:=ak;rw[W] at h;simp only at h;cases X:(ops[j]?).bind (·.dst) with
  |none=>rw[X] at h;exact h.elim
  |some s=>
   rw[X] at h;simp only at h;cases I:look e s with
   |none=>rw[I] at h;exact h.elim
   |some x=>
    rw[I] at h;cases x with
    |b c=>
     simp only at h;have hw:=pV J W X I (c:=c) rfl;cases aa:xor c b with
     |true=>rw[aa] at h hw;exact skip J h hw
     |false=>rw[aa] at h hw;exact Y J h hw
    |v y=>
     simp only at h;obtain⟨c,rfl,ab,ac⟩:=h;have hw:=pV J W X I (c:=c) rfl;have ad:=J.lit I (c:=c) rfl;cases c with
     |true=>
      have ab:=ab rfl;cases b with
      |true=>exact Y ad ab hw
      |false=>exact skip ad ab hw
     |false=>
      have ac:=ac rfl;cases b with
      |true=>exact skip ad ac hw
      |false=>exact Y ad ac hw
    |u=>exact skip J h (va J W X I)
theorem r1:∀ {l:List Nat},kR ops l=ν-> ∀j∈l,kV ops j=false
 |[],_,_,h=>by cases h
 |i::l,h,j,I=>by
  simp only[kR] at h;cases J:ops[i]? with
  |none=>
   rw[J] at h;cases I with
   |head=>simp[kV,J]
   |tail _ I=>exact r1 h j I
  |some o=>
   rw[J] at h;simp only at h;cases U:hR o with
   |true=>rw[U] at h;cases h
   |false=>
    rw[U] at h;cases I with
    |head=>simp[kV,J,U]
    |tail _ I=>exact r1 h j I
theorem B7 {bs:Array Nat} {same:Bool} {q:Nat} {st:x2->Prop} {J:List (x2×List (Nat×(x2->Prop)))} (I:same=true-> ∃ks r,J=(w,ks)::r):
  (∀j w',kW bs (n7 same q w st J) j w'->kW bs J j w')/\(∀j w',jn bs j q=true->kW bs (n7 same q w st J) j w'->Ext w w'\/st w')/\ ∃ks r,n7 same q w st J=(w,ks)::r:=by
 cases same with
 |true=>
  obtain⟨ks,r,rfl⟩:=I rfl;refine⟨λj w' h g U x V hu=>?_,λj w' hu h=>h (w,(q,st)::ks) (.head _) (q,st) (.head _) hu,_,_,rfl⟩;cases U with
  |head=>exact h (w,(q,st)::ks) (.head _) x (.tail _ V) hu
  |tail _ U=>exact h g (.tail _ U) x V hu
 |false=>
  refine⟨λj w' h g U x V hu=>h g (.tail _ U) x V hu,λj w' hu h=>h (w,[(q,st)]) (.head _) (q,st) (.head _) hu,_,_,rfl⟩
theorem B8 {K:Env->x2->Prop} {bs:Array Nat} (ap:j2 ops bs=true) (aq:Region.noSelect ops=true) (au:∀c a w,¬Q (.panic c) a w)
  (aj:∀o∈ops.toList,∀t,o.dst=σ t->t∈D) (av:ly N ops.toList=true):
  ∀ (fuel:Nat) (J:Array Bool) (same:Bool) (V:List (x2×List (Nat×(x2->Prop)))) (e:Env) (a:Act) (w:x2),Down ops J->(same=true-> ∃ks r,V=(w,ks)::r)->
   kS P free ops bs fuel J same V e w K->T9 N e a->
   (∀a' w',kT N free K D a w a' w'->Q .normal a' w')->hq r P ops bs Q fuel J V a w:=by
 have ae:∀ {j:Nat} {o:U8},ops[j]? =σ o->o∈ops.toList:=λh=>by
  rw[<-S3] at h;exact x6 h
 have ok:∀ {j:Nat} {o:U8},ops[j]? =σ o->ie N o.dst=true:=λh=>by
  simp only[ly,List.all_eq_true] at av;exact av _ (ae h)
 intro fuel;induction fuel with
 |zero=>
  intro J same V e a w aa ak h ac ab;unfold kS at h;cases X:Region.ready .any ops J with
  |nil=>rw[X] at h;exact⟨X,ab a w ⟨e,h,ac,fH.refl _ _,λ_=>ce.refl _ _⟩⟩
  |cons i l=>rw[X] at h;exact h.elim
 |succ fuel al=>
  intro J same V e a w aa ak h ac ab;unfold kS at h;cases X:Region.ready .any ops J with
  |nil=>
   rw[X] at h;refine⟨λ_=>ab a w ⟨e,h,ac,fH.refl _ _,λ_=>ce.refl _ _⟩,λi hi=>?_⟩;rw[X] at hi;cases hi
  |cons i l=>
   rw[X] at h;simp only at h;cases af:kR ops (i::l) with
   |some q=>
    rw[af] at h;simp only at h;obtain⟨aB,o,I,aw⟩:=r0 af;cases ag:Region.free .any ops J q with
    |false=>rw[ag] at h;exact h.elim
    |true=>
     rw[ag,I] at h;simp only[cond_true] at h;obtain⟨v,st,ax,ah,Y,ay⟩:=B6 h ac (ok I);have ai:q∈Region.ready .any ops J:=by rw[X];exact aB
     cases hm:j1 o with
     |true=>
      rw[hm] at Y;refine hq.take ap aq au I aw (w0:=w) (ev':=V) (λ_ _ h=>h) (λh=>by rw[hm] at h;cases h) fuel J a w aa (Region.free_spec I ag) ai ax (.inr (.inl (Ext.refl _))) ?_;exact al _ same V ah _ w (aa.set ai) ak Y ay λa' w' W=>ab a' w' (W.step (fH.put a v λt ad=>aj o (ae I) t ad) λ_=>ce.refl _ _)
     |false=>
      rw[hm] at Y;obtain⟨h1,aC,aD⟩:=B7 (bs:=bs) (q:=q) (st:=st) ak;refine hq.take ap aq au I aw (w0:=w) (ev':=n7 same q w st V) h1 (λ_=>aC) fuel J a w aa (Region.free_spec I ag) ai ax (.inr (.inl (Ext.refl _))) ?_;exact al _ true _ ah _ w (aa.set ai) (λ_=>aD) Y ay λa' w' W=>ab a' w' (W.step (fH.put a v λt ad=>aj o (ae I) t ad) λ_=>ce.refl _ _)
   |none=>
    rw[af] at h;simp only at h;refine⟨(λaz=>by rw[X] at az;cases az),λj aA=>?_⟩;have am:=aA;rw[X] at am;have aE:=r1 af j am;have W:=vf h j am;cases I:ops[j]? with
    |none=>rw[I] at W;exact W.elim
    |some o=>
     rw[I] at W;simp only at W;unfold wpOpIn;simp only[I];have next:∀an U,eO N free (λah w'=>lx bs j w' (kS P free ops bs fuel (J.setIfInBounds j true) false V ah w' K) V) o a w an U->
       rZ ops bs V j w U/\hq r P ops bs Q fuel (J.setIfInBounds j true) V an U:=by
      rintro an U ⟨aF,v,Y,aG,rfl,aH⟩;obtain⟨Y,aI⟩:=rY Y;exact⟨⟨λh=>(by rw[aE] at h;cases h),λ_=>aI⟩,
       al _ false V aF _ U (aa.set aA) (λh=>by cases h) Y aG λa' w' W=>ab a' w' (W.step (fH.put a v λt ad=>aj o (ae I) t ad) aH)⟩
     rcases vb (r:=r) (Q:=Q) W ac (ok I) with⟨hw,ao⟩|⟨hw,ao⟩
     .rw[if_pos hw];exact U8.wpIn_mono next ao
     .rw[hw];exact⟨λ_ _=>trivial,next _ _ ao⟩
theorem B9 (hm:P.follows .mixedOrders=true) {K:Env->x2->Prop} {id:Nat} {e:Env} {a:Act} (U:j2 ops (Region.before ops)=true) (V:∀c a w,¬Q (.panic c) a w)
  (W:∀o∈ops.toList,∀t,o.dst=σ t->t∈D) (X:ly N ops.toList=true)
  (h:∀w',Ext w w'->Ext w' w->cI w w'->rV P free ops e w' K) (Y:T9 N e a) (aa:∀a' w',kT N free K D a w a' w'->Q .normal a' w'):
  (Code.region id ops true).wpIn (dQ r) 0 P Q a w:=by
 refine wpIn_region_any hm ?_;have h:=h {w with drawn:=w.drawn+1} (pO w _) ⟨o8 _,λ_ _ h _=>h⟩ (n1 w _ (S5 _));unfold rV at h;cases I:Region.noSelect ops with
 |false=>rw[I] at h;exact h.elim
 |true=>
  rw[I] at h;refine hq.any _ _ _ _ _ (B8 U I V W X ops.size _ false [] e a _ ?_ (λh=>by cases h) h Y λa' w' ab=>aa a' w' (ab.step (fH.refl _ _) λ_=>(n1 w _ (S5 _)).b));intro x o _ J;rcases Nat.lt_or_ge x ops.size with h'|h'
  .simp[h'] at J
  .simp[h'] at J
end
def hS (t:Nat):List Nat->Bool
 |[]=>false
 |s::r=>bif T3 s t then true else hS t r
theorem r2 {t:Nat}:∀ {l:List Nat},hS t l=true↔t∈l
 |[]=>by simp[hS]
 |s::r=>by
  simp only[hS];cases h:T3 s t with
  |true=>simp[Nat.eq_of_beq_eq_true h]
  |false=>
   have:=Nat.ne_of_beq_eq_false h;simp[r2 (l:=r),T7 this]
def lz:List U8->List Nat
 |[]=>[]
 |o::l=>match o.dst with
  |some d=>d::lz l
  |none=>lz l
def tmpsOf:List T8->List Nat
 |[]=>[]
 | .tmp t::l=>t::tmpsOf l
 |_::l=>tmpsOf l
def Ca (ops:Array U8) (o:U8):List Nat:=
 match o.guard with
 |some (j,_)=>match (ops[j]?).bind (·.dst) with
  |some s=>[s]
  |none=>[]
 |none=>[]
def pW (D:List Nat):List Nat->List Nat
 |[]=>[]
 |t::r=>bif hS t D then pW D r else t::pW D r
def r3 (D:List Nat):List Nat->List Nat
 |[]=>[]
 |t::r=>bif hS t D then t::r3 D r else r3 D r
def vg (ops:Array U8):List U8->List Nat->List Nat
 |[],_=>[]
 |o::l,D=>pW D (tmpsOf (opsOf o.op)++Ca ops o)++vg ops l (match o.dst with
  |some d=>d::D
  |none=>D)
def c9:Code->List Nat
 | .region _ ops _=>lz ops.toList
 | .seq a b=>c9 a++c9 b
 | .cond _ a b=>c9 a++c9 b
 | .block _ c=>c9 c
 | .loop c=>c9 c
 | .scope c=>c9 c
 |_=>[]
def ih (id:Nat):Code->Nat
 | .seq a b=>ih id a+ih id b
 | .cond _ a b=>ih id a+ih id b
 | .block _ c=>ih id c
 | .loop c=>ih id c
 | .scope c=>ih id c
 | .exit i=>bif T3 i id then 1 else 0
 | .rangeFunc _ _ _ b=>ih id b
 |_=>0
def Cb (ops:Array U8):Bool:=
 let bs:=Region.before ops;let I:=λ(i:Nat)=>match ops[i]? with|some o=>!(hR o)|none=>false
 (X9 ops.size).any λj=>I j&&((X9 j).any λi=>I i&&(!((bs.getD j 0).testBit i)&& !((bs.getD i 0).testBit j)))
def jo:Code->Nat
 | .region _ ops I=>bif (I&&Cb ops)||ops.any (·.guard.isSome) then 2 else 1
 | .seq a b=>bif T3 (jo a) 0 then 0 else jo b
 | .cond _ a b=>jo a+jo b
 | .block id c=>jo c+ih id c
 | .loop _=>0
 | .scope c=>jo c
 | .exit _=>0
 | .goto _=>0
 | .ret=>0
 | .refuse _=>0
 |_=>1
def j3:Code->List Nat
 | .region _ ops _=>lz ops.toList
 | .seq a b=>j3 a++j3 b
 | .cond _ a b=>bif T3 (jo a) 0 then j3 b else bif T3 (jo b) 0 then j3 a else r3 (j3 a) (j3 b)
 | .block id c=>bif T3 (ih id c) 0 then j3 c else[]
 | .scope c=>j3 c
 |_=>[]
def reads:Code->List Nat
 | .region _ ops _=>vg ops ops.toList []
 | .seq a b=>reads a++pW (j3 a) (reads b)
 | .cond c a b=>tmpsOf [c]++(reads a++reads b)
 | .block _ c=>reads c
 | .loop c=>reads c
 | .scope c=>reads c
 | .rangeFunc f _ a b=>tmpsOf [f]++(reads a++reads b)
 |_=>[]
def iN:Code->Bool
 | .seq a b=>iN a||iN b
 | .cond _ a b=>iN a||iN b
 | .block _ c=>iN c
 | .loop c=>iN c
 | .scope c=>iN c
 | .rangeFunc ..=>true
 |_=>false
def wf (N:Nat):Code->Bool
 | .region _ ops I=>ly N ops.toList&&(!I||j2 ops (Region.before ops))
 | .seq a b=>wf N a&&wf N b
 | .cond _ a b=>wf N a&&wf N b
 | .block _ c=>wf N c
 | .loop c=>wf N c
 | .scope c=>wf N c
 | .rangeFunc _ J a b=>(J.toList.all λt=>Nat.blt t N)&&(wf N a&&wf N b)
 |_=>true
def lA:Nat->Type->Type
 |0,β=>β
 |n+1,β=>x1->lA n β
def app {β:Type}:(n:Nat)->lA n β->List x1->β
 |0,f,_=>f
 |n+1,f,[]=>app n (f undef) []
 |n+1,f,v::r=>app n (f v) r
def lam {β:Type}:(n:Nat)->(List x1->β)->lA n β
 |0,f=>f []
 |n+1,f=>λv=>lam n λr=>f (v::r)
def pX:(n:Nat)->lA n Prop->Prop
 |0,p=>p
 |n+1,p=>∀v,pX n (p v)
theorem pY {β:Type}:∀ (n:Nat) (f:List x1->β) (vs:List x1),vs.length=n->app n (lam n f) vs=f vs
 |0,f,[],_=>rfl
 |n+1,f,v::r,h=>by
  simp only[app,lam];exact pY n _ r (by simpa using h)
theorem pZ:∀ (n:Nat) (p:lA n Prop) (vs:List x1),pX n p->app n p vs
 |0,_,_,h=>h
 |n+1,_,[],h=>pZ n _ [] (h undef)
 |n+1,_,v::r,h=>pZ n _ r (h v)
def Cc (n:Nat) (vs:List x1) (w:x2) (B:List x1->x2->(List x1->x2->Prop)->Prop):Prop:=
 ∃ (I:lA n (x2->Prop)) (J:lA n (x2->Nat)),app n I vs w/\
  pX n (lam n λus=>∀w',app n I us w'->B us w' λU V=>app n I U V/\app n J U V<app n J us w')
def Cd (w:x2) (B:x2->(x2->Prop)->Prop):Prop:=
 ∃ (I:x2->Prop) (J:x2->Nat),I w/\ ∀w',I w'->B w' λU=>I U/\J U<J w'
def bZ (a:x1) (w:x2) (B:x1->x2->(x1->x2->Prop)->Prop):Prop:=
 ∃ (I:x1->x2->Prop) (J:x1->x2->Nat),I a w/\ ∀a w',I a w'->B a w' λa' U=>I a' U/\J a' U<J a w'
def bC (a b:x1) (w:x2) (B:x1->x1->x2->(x1->x1->x2->Prop)->Prop):Prop:=
 ∃ (I:x1->x1->x2->Prop) (J:x1->x1->x2->Nat),I a b w/\ ∀a b w',I a b w'->B a b w' λa' U V=>I a' U V/\J a' U V<J a b w'
def kX (a b c:x1) (w:x2) (B:x1->x1->x1->x2->(x1->x1->x1->x2->Prop)->Prop):Prop:=
 ∃ (I:x1->x1->x1->x2->Prop) (J:x1->x1->x1->x2->Nat),I a b c w/\
  ∀a b c w',I a b c w'->B a b c w' λa' U V W=>I a' U V W/\J a' U V W<J a b c w'
def p0 (a b c d:x1) (w:x2) (B:x1->x1->x1->x1->x2->(x1->x1->x1->x1->x2->Prop)->Prop):Prop:=
 ∃ (I:x1->x1->x1->x1->x2->Prop) (J:x1->x1->x1->x1->x2->Nat),I a b c d w/\
  ∀a b c d w',I a b c d w'->B a b c d w' λa' U V W X=>I a' U V W X/\J a' U V W X<J a b c d w'
def mN (a b c d e:x1) (w:x2) (B:x1->x1->x1->x1->x1->x2->(x1->x1->x1->x1->x1->x2->Prop)->Prop):Prop:=
 ∃ (I:x1->x1->x1->x1->x1->x2->Prop) (J:x1->x1->x1->x1->x1->x2->Nat),I a b c d e w/\ ∀a b c d e w',I a b c d e w'->B a b c d e w' λa' U V W X Y=>I a' U V W X Y/\J a' U V W X Y<J a b c d e w'
def Ce (a b c d e f:x1) (w:x2) (B:x1->x1->x1->x1->x1->x1->x2->(x1->x1->x1->x1->x1->x1->x2->Prop)->Prop):Prop:=
 ∃ (I:x1->x1->x1->x1->x1->x1->x2->Prop) (J:x1->x1->x1->x1->x1->x1->x2->Nat),I a b c d e f w/\ ∀a b c d e f w',I a b c d e f w'->B a b c d e f w' λa' U V W X Y aa=>I a' U V W X Y aa/\J a' U V W X Y aa<J a b c d e f w'
def bx {α:Type} (I:α) (B:α->Prop):Prop:=B I
def vh (w:x2) (K:x2->Prop):Prop:=∀w',Ext w w'->Ext w' w->K w'
def Over (w:x2) (K:x2->Prop):Prop:=∀w',Ext w w'->Ext w' w->eA w w'->K w'
def cj (w:x2) (K:x2->Prop):Prop:=∀w',Ext w w'->Ext w' w->cI w w'->K w'
def iO (e:Env):List Nat->Option (List x1)
 |[]=>σ []
 |t::r=>match look e t with
  |some x=>match iO e r with
   |some vs=>σ (x.val::vs)
   |none=>ν
  |none=>ν
def hT:List Nat->List x1->Env->Env
 |t::r,v::vs,e=>(t,.v v)::hT r vs e
 |_,_,e=>e
def j7 (D:List Nat):Env->Env
 |[]=>[]
 |(t,x)::r=>bif hS t D then j7 D r else (t,x)::j7 D r
def oa (N:Nat) (D R:List Nat):List Nat:=(X9 N).filter λt=>hS t D&&hS t R
def ob (N:Nat) (D R:List Nat) (e:Env):List Nat:=(X9 N).filter λt=>hS t D&&((look e t).isSome&&hS t R)
def hU:Code->Bool
 | .seq a b=>hU a||hU b
 | .cond _ a b=>hU a||hU b
 | .block _ c=>hU c
 | .loop c=>hU c
 | .scope c=>hU c
 | .rangeFunc _ _ a b=>hU a||hU b
 | .ret=>true
 |_=>false
def Cf (i:Nat) (l:List Nat):List Nat:=bif hS i l then l else i::l
def p1:List Nat->List Nat->List Nat
 |[],l=>l
 |i::r,l=>Cf i (p1 r l)
def r4 (i:Nat):List Nat->List Nat
 |[]=>[]
 |j::r=>bif T3 i j then r4 i r else j::r4 i r
def ii:Code->List Nat
 | .seq a b=>p1 (ii a) (ii b)
 | .cond _ a b=>p1 (ii a) (ii b)
 | .block id c=>r4 id (ii c)
 | .loop c=>ii c
 | .scope c=>ii c
 | .rangeFunc _ _ a b=>p1 (ii a) (ii b)
 | .exit i=>[i]
 |_=>[]
def lB:List (Nat×(x2->Prop))->Nat->x2->Prop
 |[],_,_=>False
 |(j,k)::r,i,w=>(i=j/\k w)\/lB r i w
def r5 (K:Nat->x2->Prop):List Nat->List (Nat×(x2->Prop))
 |[]=>[]
 |i::r=>(i,λw=>K i w)::r5 K r
theorem vi {K:Nat->x2->Prop}:∀ {l:List Nat} {i:Nat} {w:x2},lB (r5 K l) i w->K i w
 |[],_,_,h=>h.elim
 |j::r,i,w,h=>by
  rcases h with⟨rfl,h⟩|h
  .exact h
  .exact vi h
section
variable (P:W5)
def mO {V:Type} (G:Bool) (g:FuncId) (cap:List x1) (ab:V) (ac:V->Prop) (ad:V->List x1->V->x2->Prop) (Y:x2->Prop):Prop:=
 Enters P g/\ ∀ (l:Nat) (J W:V->x2->Prop) (w:x2),
  (∀k U I,Ext U I->ce w.heap.size U I->J k U->J k I)->(∀k U I,Ext U I->ce w.heap.size U I->W k U->W k I)->
  (∀k aa vs w',Y w'->ad k vs aa w'->J k w'->ig P l vs w' λv X=>(v= .bool true/\Y X/\J aa X/\(G=true->cI w' X))\/(v= .bool false/\W k X))->
  Y w->J ab w->fX P g (.func (.yield l) #[] #[]::cap) w λ_ w'=>(∃k,ac k/\J k w')\/ ∃k,W k w'
def r6 (G:Bool) (g:FuncId) (cap:List x1) (n:Nat) (Y:Nat->List x1->x2->Prop) (X:x2->Prop):Prop:=
 Enters P g/\ ∀ (l:Nat) (J V:Nat->x2->Prop) (w:x2),
  (∀k U I,Ext U I->ce w.heap.size U I->J k U->J k I)->(∀k U I,Ext U I->ce w.heap.size U I->V k U->V k I)->
  (∀k vs w',k<n->X w'->Y k vs w'->J k w'->ig P l vs w' λv W=>(v= .bool true/\X W/\J (k+1) W/\(G=true->cI w' W))\/(v= .bool false/\V k W))->
  X w->J 0 w->fX P g (.func (.yield l) #[] #[]::cap) w λ_ w'=>J n w'\/ ∃k,k<n/\V k w'
def p2 {W:Type} (o G:Bool) (g:FuncId) (cap:List x1) (ab:W) (ac:W->Prop) (ad:W->List x1->W->x2->Prop) (Y:x2->Prop):Prop:=
 Enters P g/\ ∀ (l:Nat) (J X:Nat->W->x2->Prop) (w:x2),
  (∀m k U I,af (λr=>o=true/\w.heap.size<=r/\r<m) U I->ce w.heap.size U I->J m k U->J m k I)->
  (∀m k U I,af (λr=>o=true/\w.heap.size<=r/\r<m) U I->ce w.heap.size U I->X m k U->X m k I)->
  (∀m k aa vs w',w.heap.size<=m->m<=w'.heap.size->Y w'->ad k vs aa w'->J m k w'->ig P l vs w' λv V=>
   (v= .bool true/\Y V/\J m aa V/\(G=true\/o=true->cI w' V)/\w'.heap.size<=V.heap.size/\(o=true->af (λr=>r<w.heap.size\/m<=r) w' V))\/(o=false/\v= .bool false/\X m k V))->
  Y w->(∀m,J m ab w)->fX P g (.func (.yield l) #[] #[]::cap) w λ_ w'=>(∃m k,ac k/\J m k w')\/ ∃m k,X m k w'
abbrev lC (g:FuncId) (cap:List x1) (n:Nat) (I:Nat->List x1->x2->Prop) (J:x2->Prop):Prop:=r6 P false g cap n I J
def Cg (ag:x1) (ab:Nat) (w:x2) (B:List x1->x2->(Exit->x2->Prop)->Prop) (ah ai:x2->Prop) (aj:List (Nat×(x2->Prop))):Prop:=
 ∃ (I:Type) (o G:Bool) (g:FuncId) (cap:Array x1) (ad:I) (ae:I->Prop) (ac:I->List x1->I->x2->Prop) (J:x2->Prop) (V:Nat->I->x2->Prop) (X:Nat->I->Exit->x2->Prop),
  ag= .func (.func g) #[] cap/\p2 P o G g cap.toList ad ae ac J/\(∀k vs aa w,ac k vs aa w->vs.length=ab)/\
  (∀w w',Ext w w'->J w->J w')/\(∀m k U Y,af (λr=>o=true/\w.heap.size<=r/\r<m) U Y->V m k U->V m k Y)/\(∀m k ex U Y,af (λr=>o=true/\w.heap.size<=r/\r<m) U Y->X m k ex U->X m k ex Y)/\
  J w/\(∀m,V m ad w)/\
  pX ab (lam ab λvs=>∀m k aa w',w.heap.size<=m->m<=w'.heap.size->J w'->ac k vs aa w'->V m k w'->B vs w' λex W=>match ex with
   | .normal=>J W/\V m aa W/\bif o then eA w' W/\af (λr=>r<w.heap.size\/m<=r) w' W else (G=true->eA w' W)
   |ex=>bif o then False else X m k ex W)/\
  (∀m k w',ae k->V m k w'->ah w')/\(∀m k w',X m k .ret w'->ai w')/\(∀m k i w',X m k (.exit i) w'->lB aj i w')
def oc (ae:x1) (w:x2) (B:x1->x2->(Exit->x2->Prop)->Prop) (ag ah:x2->Prop) (ai:List (Nat×(x2->Prop))):Prop:=
 ∃ (I:Type) (o G:Bool) (g:FuncId) (cap:Array x1) (ac:I) (ad:I->Prop) (ab:I->List x1->I->x2->Prop) (J:x2->Prop) (V:Nat->I->x2->Prop) (X:Nat->I->Exit->x2->Prop),
  ae= .func (.func g) #[] cap/\p2 P o G g cap.toList ac ad ab J/\(∀k vs aa w,ab k vs aa w->vs.length=1)/\
  (∀w w',Ext w w'->J w->J w')/\(∀m k U Y,af (λr=>o=true/\w.heap.size<=r/\r<m) U Y->V m k U->V m k Y)/\(∀m k ex U Y,af (λr=>o=true/\w.heap.size<=r/\r<m) U Y->X m k ex U->X m k ex Y)/\
  J w/\(∀m,V m ac w)/\
  (∀a,∀m k aa w',w.heap.size<=m->m<=w'.heap.size->J w'->ab k [a] aa w'->V m k w'->B a w' λex W=>match ex with
   | .normal=>J W/\V m aa W/\bif o then eA w' W/\af (λr=>r<w.heap.size\/m<=r) w' W else (G=true->eA w' W)
   |ex=>bif o then False else X m k ex W)/\
  (∀m k w',ad k->V m k w'->ag w')/\(∀m k w',X m k .ret w'->ah w')/\(∀m k i w',X m k (.exit i) w'->lB ai i w')
def lD (ae:x1) (w:x2) (B:x1->x1->x2->(Exit->x2->Prop)->Prop) (ag ah:x2->Prop) (ai:List (Nat×(x2->Prop))):Prop:=
 ∃ (I:Type) (o G:Bool) (g:FuncId) (cap:Array x1) (ac:I) (ad:I->Prop) (ab:I->List x1->I->x2->Prop) (J:x2->Prop) (V:Nat->I->x2->Prop) (X:Nat->I->Exit->x2->Prop),
  ae= .func (.func g) #[] cap/\p2 P o G g cap.toList ac ad ab J/\(∀k vs aa w,ab k vs aa w->vs.length=2)/\
  (∀w w',Ext w w'->J w->J w')/\(∀m k U Y,af (λr=>o=true/\w.heap.size<=r/\r<m) U Y->V m k U->V m k Y)/\(∀m k ex U Y,af (λr=>o=true/\w.heap.size<=r/\r<m) U Y->X m k ex U->X m k ex Y)/\
  J w/\(∀m,V m ac w)/\
  (∀a b,∀m k aa w',w.heap.size<=m->m<=w'.heap.size->J w'->ab k [a,b] aa w'->V m k w'->B a b w' λex W=>match ex with
   | .normal=>J W/\V m aa W/\bif o then eA w' W/\af (λr=>r<w.heap.size\/m<=r) w' W else (G=true->eA w' W)
   |ex=>bif o then False else X m k ex W)/\
  (∀m k w',ad k->V m k w'->ag w')/\(∀m k w',X m k .ret w'->ah w')/\(∀m k i w',X m k (.exit i) w'->lB ai i w')
theorem r6.s {P:W5} {G:Bool} {g:FuncId} {cap:List x1} {U:Nat->List x1->x2->Prop} {I:x2->Prop} (h:r6 P G g cap n U I):
  mO P G g cap 0 (λk=>k=n) (λk vs V w=>k<n/\V=k+1/\U k vs w) I:=by
 refine⟨h.1,λl W X w Y aa ab hI ac=>?_⟩;have:=h.2 l W (λk w=>X k w) w Y aa (λk vs w' ad hae af ag=>ab k (k+1) vs w' hae ⟨ad,rfl,af⟩ ag) hI ac;cases this with
 |code h1 ah=>exact .code h1 (ah.mono λ_ _ ⟨v,ai,J⟩=>⟨v,ai,J.elim (λh=>.inl ⟨n,rfl,h⟩) (λ⟨k,_,h⟩=>.inr ⟨k,h⟩)⟩)
 |ext v w' h1 J=>exact .ext v w' h1 (J.elim (λh=>.inl ⟨n,rfl,h⟩) (λ⟨k,_,h⟩=>.inr ⟨k,h⟩))
theorem mO.x {P:W5} {Y:Type} {G:Bool} {g:FuncId} {cap:List x1} {ag:Y} {ah:Y->Prop} {ai:Y->List x1->Y->x2->Prop} {aa:x2->Prop} (h:mO P G g cap ag ah ai aa):p2 P false G g cap ag ah ai aa:=by
 refine⟨h.1,λl aj ak w al am an haa ao=>?_⟩;have:=h.2 l (λk w'=>w.heap.size<=w'.heap.size/\aj w.heap.size k w') (ak w.heap.size) w (λk U ac ab ad I=>⟨X0 I.1 ab.size,al _ k U ac (ab.V _) ad I.2⟩) (λk U ac ab ad I=>am _ k U ac (ab.V _) ad I)
  (λk ap vs w' haq au I=>ig.mono (an _ k ap vs w' (o8 _) I.1 haq au I.2) λv ax av=>av.imp (λ⟨h1,J,ae,W,X,_⟩=>⟨h1,J,⟨X0 I.1 X,ae⟩,λaw=>W (.inl aw)⟩) λ⟨_,h1,J⟩=>⟨h1,J⟩) haa ⟨o8 _,ao _⟩
 cases this with
 |code h1 J=>exact .code h1 (J.mono λ_ _ ⟨v,ae,W⟩=>⟨v,ae,W.imp (λ⟨k,X,af⟩=>⟨_,k,X,af.2⟩) (λ⟨k,h⟩=>⟨_,k,h⟩)⟩)
 |ext v w' h1 W=>exact .ext v w' h1 (W.imp (λ⟨k,X,af⟩=>⟨_,k,X,af.2⟩) (λ⟨k,h⟩=>⟨_,k,h⟩))
theorem oc.old {P:W5} {af:x1} {B:x1->x2->(Exit->x2->Prop)->Prop} {ag ah:x2->Prop} {ai:List (Nat×(x2->Prop))}
 (h:∃ (J:Type) (G:Bool) (g:FuncId) (cap:Array x1) (aa:J) (ab:J->Prop) (Y:J->List x1->J->x2->Prop) (I:x2->Prop) (V:J->x2->Prop) (W:J->Exit->x2->Prop),
  af= .func (.func g) #[] cap/\mO P G g cap.toList aa ab Y I/\(∀k vs X w,Y k vs X w->vs.length=1)/\
  (∀w w',Ext w w'->I w->I w')/\(∀k w w',Ext w w'->V k w->V k w')/\(∀k ex w w',Ext w w'->W k ex w->W k ex w')/\
  I w/\V aa w/\
  (∀a,∀k X w',I w'->Y k [a] X w'->V k w'->B a w' λex ac=>match ex with
   | .normal=>I ac/\V X ac/\(G=true->eA w' ac)
   |ex=>W k ex ac)/\
  (∀k w',ab k->V k w'->ag w')/\(∀k w',W k .ret w'->ah w')/\(∀k i w',W k (.exit i) w'->lB ai i w')):oc P af w B ag ah ai:=by
 obtain⟨J,G,g,cap,aa,ab,Y,I,V,W,h1,aj,ak,al,am,an,ao,ap,aq,au,av,aw⟩:=h;exact⟨J,false,G,g,cap,aa,ab,Y,I,λ_=>V,λ_=>W,h1,aj.x,ak,al,λ_ k U ad ae=>am k U ad (ae.ext λ_ _ h=>nomatch h.1),λ_ k ex U ad ae=>an k ex U ad (ae.ext λ_ _ h=>nomatch h.1),ao,λ_=>ap,
  λa _ k X w' _ _ hI ax ay=>aq a k X w' hI ax ay,λ_=>au,λ_=>av,λ_=>aw⟩
theorem lD.old {P:W5} {af:x1} {B:x1->x1->x2->(Exit->x2->Prop)->Prop} {ag ah:x2->Prop} {ai:List (Nat×(x2->Prop))}
 (h:∃ (J:Type) (G:Bool) (g:FuncId) (cap:Array x1) (aa:J) (ab:J->Prop) (Y:J->List x1->J->x2->Prop) (I:x2->Prop) (V:J->x2->Prop) (W:J->Exit->x2->Prop),
  af= .func (.func g) #[] cap/\mO P G g cap.toList aa ab Y I/\(∀k vs X w,Y k vs X w->vs.length=2)/\
  (∀w w',Ext w w'->I w->I w')/\(∀k w w',Ext w w'->V k w->V k w')/\(∀k ex w w',Ext w w'->W k ex w->W k ex w')/\
  I w/\V aa w/\
  (∀a b,∀k X w',I w'->Y k [a,b] X w'->V k w'->B a b w' λex ac=>match ex with
   | .normal=>I ac/\V X ac/\(G=true->eA w' ac)
   |ex=>W k ex ac)/\
  (∀k w',ab k->V k w'->ag w')/\(∀k w',W k .ret w'->ah w')/\(∀k i w',W k (.exit i) w'->lB ai i w')):lD P af w B ag ah ai:=by
 obtain⟨J,G,g,cap,aa,ab,Y,I,V,W,h1,aj,ak,al,am,an,ao,ap,aq,au,av,aw⟩:=h;exact⟨J,false,G,g,cap,aa,ab,Y,I,λ_=>V,λ_=>W,h1,aj.x,ak,al,λ_ k U ad ae=>am k U ad (ae.ext λ_ _ h=>nomatch h.1),λ_ k ex U ad ae=>an k ex U ad (ae.ext λ_ _ h=>nomatch h.1),ao,λ_=>ap,
  λa b _ k X w' _ _ hI ax ay=>aq a b k X w' hI ax ay,λ_=>au,λ_=>av,λ_=>aw⟩
def dX (N:Nat) (free:eV):Code->List Nat->Env->x2->(Exit->Env->x2->Prop)->Prop
 | .skip,_,e,w,K=>K .normal e w
 | .label _,_,e,w,K=>K .normal e w
 | .ret,_,e,w,K=>K .ret e w
 | .exit i,_,e,w,K=>K (.exit i) e w
 | .region _ ops V,_,e,w,K=>
  bif V then cj w λw'=>rV P free ops e w' (K .normal)
  else mL P free ops ops.toList e w (K .normal)
 | .seq x y,rd,e,w,K=>
  bif Nat.ble 2 (jo x) then
   bx (lam (oa N (c9 x) (reads y++rd)).length λvs=>λw'=>dX N free y rd (hT (oa N (c9 x) (reads y++rd)) vs (j7 (c9 x) e)) w' K)
    λW=>dX N free x (reads y++rd) e w λex I w'=>match ex with
     | .normal=>match iO I (oa N (c9 x) (reads y++rd)) with
      |some vs=>app (oa N (c9 x) (reads y++rd)).length W vs w'
      |none=>False
     |ex=>K ex I w'
  else dX N free x (reads y++rd) e w λex I w'=>match ex with
   | .normal=>dX N free y rd I w' K
   |ex=>K ex I w'
 | .cond c x y,rd,e,w,K=>
  match ef e c with
  |some (.b true)=>dX N free x rd e w K
  |some (.b false)=>dX N free y rd e w K
  |some (.v v)=>Split v (dX N free x rd e w K) (dX N free y rd e w K)
  |some .u=>False
  |none=>False
 | .block id c,rd,e,w,K=>dX N free c rd e w λex I w'=>match ex with
  | .exit i=>bif T3 i id then K .normal I w' else K (.exit i) I w'
  |ex=>K ex I w'
 | .loop c,rd,e,w,K=>
  match iO e (ob N (c9 c) (reads c++rd) e) with
  |some vs=>
   Cc (ob N (c9 c) (reads c++rd) e).length vs w λus w' k=>
    dX N free c (reads c++rd) (hT (ob N (c9 c) (reads c++rd) e) us (j7 (c9 c) e)) w' λex I J=>match ex with
     | .normal=>match iO I (ob N (c9 c) (reads c++rd) e) with
      |some X=>k X J
      |none=>False
     |ex=>K ex I J
  |none=>False
 | .scope c,rd,e,w,K=>dX N free c rd e w K
 | .rangeFunc f U Y body,_,e,w,K=>
  bif free.1 then False else
  match ef e f with
  |some aa=>
   Cg P aa.val U.size w
    (λvs w' k=>dX N free Y (reads body) (hT U.toList.reverse vs.reverse e) w' λex I J=>match ex with
     | .normal=>Over J λab=>dX N free body [] I ab λex _ ac=>k ex ac
     |_=>False)
    (λw'=>K .normal e w') (bif hU body then λw'=>K .ret e w' else λ_=>False) (r5 (λi w'=>K (.exit i) e w') (ii body))
  |none=>False
 | .goto _,_,_,_,_=>False
 | .refuse _,_,_,_,_=>False
end
theorem p3 {w0:x2} (h:ce n w0 w) {l:Nat} (W:w0.heap.size<=l) (o:Obj):ce n w0 (w.putObj l o):=
 ⟨h.os,h.tape,h.output,by simpa using h.size,λr x J I=>by
  have U:=(j4.1 J).1;rw[x2.putObj_heap_other Ω];exact h.a7 r x J I,λr x V J I=>by
  have U:=(j4.1 J).1;rw[x2.putObj_heap_other Ω];exact h.old r x V J I⟩
theorem Ch {w0:x2} (h:eA w0 w) {l:Nat} {J:Obj} (V:w.heap[l]? =σ J) (W:pN J=false) (o:Obj):eA w0 (w.putObj l o):=λr x X I=>by
 have h1:=h r x X I;by_cases U:r=l
 .subst U;rw[V] at h1;cases h1;rw[W] at I;cases I
 .rw[x2.putObj_heap_other U];exact h1
theorem od {l:Nat} {U:Obj} (W:w.heap[l]? =σ U) (X:fW U=false) (o:Obj):Ext w (w.putObj l o):=
 ⟨Ξ,λr x J I=>by
  by_cases V:r=l
  .subst V;rw[W] at J;cases J;rw[X] at I;cases I
  .rw[x2.putObj_heap_other V];exact J⟩
theorem vj {l:Nat} {o:Obj} (V:fW o=false):Ext (w.putObj l o) w:=
 ⟨Ξ,λr x J I=>by
  by_cases U:r=l
  .subst U;rcases Nat.lt_or_ge r w.heap.size with h|h
   .rw[x2.putObj_heap_same h] at J;cases J;rw[V] at I;cases I
   .rw[Array.getElem?_eq_none (by simpa using h)] at J;cases J
  .rw[x2.putObj_heap_other U] at J;exact J⟩
theorem mP (w:x2) (o:Obj):Ext w (w.alloc o):=n2 w o
theorem mQ (w:x2) (o:Obj):cI w (w.alloc o):=n3 w o
def iP (D:Nat):Deferred:={target:=.collected D,args:=#[]}
def j8 (w:x2) (J:List Deferred):Prop:=∃I:List Nat,J=I.map iP/\I.Nodup/\ ∀D∈I,w.heap[D]? =σ (.deferred (σ []))
theorem j8.ds {I:List Deferred} (h:j8 w I) (J:ce n w w'):j8 w' I:=by
 obtain⟨U,h1,V,W⟩:=h;exact⟨U,h1,V,λD X=>J.a7 D _ (W D X) rfl⟩
section
variable {P:W5} {N:Nat}
def Ci (w:x2) (J U:List Deferred):Prop:=∃I:List Nat,U=I.map iP++J/\ ∀D∈I,w.heap.size<=D
def fI (n:Nat) (w:x2) (J:List Deferred) (w':x2) (I:List Deferred):Prop:=ce n w w'/\j8 w' I/\Ci w J I
theorem fI.refl {I:List Deferred} (h:j8 w I):fI n w I w I:=⟨ce.refl _ _,h,[],rfl,λ_ h=>by cases h⟩
theorem fI.trans {U:x2} {I J V:List Deferred} (h:fI n w I U J) (k:fI n U J w' V):fI n w I w' V:=by
 obtain⟨W,af,X,a3,a4⟩:=h;obtain⟨Y,aa,ab,ac,ad⟩:=k;refine⟨W.trans Y,aa,ab++X,by simp[ac,a3],λD ae=>?_⟩;rcases n9.1 ae with h|h
 .exact X0 W.size (ad D h)
 .exact a4 D h
theorem fI.same {I:List Deferred} (h:j8 w I) (J:ce n w w'):fI n w I w' I:=⟨J,h.ds J,[],rfl,λ_ h=>by cases h⟩
def jp:Exit->Bool
 | .panic _=>false
 | .outgrown=>false
 | .goto _=>false
 |_=>true
def kY (N:Nat) (free:eV) (J:Bool) (K:Exit->Env->x2->Prop) (D:List Nat) (a:Act) (w:x2) (ex:Exit) (a':Act) (w':x2):Prop:=
 jp ex=true/\ ∃I,K ex I w'/\T9 N I a'/\(∀t,t∉D->a'.tmps.getD t undef=a.tmps.getD t undef)/\(J=true->a'.defers=a.defers)/\
  (free.1=false->fI free.2 w a.defers w' a'.defers)
theorem kY.step {free:eV} {J V:Bool} {K:Exit->Env->x2->Prop} {W:List Nat} {a I a':Act} {U:x2} {ex:Exit} (h:kY N free V K W I U ex a' w')
  (Y:∀t,t∈W->t∈D) (aa:∀t,t∉D->I.tmps.getD t undef=a.tmps.getD t undef) (ab:J=true->V=true) (ac:J=true->I.defers=a.defers)
  (ad:free.1=false->fI free.2 w a.defers U I.defers):kY N free J K D a w ex a' w':=by
 obtain⟨ae,af,h1,ag,ah,ai,aj⟩:=h;exact⟨ae,af,h1,ag,λt X=>(ah t λh=>X (Y t h)).trans (aa t X),λh=>(ai (ab h)).trans (ac h),λh=>(ad h).trans (aj h)⟩
theorem p4 {D:List Nat} {t:Nat} {x:dW}:∀ {e:Env},look (j7 D e) t=σ x->look e t=σ x/\t∉D
 |[],h=>by cases h
 |(s,y)::r,h=>by
  simp only[j7] at h;cases hm:hS s D with
  |true=>
   rw[hm] at h;simp only[cond_true] at h;obtain⟨h1,J⟩:=p4 h;refine⟨?_,J⟩;simp only[look];cases I:T3 s t with
   |true=>exact absurd (r2.1 hm) (by rw[Nat.eq_of_beq_eq_true I];exact J)
   |false=>exact h1
  |false=>
   rw[hm] at h;simp only[cond_false,look] at h ⊢;cases I:T3 s t with
   |true=>
    rw[I] at h;refine⟨h,λU=>?_⟩;rw[<-Nat.eq_of_beq_eq_true I] at U;rw[r2.2 U] at hm;cases hm
   |false=>
    rw[I] at h;exact p4 h
theorem r7 {a:Act} {e:Env}:∀ {S:List Nat} {vs:List x1},T9 N e a->(∀p∈S.zip vs,a.tmps.getD p.1 undef=p.2)->T9 N (hT S vs e) a
 |[],_,h,_=>by simpa[hT] using h
 |t::r,[],h,_=>by simpa[hT] using h
 |t::r,v::vs,h,U=>by
  have V:=r7 (S:=r) (vs:=vs) h λp W=>U p (by simp[W]);refine⟨V.1,λs x I=>?_⟩;simp only[hT,look] at I;cases J:T3 t s with
  |true=>
   rw[J] at I;simp only[cond_true,Y6] at I;subst I;rw[<-Nat.eq_of_beq_eq_true J];exact U (t,v) Ξ
  |false=>rw[J] at I;exact V.2 s x I
theorem p5 {e:Env} {a:Act} (V:T9 N e a):∀ {S:List Nat} {vs:List x1},iO e S=σ vs->vs.length=S.length/\ ∀p∈S.zip vs,a.tmps.getD p.1 undef=p.2
 |[],vs,h=>by simp[iO] at h;subst h;simp
 |t::r,vs,h=>by
  simp only[iO] at h;cases J:look e t with
  |none=>rw[J] at h;cases h
  |some x=>
   rw[J] at h;simp only at h;cases U:iO e r with
   |none=>rw[U] at h;cases h
   |some us=>
    rw[U] at h;simp only[Y6] at h;subst h;obtain⟨h1,W⟩:=p5 V U;refine⟨by simp[h1],λp I=>?_⟩;simp only[List.zip_cons_cons,U9] at I;rcases I with rfl|I
    .exact V.2 t x J
    .exact W p I
theorem Cj {a a':Act} {e I:Env} (J:T9 N e a) (U:T9 N I a') (V:∀t,t∉D->a'.tmps.getD t undef=a.tmps.getD t undef):T9 N (j7 D e) a':=
 ⟨U.1,λt x h=>by
  obtain⟨h1,W⟩:=p4 h;rw[V t W];exact J.2 t x h1⟩
theorem Ck {o:U8} {t:Nat} (I:o.dst=σ t) (l:List U8) (hm:o∈l):t∈lz l:=by
 induction l with
 |nil=>cases hm
 |cons o' l J=>
  simp only[lz];rcases U9.1 hm with h|h
  .rw[<-h,I];simp
  .have:=J h;cases o'.dst with
   |none=>exact this
   |some d=>exact .tail _ this
theorem vk {free:eV} {U:Bool} {K:Exit->Env->x2->Prop} {a a':Act} (V:free.1=false->j8 w a.defers) (h:kT N free (K .normal) D a w a' w'):
  kY N free U K D a w .normal a' w':=by
 obtain⟨W,h1,X,I,Y⟩:=h;exact⟨rfl,W,h1,X,I.2,λ_=>I.1,λJ=>by rw[I.1];exact fI.same (V J) (Y J)⟩
theorem vl:∀ (I:List Nat) (vs:List x1) (p:Nat) (v:x1) (e:Env),I.length=vs.length->hT (I++[p]) (vs++[v]) e=hT I vs ((p,.v v)::e)
 |[],[],_,_,_,_=>rfl
 |[],_::_,_,_,_,h=>by simp at h
 |_::_,[],_,_,_,h=>by simp at h
 |q::I,u::vs,p,v,e,h=>by
  simp only[List.cons_append,hT];rw[vl I vs p v e (by simpa using h)]
theorem vm:∀ (I:List Nat) (vs:List x1) (dk:Array x1) (e:Env),I.length=vs.length->(I.all λt=>Nat.blt t N)=true->T9 N e {tmps:=dk,defers:=[]}->
  T9 N (hT I.reverse vs.reverse e) {tmps:=(I.zip vs).foldl (λdk (p:Nat×x1)=>dk.setIfInBounds p.1 p.2) dk,defers:=[]}
 |[],[],_,_,_,_,h=>h
 |[],_::_,_,_,h,_,_=>by simp at h
 |_::_,[],_,_,h,_,_=>by simp at h
 |p::I,v::vs,dk,e,V,J,h=>by
  have U:I.length=vs.length:=by simpa using V
  simp only[List.all_cons,U1] at J;simp only[List.zip_cons_cons,List.foldl_cons,List.reverse_cons];rw[vl _ _ _ _ _ (by simpa using U)];exact vm I vs _ _ U J.2 (h.put (d:=σ p) (x:=.v v) (v:=v) J.1 rfl)
def hV (free:eV) (c:Code):Bool:=free.1|| !iN c
theorem vn:∀f a b:Bool,(f|| !(a||b))=true->(f|| !a)=true:=Φ
theorem vo:∀f a b:Bool,(f|| !(a||b))=true->(f|| !b)=true:=Φ
def exitCode:Exit->Option Code
 | .ret=>σ .ret
 | .exit id=>σ (.exit id)
 |_=>ν
end
section
variable {P:W5} {N:Nat}
def Sound (P:W5) (N:Nat) (c:Code):Prop:=
 ∀ (free:eV) (r:Option Nat) (rd:List Nat) (e:Env) (a:Act) (w:x2) (K:Exit->Env->x2->Prop) (Q:Exit->Act->x2->Prop),
  wf N c=true->(∀l,r=σ l->free.1=false/\ ∃I,w.heap[l]? =σ (.loop I))->(free.1=false->j8 w a.defers)->
  dX P N free c rd e w K->T9 N e a->(∀ex a' w',kY N free (hV free c) K (c9 c) a w ex a' w'->Q ex a' w')->(∀J a w,¬Q (.panic J) a w)->
  c.wpIn (dQ r) 0 P Q a w
theorem Cl {x y:Code} (ay:Sound P N x) (az:Sound P N y):Sound P N (.seq x y):=by
 intro free r rd e a w K Q af al aA h am an ao;simp only[wf,U1] at af;have ap:∀t,t∈c9 x->t∈c9 (.seq x y):=λt W=>by simp[c9,W]
 have aB:∀t,t∈c9 y->t∈c9 (.seq x y):=λt W=>by simp[c9,W]
 have aq:hV free (.seq x y)=true->hV free x=true:=λh=>vn _ _ _ h;have aC:hV free (.seq x y)=true->hV free y=true:=λh=>vo _ _ _ h;refine wpIn_seq ?_;have au:∀ (I:Env) (J:Act) (U:x2),dX P N free y rd I U K->T9 N I J->(∀t,t∉c9 x->J.tmps.getD t undef=a.tmps.getD t undef)->
   (hV free (.seq x y)=true->J.defers=a.defers)->(free.1=false->fI free.2 w a.defers U J.defers)->y.wpIn (dQ r) 0 P Q J U:=by
  intro I J U h1 X Y ab V;refine az free r rd I J U K Q af.2 ?_ (λh=>(V h).2.1) h1 X ?_ ao
  .intro l aD;obtain⟨av,aE,ae⟩:=al l aD;exact⟨av,aE,(V av).1.a7 _ _ ae rfl⟩
  .intro ex a' w' ac;exact an ex a' w' (ac.step aB (λt W=>Y t λh=>W (ap t h)) aC ab V)
 have aw:∀ (aa:Exit->Env->x2->Prop),dX P N free x (reads y++rd) e w aa->
   (∀I J U,kY N free (hV free x) aa (c9 x) a w .normal J U->T9 N I J->aa .normal I U->(∀t,t∉c9 x->J.tmps.getD t undef=a.tmps.getD t undef)->
    (hV free (.seq x y)=true->J.defers=a.defers)->(free.1=false->fI free.2 w a.defers U J.defers)->y.wpIn (dQ r) 0 P Q J U)->
   (∀ex I U,ex≠ .normal->aa ex I U->K ex I U)->x.wpIn (dQ r) 0 P (Exit.then (y.wpIn (dQ r) 0 P Q) Q) a w:=by
  intro aa ad V aF;refine ay free r _ e a w aa _ af.1 al aA ad am ?_ ?_
  .intro ex J U ac;cases ex with
   |normal=>
    have aG:=ac;obtain⟨ae,I,h1,ag,ah,ai,aj⟩:=ac;exact V I J U aG ag h1 ah (λh=>ai (aq h)) aj
   |_=>
    obtain⟨ae,I,h1,ag,ah,ai,aj⟩:=ac;refine an _ J U ⟨ae,I,aF _ I U Ξ h1,ag,λt W=>ah t λh=>W (ap t h),λh=>ai (aq h),aj⟩
  .intro aH a w aI;exact ao aH a w aI
 simp only[dX] at h;cases ax:Nat.ble 2 (jo x) with
 |false=>
  rw[ax] at h;refine aw _ h (λI J U _ X h1 Y ab V=>au I J U h1 X Y ab V) ?_;intro ex I U ak h1;cases ex <;> first|exact absurd rfl ak|exact h1
 |true=>
  rw[ax] at h;refine aw _ h (λI J U _ X h1 Y ab V=>?_) ?_
  .simp only at h1;cases ad:iO I (oa N (c9 x) (reads y++rd)) with
   |none=>rw[ad] at h1;exact h1.elim
   |some vs=>
    rw[ad] at h1;obtain⟨aJ,aK⟩:=p5 X ad;simp only at h1;rw[pY _ _ _ aJ] at h1;exact au _ J U h1 (r7 (Cj am X Y) aK) Y ab V
  .intro ex I U ak h1;cases ex <;> first|exact absurd rfl ak|exact h1
theorem Cm {c:Code} (ay:Sound P N c):Sound P N (.loop c):=by
 intro free r rd e a w K Q an az aA h ae aB aC;simp only[wf] at an;simp only[dX] at h;generalize aR:ob N (c9 c) (reads c++rd) e=S at h;cases af:iO e S with
 |none=>rw[af] at h;exact h.elim
 |some vs=>
  rw[af] at h;simp only at h;obtain⟨aD,aE,V,aF⟩:=h;obtain⟨aG,aH⟩:=p5 ae af;let Inv:Act->x2->Prop:=λI U=>∃us,us.length=S.length/\app S.length aD us U/\(∀p∈S.zip us,I.tmps.getD p.1 undef=p.2)/\I.tmps.size=N/\
   (∀t,t∉c9 c->I.tmps.getD t undef=a.tmps.getD t undef)/\(hV free c=true->I.defers=a.defers)/\(free.1=false->fI free.2 w a.defers U I.defers)
  let W:Act->List x1:=λI=>S.map λt=>I.tmps.getD t undef;have ao:∀ (I:Act) (us:List x1),us.length=S.length->(∀p∈S.zip us,I.tmps.getD p.1 undef=p.2)->W I=us:=by
   intro I us X Y;apply List.ext_getElem
   .simp[W,X]
   .intro i h1 J;have hi:i<S.length:=by simpa[W] using h1
    have aI:(S[i],us[i])∈S.zip us:=by
     have:=R2 (l:=S.zip us) (n:=i) (by simp[List.length_zip,X,hi]);simpa using this
    simpa[W] using Y _ aI
  refine wpIn_loop Inv (λI U=>app S.length aE (W I) U) ⟨vs,aG,V,aH,ae.1,λ_ _=>rfl,λ_=>rfl,λaa=>fI.refl (aA aa)⟩ ?_;rintro I U ⟨us,X,aJ,Y,aK,ap,aa,ab⟩;have ac:=pZ S.length _ us aF;rw[pY _ _ _ X] at ac;have ac:=ac U aJ;have aL:T9 N (hT S us (j7 (c9 c) e)) I:=by
   refine r7 (a:=I) (e:=j7 (c9 c) e) ⟨aK,λt x ad=>?_⟩ Y;obtain⟨h1,J⟩:=p4 ad;rw[ap t J];exact ae.2 t x h1
  refine ay free r _ _ I U _ _ an ?_ (λh=>(ab h).2.1) ac aL ?_ ?_
  .intro l aM;obtain⟨aq,aN,V⟩:=az l aM;exact⟨aq,aN,(ab aq).1.a7 _ _ V rfl⟩
  .intro ex ag aO ah;have au:∀t,t∉c9 c->ag.tmps.getD t undef=a.tmps.getD t undef:=by
    obtain⟨_,_,_,_,ai,_,_⟩:=ah;exact λt ad=>(ai t ad).trans (ap t ad)
   cases ex with
   |normal=>
    obtain⟨V,aj,h1,J,ai,ak,al⟩:=ah;simp only at h1;cases am:iO aj S with
    |none=>rw[am] at h1;exact h1.elim
    |some av=>
     rw[am] at h1;obtain⟨aw,ax⟩:=p5 J am;refine⟨⟨av,aw,h1.1,ax,J.1,au,λh=>(ak h).trans (aa h),λh=>(ab h).trans (al h)⟩,?_⟩;rw[ao I us X Y,ao ag av aw ax];exact h1.2
   |_=>
    obtain⟨V,aj,h1,J,ai,ak,al⟩:=ah;exact aB _ ag aO ⟨V,aj,h1,J,au,λh=>(ak h).trans (aa h),λh=>(ab h).trans (al h)⟩
  .intro aP a w aQ;exact aC aP a w aQ
theorem Cn {o:Obj} (h:fW o=false):book o=true\/pN o=true:=by cases o <;> first|exact .inl rfl|exact .inr rfl|cases h
theorem Co {l:Nat} {V ab W:x2} {ac ad:Obj} (ae:V.heap[l]? =σ ac) (J:ce n V ab) (U:ce n (ab.putObj l ad) W) (af:l<W.heap.size) (hi:eA V W):cI V (W.putObj l ac):=
 ⟨U.os.trans J.os,iL.trans U.tape J.tape,U.output.trans J.output,by have h1:=J.size;have ag:=U.size;simp at ag ⊢;omega,λr x X I=>by
  by_cases aa:r=l
  .subst aa;rw[ae] at X;cases X;exact x2.putObj_heap_same af
  .rw[x2.putObj_heap_other aa];rcases Cn I with Y|Y
   .exact U.a7 r x (by rw[x2.putObj_heap_other aa];exact J.a7 r x X Y) Y
   .exact hi r x X Y⟩
theorem Cp {f:T8} {ah:Array Tmp} {ap body:Code} (bn:Sound P N ap) (aA:Sound P N body):Sound P N (.rangeFunc f ah ap body):=by
 intro free r rd e a w K Q aZ aB bo h aw bp cg;simp only[wf,U1] at aZ;obtain⟨bq,br,bt⟩:=aZ;simp only[dX] at h;obtain⟨fr,b⟩:=free;cases fr with
 |true=>exact h.elim
 |false=>
  simp only[cond_false] at h;cases aI:ef e f with
  |none=>rw[aI] at h;exact h.elim
  |some ch=>
   rw[aI] at h;obtain⟨a1,o,G,g,cap,ci,cj,ck,aJ,bu,aK,bw,⟨a2,bx⟩,bz,ha6,aC,aL,hbA,bB,bC,bD,bE,bF⟩:=h;have bG:∀m k ex w',jp ex=true->ex≠ .normal->aK m k ex w'->K ex e w':=by
    intro m k ex w' ax aM a8;cases ex with
    |normal=>exact absurd rfl aM
    |ret=>
     have:=bE m k w' a8;cases aB:hU body with
     |true=>rw[aB] at this;exact this
     |false=>rw[aB] at this;exact this.elim
    |exit i=>exact vi (bF m k i w' a8)
    |_=>cases ax
   have bH:a.eval f= .func (.func g) #[] cap:=by rw[aw.ef aI];exact bw
   refine wpIn_rangeFunc ?_;intro fn _;obtain⟨D,mark,l,Y,U,bI,W,bJ,aN,ai,bK,aD⟩:∃ (D:Nat) (mark:List Deferred) (l:Nat) (Y:x2) (U:LoopState->Option Code->Loop),
     (Instr.enterLoop fn a.tmps ah ap body (dQ r).round).run P w= .ok (l,mark) Y/\
     U=(λst bL=>{state:=st,pending:=bL,fn,tmps:=a.tmps,params:=ah,assign:=ap,body,defers:=D})/\
     Y.heap[l]? =σ (.loop (U .ready ν))/\(mark=[]\/(mark=[iP D]/\Y.heap[D]? =σ (.deferred (σ []))/\w.heap.size<=D/\D≠l))/\Ext w Y/\ce b w Y/\w.heap.size<=l:=by
    cases r with
    |none=>
     refine⟨w.heap.size,[iP w.heap.size],w.heap.size+1,_,_,run_enterLoop_outer _ _ _ _ _,rfl,?_,.inr ⟨rfl,?_,o8 _,Ω⟩,?_,?_,Ω⟩
     .have:=x2.alloc_heap_new (w.alloc (.deferred (σ []))) (.loop {state:=.ready,pending:=ν,fn,tmps:=a.tmps,params:=ah,assign:=ap,body,defers:=w.heap.size});rwa [x2.size_alloc] at this
     .exact (Below.heap_alloc _ _ _ Ξ).trans (x2.alloc_heap_new w _)
     .exact (mP w _).trans (mP _ _)
     .exact ((mQ w _).trans (mQ _ _)).b
    |some bM=>
     obtain⟨_,bN,ad⟩:=aB bM rfl;exact⟨bN.defers,[],w.heap.size,_,_,run_enterLoop_inner ad _ _ _ _ _,rfl,x2.alloc_heap_new w _,.inl rfl,mP _ _,(mQ _ _).b,o8 _⟩
   let aj:x2->Prop:=λI=>mark=[]\/(mark=[iP D]/\I.heap[D]? =σ (.deferred (σ []))/\w.heap.size<=D/\D≠l);have ay:∀ {m:Nat} {A B:x2},ce m A B->aj A->aj B:=λae h=>h.imp id λ⟨h1,J,X⟩=>⟨h1,ae.a7 _ _ J rfl,X⟩;have aE:∀ {A:x2} (o:Obj),aj A->aj (A.putObj l o):=λo h=>h.imp id λ⟨h1,J,X,ab⟩=>⟨h1,(x2.putObj_heap_other ab).trans J,X,ab⟩;let ba:Nat->a1->x2->Prop:=λm k I=>bu m k I/\I.heap[l]? =σ (.loop (U .ready ν))/\ce b w I/\aj I;let bb:Nat->a1->x2->Prop:=λm k I=>∃ex c,jp ex=true/\exitCode ex=σ c/\aK m k ex I/\I.heap[l]? =σ (.loop (U .done (σ c)))/\ce b w I/\aj I;have own:∀ {m:Nat} {A B:x2},af (λr=>o=true/\Y.heap.size<=r/\r<m) A B->af (λr=>o=true/\w.heap.size<=r/\r<m) A B:=λh=>h.mono λr _ h=>⟨h.1,X0 ai.size h.2.1,h.2.2⟩;have aO:=bx l ba bb Y (λm k A B he ae ⟨h1,J,X,ab⟩=>⟨aC m k A B (own he) h1,ae.a7 _ _ J rfl,X.step ae ai.size,ay ae ab⟩)
    (λm k A B he ae ⟨ex,c,ad,h1,J,X,ab,az⟩=>⟨ex,c,ad,h1,aL m k ex A B (own he) J,ae.a7 _ _ X rfl,ab.step ae ai.size,ay ae az⟩) ?round (ha6 _ _ ai hbA) λm=>⟨aC m _ _ _ (ai.V _) (bB m),bJ,bK,aN⟩
   case round=>
    intro m k aP vs I bO bP haJ bc ⟨hi,aF,bQ,bR⟩;have aQ:=bz k vs aP I bc;have bd:=run_yield (P:=P) (args:=vs.toArray) aF (by rw[W];simp[aQ]);rw[W] at bd;refine⟨fn,_,ap,body,bd,roundIn_of_wpIn trivial ?_⟩;have bS:(ah.zip vs.toArray).foldl (λtmps x=>match x with|(t,a)=>tmps.setIfInBounds t a) a.tmps=(ah.toList.zip vs).foldl (λdk (p:Nat×x1)=>dk.setIfInBounds p.1 p.2) a.tmps:=by
     rw[<-Array.foldl_toList,Array.toList_zip]
    have be:=vm (N:=N) ah.toList vs a.tmps e (by simp[aQ]) bq (show T9 N e {tmps:=a.tmps,defers:=[]} from⟨aw.1,aw.2⟩);rw[<-bS] at be;have bT:I.heap[l]? =σ (.loop (U .ready ν)):=aF;refine bn (false,b) (σ l) _ _ _ I _ _ br (λl' aR=>⟨rfl,by cases aR;exact⟨_,aF⟩⟩) (λ_=>⟨[],rfl,List.nodup_nil,λD aN=>by cases aN⟩) (by have aA:=pZ _ _ vs bC;rw[pY _ _ _ aQ] at aA;exact aA m k aP I (X0 ai.size bO) bP haJ bc hi) be ?_ (λ_ _ _ h=>h);intro ex bf aa aS;obtain⟨ad,cl,h1,J,X,ab,az⟩:=aS;obtain⟨ak,bU,_⟩:=az rfl;cases ex with
    |normal=>
     have aq:aa.heap[l]? =σ (.loop (U .ready ν)):=ak.a7 _ _ aF rfl;have bV:=(j4.1 aq).1;refine⟨_,run_beginRound aq (by rw[W]),?_⟩;have bW:Ext aa (aa.putObj l (.loop {U .ready ν with state:=.busy})):=od aq rfl _;have bg:(aa.putObj l (.loop {U .ready ν with state:=.busy})).heap[l]? =σ (.loop {U .ready ν with state:=.busy}):=x2.putObj_heap_same bV;have bX:j8 (aa.putObj l (.loop {U .ready ν with state:=.busy})) bf.defers:=by
      obtain⟨aG,au,av,ag⟩:=bU;refine⟨aG,au,av,λal am=>?_⟩;have:=ag al am;have aM:al≠l:=λhe=>by rw[he,aq] at this;cases this
      rw[x2.putObj_heap_other aM];exact this
     have bh:ce b w (aa.putObj l (.loop {U .ready ν with state:=.busy})):=p3 (bQ.trans ak) aD _;have bi:=aE (.loop {U .ready ν with state:=.busy}) (ay ak bR);have bY:=h1 _ bW (vj rfl) (Ch (eA.refl _) aq rfl _);refine aA (false,b) (σ l) _ _ bf _ _ _ bt (λl' aR=>⟨rfl,by cases aR;exact⟨_,bg⟩⟩) (λ_=>bX) bY J ?_ (λ_ _ _ h=>h);intro bZ cm an aS;obtain⟨aT,cn,aU,cp,cq,cr,b0⟩:=aS;obtain⟨ac,_,_⟩:=b0 rfl;have aV:an.heap[l]? =σ (.loop {U .ready ν with state:=.busy}):=ac.a7 _ _ bg rfl;have aW:=(j4.1 aV).1;have bj:=λb1=>run_endRound (P:=P) b1 aV;have aH:∀ (o:Obj),Ext an (an.putObj l o):=λo=>od aV rfl o;have bk:∀ (ex:Exit) (c:Code),jp ex=true->exitCode ex=σ c->(bif o then False else aK m k ex an)->
       ∃v w',(Instr.endRound l (σ c)).run P an= .ok v w'/\ ∃aX,Ending.returned v= .returned aX/\((aX= .bool true/\aJ w'/\ba m aP w'/\(G=true\/o=true->cI I w')/\I.heap.size<=w'.heap.size/\(o=true->af (λr=>r<Y.heap.size\/m<=r) I w'))\/(o=false/\aX= .bool false/\bb m k w')):=by
      intro ex c ax b2 bl;cases o with
      |true=>exact bl.elim
      |false=>
       refine⟨_,_,bj (σ c),_,rfl,.inr ⟨rfl,rfl,ex,c,ax,b2,aL m k ex _ _ ((aH _).V _) bl,?_,p3 (bh.trans ac) aD _,aE _ (ay ac bi)⟩⟩;rw[x2.putObj_heap_same aW,W];rfl
     cases bZ with
     |normal=>
      obtain⟨au,av,ag⟩:=aU;have b3:G=true\/o=true->eA I an:=by
       cases o with
       |true=>exact λ_=>ag.1
       |false=>exact λh=>ag (h.elim id λh=>nomatch h)
      have b4:o=true->af (λr=>r<Y.heap.size\/m<=r) I an:=by
       cases o with
       |true=>exact λ_=>ag.2.mono λr _ h=>h.imp (λh=>Nat.lt_of_lt_of_le h ai.size) id
       |false=>exact λh=>nomatch h
      refine⟨_,_,bj ν,_,rfl,.inl ⟨rfl,ha6 _ _ (aH _) au,⟨aC m _ _ _ ((aH _).V _) av,?_,p3 (bh.trans ac) aD _,aE _ (ay ac bi)⟩,λb5=>?_,?_,λb6=>(b4 b6).trans ((aH _).V _)⟩⟩
      .rw[x2.putObj_heap_same aW,W];rfl
      .have:=Co bT ak ac aW (b3 b5);subst W;exact this
      .have h1:=ak.size;have J:=ac.size;simp at J ⊢;omega
     |ret=>exact bk .ret _ rfl rfl aU
     |exit id=>exact bk (.exit id) _ rfl rfl aU
     |goto t=>cases aT
     |panic b7=>cases aT
     |outgrown=>cases aT
    |_=>exact h1.elim
   have aO:=fX.calls P aO a2;refine⟨l,mark,Y,{target:=.fn (.func g) cap,args:=#[.func (.yield l) #[] #[]]},Y,g,#[.func (.yield l) #[] #[]]++cap,Y,bI,?_,λ_ _=>trivial,?_,rO _ _,?_⟩
   .simp only[resolve,bH];simp[go_sem]
   .simp only[invoke];exact a2 _ _
   .have b8:(#[.func (.yield l) #[] #[]]++cap:Array x1)=(x1.func (.yield l) #[] #[]::cap.toList).toArray:=by apply Array.toList_inj.1;simp
    rw[b8];refine CallsIn.mono (u1 aO) ?_;rintro ct aa ⟨v,rfl,b9⟩;have left:∀ (ao:Loop) (ex:Exit),jp ex=true->aa.heap[l]? =σ (.loop ao)->ao.state≠ .busy->ce b w aa->aj aa->K ex e (aa.putObj l (.loop {ao with state:=.exhausted}))->
      Q ex {a with defers:=mark++a.defers} (aa.putObj l (.loop {ao with state:=.exhausted})):=by
     intro ao ex ax aq cu ak bm ca;have ac:ce b w (aa.putObj l (.loop {ao with state:=.exhausted})):=p3 ak aD _;refine bp ex _ _ ⟨ax,e,ca,⟨aw.1,aw.2⟩,λ_ _=>rfl,(λh=>by simp[hV,iN] at h),λ_=>⟨ac,?_,?_⟩⟩
     case refine_2=>
      rcases bm with hm|⟨hm,_,cb,_⟩
      .exact⟨[],by simp[hm],λ_ h=>by cases h⟩
      .exact⟨[D],by simp[hm],λal am=>by simp at am;omega⟩
     obtain⟨aG,au,av,ag⟩:=bo rfl;have aY:=aE (.loop {ao with state:=.exhausted}) bm;rcases aY with hm|⟨hm,aY,cb,_⟩
     .exact⟨aG,by simp[hm,au],av,λal am=>ac.a7 _ _ (ag al am) rfl⟩
     .refine⟨D::aG,by simp[hm,au],List.nodup_cons.2 ⟨λcc=>?_,av⟩,λal am=>?_⟩
      .have:=(j4.1 (ag D cc)).1;omega
      .rcases U9.1 am with h|h
       .rw[h];exact aY
       .exact ac.a7 _ _ (ag al h) rfl
    rcases b9 with⟨m,k,cd,h1,J,X,ab⟩|⟨m,k,ex,c,ad,h1,J,X,ab,az⟩
    .refine⟨ν,_,by have:=run_endLoop (P:=P) J (by rw[W];simp);rw[W] at this;exact this,?_⟩;have:=left (U .ready ν) .normal rfl J (by rw[W];simp) X ab (bD m _ _ cd (aC m _ _ _ ((od J rfl _).V _) h1));rw[W] at this;exact this
    .refine⟨σ c,_,by have:=run_endLoop (P:=P) X (by rw[W];simp);rw[W] at this;exact this,?_⟩;have:=left (U .done (σ c)) ex ad X (by rw[W];simp) ab az (bG m k ex _ ad (by intro he;rw[he] at h1;cases h1) (aL m _ _ _ _ ((od X rfl _).V _) J));rw[W] at this;cases ex with
     |normal=>cases h1
     |ret=>cases h1;exact wpIn_ret this
     |exit id=>cases h1;exact wpIn_exit this
     |goto t=>cases ad
     |panic b7=>cases ad
     |outgrown=>cases ad
theorem p6 {b:Frame} {a:Act} {k:List Item} {cs:List Frame} {c:Code}:
  step P (lone (b.atR a (.code (.scope c)::k)) cs w)= .next (lone (b.atR a (.code c:: .inScope c::k)) cs w):=
 step_lone_go (by simp[stepG,stepG.exec,Frame.atR])
theorem Cq {b:Frame} {a:Act} {k:List Item} {cs:List Frame} {c:Code}:
  step P (lone (b.atR a (.inScope c::k)) cs w)= .next (lone (b.atR a k) cs w):=
 step_lone_go (by simp[stepG,stepG.exec,Frame.atR])
theorem Cr {F:Fence} {c:Code} {Q:Exit->Act->x2->Prop} {a:Act} (h:c.wpIn F n P (λex a' w'=>jp ex=true/\Q ex a' w') a w):
  (Code.scope c).wpIn F n P Q a w:=by
 intro b k cs ad U V;have I:(lone (b.atR a (.code (.scope c)::k)) cs w).fenced P F:=fenced_calm U V rfl;obtain⟨e,W,X,⟨Y,aa⟩,J⟩:=h b (.inScope c::k) cs ad U V;have ac:∀id,exitTo id (.inScope c::k)=exitTo id k:=λid=>by simp[exitTo]
 cases e with
 |normal=>exact⟨.normal,W,X,aa,.head I p6 (StepsIn.trans J (.one (fenced_calm U V rfl) Cq))⟩
 |exit id=>
  exact⟨.exit id,W,X,aa,λae ab=>.head I p6 (J.1 ae (by rw[ac];exact ab)),
   λaf ab=>let⟨ag,h1,ah⟩:=J.2 af (by rw[ac];exact ab);⟨ag,h1,.head I p6 ah⟩⟩
 |ret=>exact⟨_,W,X,aa,.of_steps (.one I p6) J⟩
 |goto l=>cases Y
 |panic ai=>cases Y
 |outgrown=>cases Y
theorem sound (hm:P.follows .mixedOrders=true) (c:Code):Sound P N c:=by
 induction c with
 |skip=>exact λfree r rd e a w K Q _ _ J h I U _=>wpIn_skip (U _ _ _ ⟨rfl,e,h,I,λ_ _=>rfl,λ_=>rfl,λY=>fI.refl (J Y)⟩)
 |label l=>exact λfree r rd e a w K Q _ _ J h I U _=>wpIn_label (U _ _ _ ⟨rfl,e,h,I,λ_ _=>rfl,λ_=>rfl,λY=>fI.refl (J Y)⟩)
 |ret=>exact λfree r rd e a w K Q _ _ J h I U _=>wpIn_ret (U _ _ _ ⟨rfl,e,h,I,λ_ _=>rfl,λ_=>rfl,λY=>fI.refl (J Y)⟩)
 |exit i=>exact λfree r rd e a w K Q _ _ J h I U _=>wpIn_exit (U _ _ _ ⟨rfl,e,h,I,λ_ _=>rfl,λ_=>rfl,λY=>fI.refl (J Y)⟩)
 |goto l=>exact λfree r rd e a w K Q _ _ J h I U _=>h.elim
 |refuse s=>exact λfree r rd e a w K Q _ _ J h I U _=>h.elim
 |region id ops au=>
  intro free r rd e a w K Q V aa J h I U ab;simp only[wf,U1] at V;have an:∀o∈ops.toList,∀t,o.dst=σ t->t∈lz ops.toList:=λo av t ae=>Ck ae _ av;simp only[dX] at h;cases au with
  |false=>exact BZ an V.1 h I λa' w' W=>U _ _ _ (vk J W)
  |true=>
   simp only[Y1,Bool.false_or] at V;exact B9 hm V.2 ab an V.1 (λw' h1 ac ad=>h w' h1 ac ad) I λa' w' W=>U _ _ _ (vk J W)
 |seq x y ai aj=>exact Cl ai aj
 |cond c x y ai aj=>
  intro free r rd e a w K Q V aa J h I U ab;simp only[wf,U1] at V;have ao:∀ex a' w',kY N free (hV free x) K (c9 x) a w ex a' w'->Q ex a' w':=λex a' w' W=>U ex a' w' (by
   obtain⟨ah,af,h1,ac,ad,ag,ak⟩:=W;exact⟨ah,af,h1,ac,λt ae=>ad t λh=>ae (by simp[c9,h]),(λh=>ag (vn _ _ _ h)),ak⟩)
  have ap:∀ex a' w',kY N free (hV free y) K (c9 y) a w ex a' w'->Q ex a' w':=λex a' w' W=>U ex a' w' (by
   obtain⟨ah,af,h1,ac,ad,ag,ak⟩:=W;exact⟨ah,af,h1,ac,λt ae=>ad t λh=>ae (by simp[c9,h]),(λh=>ag (vo _ _ _ h)),ak⟩)
  simp only[dX] at h;cases X:ef e c with
  |none=>rw[X] at h;exact h.elim
  |some v=>
   rw[X] at h;cases v with
   |b t=>
    cases t with
    |true=>exact wpIn_cond (t:=true) (I.ef X) (ai free r rd e a w K Q V.1 aa J h I ao ab)
    |false=>exact wpIn_cond (t:=false) (I.ef X) (aj free r rd e a w K Q V.2 aa J h I ap ab)
   |v z=>
    obtain⟨t,aw,ae,Y⟩:=h;refine wpIn_cond (t:=t) ((I.ef X).trans aw) ?_;cases t with
    |true=>exact ai free r rd e a w K Q V.1 aa J (ae rfl) I ao ab
    |false=>exact aj free r rd e a w K Q V.2 aa J (Y rfl) I ap ab
   |u=>exact h.elim
 |block id c X=>
  intro free r rd e a w K Q V aa J h I U ab;simp only[wf] at V;simp only[dX] at h;refine wpIn_block (X free r rd e a w _ _ V aa J h I ?_ λaq a w al=>ab aq a w al);intro ex a' w' W;obtain⟨ah,af,h1,ac,ad,ag⟩:=W;cases ex with
  |exit i=>
   simp only[Exit.inBlock];simp only at h1;by_cases hi:i=id
   .rw[if_pos hi];rw[hi,Nat.beq_refl] at h1;exact U _ _ _ ⟨rfl,af,h1,ac,ad,ag⟩
   .rw[if_neg hi];have:T3 i id=false:=by
     cases am:T3 i id with
     |true=>exact absurd (Nat.eq_of_beq_eq_true am) hi
     |false=>rfl
    rw[this] at h1;exact U _ _ _ ⟨rfl,af,h1,ac,ad,ag⟩
  |_=>exact U _ _ _ ⟨ah,af,h1,ac,ad,ag⟩
 |loop c X=>exact Cm X
 |scope c X=>
  intro free r rd e a w K Q V aa J h I U ab;exact Cr (X free r rd e a w K (λex a' w'=>jp ex=true/\Q ex a' w') V aa J h I (λex a' w' W=>⟨W.1,U ex a' w' W⟩) λaq a w al=>by cases al.1)
 |rangeFunc f ay az body ax am=>exact Cp ax am
def jq:Nat->List x1->Env
 |_,[]=>[]
 |i,v::r=>(i,.v v)::jq (i+1) r
def lE (P:W5) (e:Env) (w:x2):List ResultVar->(List x1->Prop)->Prop
 |[],K=>K []
 | .tmp t::r,K=>match look e t with
  |some x=>lE P e w r λvs=>K (x.val::vs)
  |none=>False
 | .cell a t::r,K=>match look e a with
  |some x=>J P (do loadVar t (<-asAddr x.val)) w λv=>lE P e w r λvs=>K (v::vs)
  |none=>False
def p7:List x1->x1
 |[v]=>v
 |vs=>.tuple vs.toArray
def ka (P:W5) (I:List ResultVar) (marks:Bool) (Q:x1->x2->Prop):Exit->Env->x2->Prop
 | .normal,e,w| .ret,e,w=>lE P e w I λvs=>bif marks then vh w λw'=>Q (p7 vs) w' else Q (p7 vs) w
 |_,_,_=>False
def kZ:List ResultVar->List Nat
 |[]=>[]
 | .tmp t::r=>t::kZ r
 | .cell a _::r=>a::kZ r
theorem vp:∀ (vs:List x1) (i t:Nat) (x:dW),look (jq i vs) t=σ x-> ∃j v,t=i+j/\vs[j]? =σ v/\x= .v v
 |[],_,_,_,h=>by cases h
 |v::r,i,t,x,h=>by
  simp only[jq,look] at h;cases I:T3 i t with
  |true=>
   rw[I] at h;simp only[cond_true,Y6] at h;exact⟨0,v,by rw[Nat.eq_of_beq_eq_true I];rfl,rfl,h.symm⟩
  |false=>
   rw[I] at h;obtain⟨j,u,h1,J,U⟩:=vp r (i+1) t x h;exact⟨j+1,u,Ω,by simpa using J,U⟩
theorem sa (vs:List x1) (h:vs.length<=n):T9 n (jq 0 vs) {tmps:=vs.toArray++Array.replicate (n-vs.toArray.size) undef,defers:=[]}:=by
 refine⟨Θ,λt x J=>?_⟩;obtain⟨j,v,h1,I,rfl⟩:=vp vs 0 t x J;have h1:t=j:=Ω
 subst h1;have U:t<vs.length:=(x4.1 I).1;rw[Array.getD_eq_getD_getElem?,Array.getElem?_append_left (by simpa using U)];simp[I,dW.val]
def p8 (dk:Array x1):ResultVar->Sem x1
 | .tmp t=>pure (dk.getD t undef)
 | .cell b t=>do loadVar t (<-asAddr (dk.getD b undef))
theorem Cs (fn:Func) (dk:Array x1):results fn dk=(do let vs <-fn.results.mapM (p8 dk);pure (if h:vs.size=1 then vs[0] else .tuple vs)):=by
 unfold results;congr 2
theorem sb {e:Env} {a:Act} {w:x2} (J:T9 N e a):∀ (U:List ResultVar) (K:List x1->Prop),lE P e w U K->
  ∃vs,K vs/\vs.length=U.length/\ ∀w',Ext w w'->(U.mapM (p8 a.tmps)).run P w'= .ok vs w'
 |[],K,h=>⟨[],h,rfl,λw' _=>by simp[W9]⟩
 | .tmp t::r,K,h=>by
  simp only[lE] at h;cases I:look e t with
  |none=>rw[I] at h;exact h.elim
  |some x=>
   rw[I] at h;obtain⟨vs,h1,V,W⟩:=sb J r _ h;refine⟨x.val::vs,h1,by simp[V],λw' hw=>?_⟩;rw[List.mapM_cons];simp only[p8,X8,W9,W0,W w' hw,J.2 t x I]
 | .cell b t::r,K,h=>by
  simp only[lE] at h;cases I:look e b with
  |none=>rw[I] at h;exact h.elim
  |some x=>
   rw[I] at h;obtain⟨v,X,h⟩:=h;obtain⟨vs,h1,V,W⟩:=sb J r _ h;refine⟨v::vs,h1,by simp[V],λw' hw=>?_⟩;rw[List.mapM_cons];have:=X w' hw;rw[<-J.2 b x I] at this;rw[p8,X8,this];simp only[W0,X8,W w' hw,W9]
theorem sd {fn:Func} {e:Env} {a:Act} (J:T9 N e a) {K:List x1->Prop} (h:lE P e w fn.results.toList K):
  ∃vs,K vs/\ ∀w',Ext w w'->(results fn a.tmps).run P w'= .ok (p7 vs) w':=by
 obtain⟨vs,h1,U,I⟩:=sb J _ _ h;refine⟨vs,h1,λw' hw=>?_⟩;have I:=I w' hw;rw[Cs,X8,Array.mapM_eq_mapM_toList,map_eq_pure_bind,X8,I];simp only[W0,W9];cases vs with
 |nil=>rfl
 |cons v r=>
  cases r with
  |nil=>rfl
  |cons u r=>simp[p7]
theorem vq {fn:Func} {tmps:Array x1} {R:Ending->x2->Prop}:∀ (I:List Nat) (w:x2),I.Nodup->(∀D∈I,w.heap[D]? =σ (.deferred (σ [])))->
  (∀w',Ext w w'->Ext w' w->w'.os=w.os->iL w w'->w'.output=w.output->w.heap.size=w'.heap.size->
   (∀r,r∉I->w'.heap[r]? =w.heap[r]?)-> ∃v,(results fn tmps).run P w'= .ok v w'/\R (.returned v) w')->
  LeavesInM Fence.wide 0 P fn tmps R (I.map iP) .returning w
 |[],w,_,_,h=>by
  obtain⟨v,h1,J⟩:=h w (Ext.refl _) (Ext.refl _) rfl .jm rfl rfl λ_ _=>rfl;exact⟨v,h1,J⟩
 |D::I,w,U,V,h=>by
  rw[List.nodup_cons] at U;have W:=V D (.head _);refine⟨Ξ,.inl ⟨D,_,rfl,run_takeDeferred W,?_⟩⟩;refine vq I _ U.2 (λaa X=>?_) λw' h1 J ab ac ad ae af=>?_
  .rw[x2.putObj_heap_other (λhe=>U.1 (by rw[<-he];exact X))];exact V aa (.tail _ X)
  .refine h w' ((od W rfl _).trans h1) (J.trans (vj rfl)) ab ac ad (by simpa using ae) λr Y=>?_;rw[af r λhm=>Y (.tail _ hm),x2.putObj_heap_other λhe=>Y (by rw[he];exact .head _)]
theorem aj.enter (hm:P.follows .mixedOrders=true) {f:FuncId} {fn:Func} {c:Code} (Y:P.funcs[f]? =σ fn) (aa:fn.body=σ c) (ai:(fn.name == "runtime.NumGoroutine")=false)
  (ak:wf fn.ntmps c=true) {args:List x1} (al:Nat.ble args.length fn.ntmps=true) {w:x2} {Q:x1->x2->Prop}
  (h:dX P fn.ntmps (false,w.heap.size) c (kZ fn.results.toList) (jq 0 args) w (ka P fn.results.toList true Q)):aj P f args w Q:=by
 refine .code (Enters.of P Y aa ai) (callsIn_wide (n:=0).1 (callsIn_of_wp_marks Y aa trivial ?_));have am:=sa (n:=fn.ntmps) args (Nat.le_of_ble_eq_true al);refine wpIn_mono (Q:=λex a' w'=>jp ex=true/\bodyPostM Fence.wide 0 P fn (λe w'=>∃v,e= .returned v/\cI w w'/\Q v w') ex a' w') ?_ λ_ _ _ h=>h.2;refine sound hm c (false,w.heap.size) ν _ _ _ w _ _ ak (λl an=>by cases an) (λ_=>⟨[],rfl,List.nodup_nil,λD V=>by cases V⟩) h am ?_ (λ_ _ _ h=>by cases h.1)
 .intro ex a' w' ao;obtain⟨ap,aq,U,au,_,_,I⟩:=ao;obtain⟨J,⟨W,ab,av,V⟩,aw,ax,ay⟩:=I rfl;have az:∀D∈W,w.heap.size<=D:=by
   intro D aA;have h1:iP D∈aw.map iP:=by
    have:iP D∈W.map iP:=Z5.2 ⟨D,aA,rfl⟩;rw[<-ab,ax] at this;simpa using this
   obtain⟨ac,X,aB⟩:=Z5.1 h1;have:ac=D:=by simpa[iP] using aB
   exact this▸ay ac X
  have ad:ka P fn.results.toList true Q .ret aq w'->LeavesInM Fence.wide 0 P fn a'.tmps (λe ae=>∃v,e= .returned v/\cI w ae/\Q v ae) a'.defers .returning w':=by
   intro U;rw[ab];obtain⟨vs,h1,X⟩:=sd (fn:=fn) au U;refine vq W w' av V λaf ag aC aD aE aF aG aH=>⟨_,X af ag,_,rfl,?_,h1 af ag aC⟩;have J:=J.ds (o8 _);refine⟨aD.trans J.os,aE.trans J.tape,aF.trans J.output,by rw[<-aG];exact J.size,λr o ah aI=>?_⟩;have aJ:=(j4.1 ah).1;rw[aH r λhm=>by have:=az r hm;omega];exact J.a7 r o ah aI
  cases ex with
  |normal=>exact⟨rfl,ad U⟩
  |ret=>exact⟨rfl,ad U⟩
  |exit id=>exact U.elim
  |_=>cases ap
theorem aj.Ct (hm:P.follows .mixedOrders=true) {f:FuncId} {fn:Func} {c:Code} (U:P.funcs[f]? =σ fn) (V:fn.body=σ c) (Y:(fn.name == "runtime.NumGoroutine")=false)
  (aa:wf fn.ntmps c=true) {args:List x1} (ab:Nat.ble args.length fn.ntmps=true) (aH:iN c=false) {w:x2} {Q:x1->x2->Prop}
  (h:dX P fn.ntmps (false,w.heap.size) c (kZ fn.results.toList) (jq 0 args) w (ka P fn.results.toList false Q)):aj P f args w Q:=by
 refine .code (Enters.of P U V Y) (callsIn_wide (n:=0).1 (callsIn_of_wp U V trivial ?_));have ac:=sa (n:=fn.ntmps) args (Nat.le_of_ble_eq_true ab);refine wpIn_mono (Q:=λex a' w'=>jp ex=true/\bodyPost P fn (λe w'=>∃v,e= .returned v/\cI w w'/\Q v w') ex a' w') ?_ λ_ _ _ h=>h.2;refine sound hm c (false,w.heap.size) ν _ _ _ w _ _ aa (λl ad=>by cases ad) (λ_=>⟨[],rfl,List.nodup_nil,λD ae=>by cases ae⟩) h ac ?_ (λ_ _ _ h=>by cases h.1);intro ex a' w' af;obtain⟨ag,ah,J,ai,_,ak,I⟩:=af;have al:a'.defers=[]:=ak (by simp[hV,aH]);have W:ka P fn.results.toList false Q .ret ah w'->a'.defers=[]/\ ∃v,(results fn a'.tmps).run P w'= .ok v w'/\ ∃X,Ending.returned v= .returned X/\cI w w'/\Q X w':=by
  intro J;obtain⟨vs,h1,am⟩:=sd (fn:=fn) ai J;exact⟨al,_,am w' (Ext.refl _),_,rfl,(I rfl).1.ds (o8 _),h1⟩
 cases ex with
 |normal=>exact⟨rfl,W J⟩
 |ret=>exact⟨rfl,W J⟩
 |exit id=>exact J.elim
 |_=>cases ag
theorem fX.enter (hm:P.follows .mixedOrders=true) {f:FuncId} {fn:Func} {c:Code} (U:P.funcs[f]? =σ fn) (V:fn.body=σ c) (Y:(fn.name == "runtime.NumGoroutine")=false)
  (aa:wf fn.ntmps c=true) {args:List x1} (ab:Nat.ble args.length fn.ntmps=true) {w:x2} {Q:x1->x2->Prop}
  (h:dX P fn.ntmps (true,0) c (kZ fn.results.toList) (jq 0 args) w (ka P fn.results.toList false Q)):fX P f args w Q:=by
 refine .code (Enters.of P U V Y) (callsIn_wide (n:=0).1 (callsIn_of_wp U V trivial ?_));have ac:=sa (n:=fn.ntmps) args (Nat.le_of_ble_eq_true ab);refine wpIn_mono (Q:=λex a' w'=>jp ex=true/\bodyPost P fn (λe w'=>∃v,e= .returned v/\Q v w') ex a' w') ?_ λ_ _ _ h=>h.2;refine sound hm c (true,0) ν _ _ _ w _ _ aa (λl ad=>by cases ad) (λh=>by cases h) h ac ?_ (λ_ _ _ h=>by cases h.1);intro ex a' w' ae;obtain⟨af,ag,J,ah,_,ai,I⟩:=ae;have aj:a'.defers=[]:=ai rfl;have W:ka P fn.results.toList false Q .ret ag w'->a'.defers=[]/\ ∃v,(results fn a'.tmps).run P w'= .ok v w'/\ ∃X,Ending.returned v= .returned X/\Q X w':=by
  intro J;obtain⟨vs,h1,ak⟩:=sd (fn:=fn) ah J;exact⟨aj,_,ak w' (Ext.refl _),_,rfl,h1⟩
 cases ex with
 |normal=>exact⟨rfl,W J⟩
 |ret=>exact⟨rfl,W J⟩
 |exit id=>exact J.elim
 |_=>cases af
end
def oe (l:List T8) (d:Nat):Nat:=
 match l with
 |[]=>d
 | .tmp t::r=>oe r (Nat.lor d (Nat.shiftLeft 1 t))
 |_::r=>oe r d
def mR:List U8->Nat->Option U8
 |[],_=>ν
 |o::_,0=>σ o
 |_::l,n+1=>mR l n
def vr (a b:Nat):Nat:=Nat.xor a (Nat.land a b)
def og (m t:Nat):Bool:=T3 (Nat.land (Nat.shiftRight m t) 1) 1
def iQ (m t:Nat):Nat:=Nat.lor m (Nat.shiftLeft 1 t)
def Cu (ops:List U8) (o:U8):Nat:=
 match o.guard with
 |none=>0
 |some (j,_)=>match mR ops j with
  |some ⟨σ d,_,_,_,_,_⟩=>Nat.shiftLeft 1 d
  |_=>0
def p9:List U8->Nat->Nat
 |[],d=>d
 |⟨σ t,_,_,_,_,_⟩::l,d=>p9 l (iQ d t)
 |_::l,d=>p9 l d
def vt (ops:List U8):List U8->Nat->Nat->Nat
 |[],_,r=>r
 |o::l,d,r=>vt ops l (match o.dst with|some t=>iQ d t|none=>d) (Nat.lor r (vr (oe (opsOf o.op) (Cu ops o)) d))
def qa:List Nat->Nat->Nat
 |[],_=>0
 |x::_,0=>x
 |_::l,n+1=>qa l n
def vu (e:Edge):Bool:=
 match e.ground with
 | .textOnly _=>false
 | .gcOnly _=>false
 |_=>true
def vv (bs:List Nat):List Edge->Nat->Nat
 |[],s=>s
 |e::r,s=>vv bs r (bif vu e then Nat.lor (iQ s e.on) (qa bs e.on) else s)
def se:List U8->List Nat->List Nat
 |[],bs=>bs
 |o::l,bs=>se l (bs++[vv bs o.after.toList 0])
def vw:List U8->Bool
 |[]=>false
 |⟨_,_,_,_,_,σ _⟩::_=>true
 |_::l=>vw l
def sf (bs:List Nat) (j k:Nat):Bool:=!(T3 k j)&&(!(og (qa bs j) k)&& !(og (qa bs k) j))
def vx (bs:List Nat) (j:Nat):Nat->List U8->Bool
 |_,[]=>false
 |i,o::l=>bif Nat.ble j i then false else (!(hR o)&&sf bs j i)||vx bs j (Nat.succ i) l
def vy (ops:List U8) (bs:List Nat):Nat->List U8->Bool
 |_,[]=>false
 |j,o::l=>(!(hR o)&&vx bs j 0 ops)||vy ops bs (Nat.succ j) l
def kb:Code->Nat
 | .region _ ops I=>bif (I&&vy ops.toList (se ops.toList []) 0 ops.toList)||vw ops.toList then 2 else 1
 | .seq a b=>bif T3 (kb a) 0 then 0 else kb b
 | .cond _ a b=>Nat.add (kb a) (kb b)
 | .block id c=>Nat.add (kb c) (ih id c)
 | .loop _=>0
 | .scope c=>kb c
 | .exit _=>0
 | .goto _=>0
 | .ret=>0
 | .refuse _=>0
 |_=>1
def gW:Code->Nat
 | .region _ ops _=>p9 ops.toList 0
 | .seq a b=>Nat.lor (gW a) (gW b)
 | .cond _ a b=>Nat.lor (gW a) (gW b)
 | .block _ c=>gW c
 | .loop c=>gW c
 | .scope c=>gW c
 |_=>0
def kc:Code->Nat
 | .region _ ops _=>p9 ops.toList 0
 | .seq a b=>Nat.lor (kc a) (kc b)
 | .cond _ a b=>bif T3 (kb a) 0 then kc b else bif T3 (kb b) 0 then kc a else Nat.land (kc a) (kc b)
 | .block id c=>bif T3 (ih id c) 0 then kc c else 0
 | .scope c=>kc c
 |_=>0
def fk:Code->Nat
 | .region _ ops _=>vt ops.toList ops.toList 0 0
 | .seq a b=>Nat.lor (fk a) (vr (fk b) (kc a))
 | .cond c a b=>oe [c] (Nat.lor (fk a) (fk b))
 | .block _ c=>fk c
 | .loop c=>fk c
 | .scope c=>fk c
 | .rangeFunc f _ a b=>oe [f] (Nat.lor (fk a) (fk b))
 |_=>0
def k0:Nat->Nat->Nat->List Nat
 |0,_,_=>[]
 |n+1,k,m=>bif T3 m 0 then[] else bif T3 (Nat.land m 1) 1 then k::k0 n (Nat.succ k) (Nat.shiftRight m 1) else k0 n (Nat.succ k) (Nat.shiftRight m 1)
def oh (e:Env):List Nat->List Nat
 |[]=>[]
 |t::r=>match look e t with
  |some _=>t::oh e r
  |none=>oh e r
structure k1 (B S aT:Type) where
 jr:{x:x1}->x1
 vz:List x1->x1
 no:B
 js:B
 and:B->B->B
 or:B->B->B
 ext:x2->x2->B
 stays:S->x1->x2->B
 split:x1->B->B->B
 sg:S->x2->(x1->B)->B
 vA:S->x2->(x1->x2->B)->B
 vB:aT->x2->(x2->B)->B
 runN:{fr:Bool}->{n:Nat}->S->x2->(x1->x2->B)->B
 vC:{f:FuncId}->List x1->x2->(x1->x2->B)->B
 vD:{f:FuncId}->List x1->x2->(x1->x2->B)->B
 vE:{fr:Bool}->x1->List x1->x2->(x1->x2->B)->B
 drew:x2->(x2->B)->B
 again:x2->(x2->B)->B
 over:x2->(x2->B)->B
 dt:(x2->B)->((x2->B)->B)->B
 aP:(x1->x2->B)->((x1->x2->B)->B)->B
 hW:(x1->x1->x2->B)->((x1->x1->x2->B)->B)->B
 vF:(x1->x1->x1->x2->B)->((x1->x1->x1->x2->B)->B)->B
 vG:(x1->x1->x1->x1->x2->B)->((x1->x1->x1->x1->x2->B)->B)->B
 vH:(x1->x1->x1->x1->x1->x2->B)->((x1->x1->x1->x1->x1->x2->B)->B)->B
 vI:x2->(x2->(x2->B)->B)->B
 vJ:x1->x2->(x1->x2->(x1->x2->B)->B)->B
 vK:x1->x1->x2->(x1->x1->x2->(x1->x1->x2->B)->B)->B
 vL:x1->x1->x1->x2->(x1->x1->x1->x2->(x1->x1->x1->x2->B)->B)->B
 vM:x1->x1->x1->x1->x2->(x1->x1->x1->x1->x2->(x1->x1->x1->x1->x2->B)->B)->B
 vN:x1->x1->x1->x1->x1->x2->(x1->x1->x1->x1->x1->x2->(x1->x1->x1->x1->x1->x2->B)->B)->B
 vO:x1->x1->x1->x1->x1->x1->x2->(x1->x1->x1->x1->x1->x1->x2->(x1->x1->x1->x1->x1->x1->x2->B)->B)->B
 vP:x1->x2->(x1->x2->(Exit->x2->B)->B)->(x2->B)->(x2->B)->List (Nat×(x2->B))->B
 vQ:x1->x2->(x1->x1->x2->(Exit->x2->B)->B)->(x2->B)->(x2->B)->List (Nat×(x2->B))->B
 loadVar:{t:u9}->x1->S
 alloc:{t:u9}->S
 box:{t:u9}->x1->S
 build:{t:u9}->List (Nat×x1)->S
 buildSlice:{t:u9}->{n:Nat}->List (Nat×x1)->S
 load:{t:u9}->x1->S
 nil:x1->S
 bin:{op:BinOp}->{t:u9}->Bool->Bool->x1->x1->S
 un:{op:UnOp}->x1->S
 conv:{s d:u9}->x1->S
 vR:{t:u9}->x1->S
 vS:{f:Fn}->List x1->List x1->S
 vT:{t:u9}->Option x1->S
 vU:{t:u9}->x1->x1->S
 slice:{t:u9}->x1->Option x1->Option x1->Option x1->S
 vV:{t:u9}->x1->{f:Nat}->S
 field:{t:u9}->x1->{f:Nat}->S
 vW:{t:u9}->x1->x1->S
 index:{t:u9}->x1->x1->S
 lookup:{t:u9}->x1->x1->{ok:Bool}->S
 vX:{t:u9}->x1->x1->S
 range:{t:u9}->x1->S
 entry:x1->S
 assert:{t a:u9}->x1->{ok:Bool}->S
 extract:x1->{i:Nat}->S
 next:x1->{b:Bool}->S
 append:{ats:Array u9}->{t:u9}->List x1->S
 cap:{ats:Array u9}->{t:u9}->List x1->S
 clear:{ats:Array u9}->{t:u9}->List x1->S
 copy:{ats:Array u9}->{t:u9}->List x1->S
 delete:{ats:Array u9}->{t:u9}->List x1->S
 len:{ats:Array u9}->{t:u9}->List x1->S
 max:{ats:Array u9}->{t:u9}->List x1->S
 min:{ats:Array u9}->{t:u9}->List x1->S
 store:{t:u9}->x1->x1->aT
 sh:{t:u9}->x1->x1->x1->aT
 vY:{t:u9}->x1->x1->x1->aT
section
variable {B S aT:Type} (A:k1 B S aT)
def dW.g:dW->x1
 | .v x=>x
 | .b c=>.bool c
 | .u=>A.jr (x:=undef)
def lF (e:Env):T8->dW
 | .tmp t=>match look e t with
  |some x=>x
  |none=>.u
 | .const (.bool c)=>.b c
 | .const x=>.v (A.jr (x:=x))
 | .global g=>.v (A.jr (x:=Γ g))
 | .func f=>.v (A.jr (x:=.func (.func f) #[] #[]))
def cJ (e:Env) (x:T8):x1:=(lF A e x).g A
def lG (e:Env):List T8->List x1
 |[]=>[]
 |x::r=>cJ A e x::lG e r
def qb (e:Env):Option T8->Option x1
 |none=>ν
 |some x=>σ (cJ A e x)
def si (e:Env):List (Nat×T8)->List (Nat×x1)
 |[]=>[]
 |(i,x)::r=>(i,cJ A e x)::si e r
def Cv (b:l5) (ats:Array u9) (t:u9) (l:List x1) (K:S->B):B:=
 match b with
 | .append=>K (A.append (ats:=ats) (t:=t) l)
 | .cap=>K (A.cap (ats:=ats) (t:=t) l)
 | .clear=>K (A.clear (ats:=ats) (t:=t) l)
 | .copy=>K (A.copy (ats:=ats) (t:=t) l)
 | .delete=>K (A.delete (ats:=ats) (t:=t) l)
 | .len=>K (A.len (ats:=ats) (t:=t) l)
 | .max=>K (A.max (ats:=ats) (t:=t) l)
 | .min=>K (A.min (ats:=ats) (t:=t) l)
 |_=>A.no
def vZ (e:Env) (t:u9) (K:S->B) (I:aT->B):Op->B
 | .alloc t=>K (A.alloc (t:=t))
 | .box t x=>K (A.box (t:=t) (cJ A e x))
 | .build t J=>K (A.build (t:=t) (si A e J.toList))
 | .buildSlice t n J=>K (A.buildSlice (t:=t) (n:=n) (si A e J.toList))
 | .load t x=>K (A.load (t:=t) (cJ A e x))
 | .nilCheck x=>K (A.nil (cJ A e x))
 | .binOp op t x y _=>K (A.bin (op:=op) (t:=t) (mI x) (mI y) (cJ A e x) (cJ A e y))
 | .unOp op _ x=>K (A.un (op:=op) (cJ A e x))
 | .convert s d x=>K (A.conv (s:=s) (d:=d) (cJ A e x))
 | .makeInterface t x=>K (A.vR (t:=t) (cJ A e x))
 | .makeFunc f a b=>K (A.vS (f:=f) (lG A e a.toList) (lG A e b.toList))
 | .makeMap t r=>K (A.vT (t:=t) (qb A e r))
 | .makeSlice t l c=>K (A.vU (t:=t) (cJ A e l) (cJ A e c))
 | .slice t x l h m=>K (A.slice (t:=t) (cJ A e x) (qb A e l) (qb A e h) (qb A e m))
 | .fieldAddr t x f=>K (A.vV (t:=t) (cJ A e x) (f:=f))
 | .field t x f=>K (A.field (t:=t) (cJ A e x) (f:=f))
 | .indexAddr t x i=>K (A.vW (t:=t) (cJ A e x) (cJ A e i))
 | .index t x i=>K (A.index (t:=t) (cJ A e x) (cJ A e i))
 | .lookup t x i ok=>K (A.lookup (t:=t) (cJ A e x) (cJ A e i) (ok:=ok))
 | .mapEntry t m k=>K (A.vX (t:=t) (cJ A e m) (cJ A e k))
 | .range t x=>K (A.range (t:=t) (cJ A e x))
 | .entry x=>K (A.entry (cJ A e x))
 | .typeAssert x t a ok=>K (A.assert (t:=t) (a:=a) (cJ A e x) (ok:=ok))
 | .extract x i=>K (A.extract (cJ A e x) (i:=i))
 | .call ⟨.builtin b,args,ats⟩=>Cv A b ats t (lG A e args.toList) K
 | .store t a x=>I (A.store (t:=t) (cJ A e a) (cJ A e x))
 | .mapUpdate t m k x=>I (A.sh (t:=t) (cJ A e m) (cJ A e k) (cJ A e x))
 | .insert t m k x=>I (A.sh (t:=t) (cJ A e m) (cJ A e k) (cJ A e x))
 | .entryStore t m k x=>I (A.vY (t:=t) (cJ A e m) (cJ A e k) (cJ A e x))
 |_=>A.no
def gp (e:Env) (d:Option Tmp) (x:dW):Env:=
 match d with
 |some t=>(t,x)::e
 |none=>e
def v7 (o:U8) (e:Env) (w:x2) (K:Env->(x2->B)->B):B:=
 match o with
 |⟨d,.move x,_,_,_,_⟩=>K (gp e d (lF A e x)) (λ_=>A.js)
 |⟨d,.assign x,_,_,_,_⟩=>K (gp e d (lF A e x)) (λ_=>A.js)
 |⟨d,.pick c a b,_,_,_,_⟩=>
  match lF A e c with
  | .b true=>K (gp e d (lF A e a)) (λ_=>A.js)
  | .b false=>K (gp e d (lF A e b)) (λ_=>A.js)
  | .v x=>A.split x (K (gp e d (.v (cJ A e a))) (λ_=>A.js)) (K (gp e d (.v (cJ A e b))) (λ_=>A.js))
  | .u=>A.no
 |⟨d,op,t,_,_,_⟩=>vZ A e t (λs=>A.sg s w λv=>K (gp e d (.v v)) (A.stays s v)) (λ_=>A.no) op
def Cw (fr:Bool) (n:Nat) (o:U8) (e:Env) (w:x2) (K:Env->x2->B):B:=
 match o with
 |⟨d,.call ⟨.value (.func f),args,_⟩,_,_,_,_⟩=>
  bif fr then A.vD (f:=f) (lG A e args.toList) w λv w'=>K (gp e d (.v v)) w'
  else A.vC (f:=f) (lG A e args.toList) w λv w'=>K (gp e d (.v v)) w'
 |⟨d,.call ⟨.value x,args,_⟩,_,_,_,_⟩=>A.vE (fr:=fr) (cJ A e x) (lG A e args.toList) w λv w'=>K (gp e d (.v v)) w'
 |⟨d,.next x b,_,_,_,_⟩=>A.runN (fr:=fr) (n:=n) (A.next (cJ A e x) (b:=b)) w λv w'=>K (gp e d (.v v)) w'
 |⟨d,op,t,_,_,_⟩=>vZ A e t (λs=>A.vA s w λv w'=>K (gp e d (.v v)) w') (λu=>A.vB u w λw'=>K (gp e d (.v (A.jr (x:=undef)))) w') op
def v8 (fr:Bool) (n:Nat) (o:U8) (e:Env) (w:x2) (K:Env->x2->B):B:=
 bif hR o then v7 A o e w (λI _=>K I w) else Cw A fr n o e w K
def sj (ops:List U8) (o:U8) (e:Env) (D N:Env->B):B:=
 match o.guard with
 |none=>D e
 |some (j,b)=>
  match mR ops j with
  |some ⟨σ s,_,_,_,_,_⟩=>
   match look e s with
   |some (.b c)=>bif xor c b then N e else D e
   |some (.v x)=>A.split x (bif b then D ((s,.b true)::e) else N ((s,.b true)::e)) (bif b then N ((s,.b false)::e) else D ((s,.b false)::e))
   |some .u=>N e
   |none=>A.no
  |_=>A.no
def sk (fr:Bool) (n:Nat) (ops:List U8):List U8->Env->x2->(Env->x2->B)->B
 |[],e,w,K=>K e w
 |o::l,e,w,K=>sj A ops o e (λe=>v8 A fr n o e w λI w'=>sk fr n ops l I w' K) (λe=>sk fr n ops l (gp e o.dst .u) w K)
def wa:List Edge->Nat->Bool
 |[],_=>true
 |e::r,I=>(bif vu e then og I e.on else true)&&wa r I
def qc (I:Nat):Nat->List U8->List Nat
 |_,[]=>[]
 |i,o::l=>bif og I i then qc I (Nat.succ i) l else bif wa o.after.toList I then i::qc I (Nat.succ i) l else qc I (Nat.succ i) l
def wb (ops:List U8):List Nat->Option Nat
 |[]=>ν
 |i::r=>match mR ops i with
  |some o=>bif hR o then σ i else wb ops r
  |none=>ν
def wc (p:Nat->B):List Nat->B
 |[]=>A.js
 |[i]=>p i
 |i::r=>A.and (p i) (wc p r)
def we (same:Bool) (q:Nat) (w:x2) (st:x2->B) (I:List (x2×List (Nat×(x2->B)))):List (x2×List (Nat×(x2->B))):=
 match same,I with
 |true,g::r=>(g.1,(q,st)::g.2)::r
 |_,I=>(w,[(q,st)])::I
def wg (bs:List Nat) (j:Nat):List (Nat×(x2->B))->Bool
 |[]=>false
 |(i,_)::r=>sf bs j i||wg bs j r
def sm (bs:List Nat) (j:Nat) (w':x2):List (Nat×(x2->B))->B
 |[]=>A.js
 |(i,p)::r=>bif sf bs j i then A.and (p w') (sm bs j w' r) else sm bs j w' r
def qd (bs:List Nat) (j:Nat) (w':x2) (C:B):List (x2×List (Nat×(x2->B)))->B
 |[]=>C
 |(w,l)::r=>bif wg bs j l then A.and (A.or (A.ext w w') (sm A bs j w' l)) (qd bs j w' C r) else qd bs j w' C r
def lH (fr:Bool) (n:Nat) (ops:List U8) (bs:List Nat):Nat->Nat->Bool->List (x2×List (Nat×(x2->B)))->Env->x2->(Env->x2->B)->B
 |0,_,_,_,e,w,K=>K e w
 |fuel+1,J,same,I,e,w,K=>
  match qc J 0 ops with
  |[]=>K e w
  |i::r=>
   match wb ops (i::r) with
   |some q=>
    match mR ops q with
    |some o=>sj A ops o e
      (λe=>v7 A o e w λU st=>
       bif j1 o then lH fr n ops bs fuel (iQ J q) same I U w K
       else lH fr n ops bs fuel (iQ J q) true (we same q w st I) U w K)
      (λe=>bif j1 o then lH fr n ops bs fuel (iQ J q) same I (gp e o.dst .u) w K
       else lH fr n ops bs fuel (iQ J q) true (we same q w (λ_=>A.js) I) (gp e o.dst .u) w K)
    |none=>A.no
   |none=>
    wc A (λj=>match mR ops j with
     |some o=>sj A ops o e (λe=>v8 A fr n o e w λU w'=>qd A bs j w' (lH fr n ops bs fuel (iQ J j) false I U w' K) I)
       (λe=>qd A bs j w (lH fr n ops bs fuel (iQ J j) false I (gp e o.dst .u) w K) I)
     |none=>A.no) (i::r)
def qe (e:Env):List Nat->List x1
 |[]=>[]
 |t::r=>(match look e t with|some x=>x.g A|none=>A.jr (x:=undef))::qe e r
def sn (l:List Nat) (vs:List x1) (e:Env):Env:=
 match l,vs with
 |t::r,v::vs=>(t,.v v)::sn r vs e
 |_,_=>e
def qf (d:Nat):Env->Env
 |[]=>[]
 |(t,x)::r=>bif og d t then qf d r else (t,x)::qf d r
def Cx (l:List Nat) (I:List x1->x2->B) (J:(List x1->x2->B)->B):B:=
 match l with
 |[]=>A.dt (λw=>I [] w) λk=>J λ_ w=>k w
 |[_]=>A.aP (λa w=>I [a] w) λk=>J λvs w=>match vs with
  |[a]=>k a w
  |_=>A.no
 |[_,_]=>A.hW (λa b w=>I [a,b] w) λk=>J λvs w=>match vs with
  |[a,b]=>k a b w
  |_=>A.no
 |[_,_,_]=>A.vF (λa b c w=>I [a,b,c] w) λk=>J λvs w=>match vs with
  |[a,b,c]=>k a b c w
  |_=>A.no
 |[_,_,_,_]=>A.vG (λa b c d w=>I [a,b,c,d] w) λk=>J λvs w=>match vs with
  |[a,b,c,d]=>k a b c d w
  |_=>A.no
 |[_,_,_,_,_]=>A.vH (λa b c d f w=>I [a,b,c,d,f] w) λk=>J λvs w=>match vs with
  |[a,b,c,d,f]=>k a b c d f w
  |_=>A.no
 |_=>A.no
def Cy (us:List x1) (w:x2) (I:List x1->x2->(List x1->x2->B)->B):B:=
 match us with
 |[]=>A.vI w λw k=>I [] w λ_ w=>k w
 |[a]=>A.vJ a w λa w k=>I [a] w λvs w=>match vs with
  |[a]=>k a w
  |_=>A.no
 |[a,b]=>A.vK a b w λa b w k=>I [a,b] w λvs w=>match vs with
  |[a,b]=>k a b w
  |_=>A.no
 |[a,b,c]=>A.vL a b c w λa b c w k=>I [a,b,c] w λvs w=>match vs with
  |[a,b,c]=>k a b c w
  |_=>A.no
 |[a,b,c,d]=>A.vM a b c d w λa b c d w k=>I [a,b,c,d] w λvs w=>match vs with
  |[a,b,c,d]=>k a b c d w
  |_=>A.no
 |[a,b,c,d,f]=>A.vN a b c d f w λa b c d f w k=>I [a,b,c,d,f] w λvs w=>match vs with
  |[a,b,c,d,f]=>k a b c d f w
  |_=>A.no
 |[a,b,c,d,f,g]=>A.vO a b c d f g w λa b c d f g w k=>I [a,b,c,d,f,g] w λvs w=>match vs with
  |[a,b,c,d,f,g]=>k a b c d f g w
  |_=>A.no
 |_=>A.no
def sq (K:Nat->x2->B):List Nat->List (Nat×(x2->B))
 |[]=>[]
 |i::r=>(i,λw=>K i w)::sq K r
def gH (fr:Bool) (n:Nat):Code->Nat->Env->x2->(Exit->Env->x2->B)->B
 | .skip,_,e,w,K=>K .normal e w
 | .label _,_,e,w,K=>K .normal e w
 | .ret,_,e,w,K=>K .ret e w
 | .exit i,_,e,w,K=>K (.exit i) e w
 | .region _ ops X,_,e,w,K=>
  bif X then A.drew w λw'=>lH A fr n ops.toList (se ops.toList []) (ops.toList.length) 0 false [] e w' (K .normal)
  else sk A fr n ops.toList ops.toList e w (K .normal)
 | .seq x y,rd,e,w,K=>
  bif Nat.ble 2 (kb x) then
   Cx A (k0 1000 0 (Nat.land (gW x) (Nat.lor (fk y) rd))) (λvs w'=>gH fr n y rd (sn (k0 1000 0 (Nat.land (gW x) (Nat.lor (fk y) rd))) vs (qf (gW x) e)) w' K)
    λY=>gH fr n x (Nat.lor (fk y) rd) e w λex I w'=>match ex with
     | .normal=>Y (qe A I (k0 1000 0 (Nat.land (gW x) (Nat.lor (fk y) rd)))) w'
     |ex=>K ex I w'
  else gH fr n x (Nat.lor (fk y) rd) e w λex I w'=>match ex with
   | .normal=>gH fr n y rd I w' K
   |ex=>K ex I w'
 | .cond c x y,rd,e,w,K=>
  match lF A e c with
  | .b true=>gH fr n x rd e w K
  | .b false=>gH fr n y rd e w K
  | .v v=>A.split v (gH fr n x rd e w K) (gH fr n y rd e w K)
  | .u=>A.no
 | .block id c,rd,e,w,K=>gH fr n c rd e w λex I w'=>match ex with
  | .exit i=>bif T3 i id then K .normal I w' else K (.exit i) I w'
  |ex=>K ex I w'
 | .loop c,rd,e,w,K=>
  Cy A (qe A e (oh e (k0 1000 0 (Nat.land (gW c) (Nat.lor (fk c) rd))))) w λus w' k=>
   gH fr n c (Nat.lor (fk c) rd) (sn (oh e (k0 1000 0 (Nat.land (gW c) (Nat.lor (fk c) rd)))) us (qf (gW c) e)) w' λex I J=>match ex with
    | .normal=>k (qe A I (oh e (k0 1000 0 (Nat.land (gW c) (Nat.lor (fk c) rd))))) J
    |ex=>K ex I J
 | .scope c,rd,e,w,K=>gH fr n c rd e w K
 | .rangeFunc f aa W body,_,e,w,K=>
  match aa.toList with
  |[p]=>A.vP (cJ A e f) w
    (λa w' k=>gH fr n W (fk body) ((p,.v a)::e) w' λex I J=>match ex with
     | .normal=>A.over J λU=>gH fr n body 0 I U λex _ V=>k ex V
     |_=>A.no)
    (λw'=>K .normal e w') (bif hU body then λw'=>K .ret e w' else λ_=>A.no) (sq (λi w'=>K (.exit i) e w') (ii body))
  |[p,q]=>A.vQ (cJ A e f) w
    (λa b w' k=>gH fr n W (fk body) ((q,.v b)::(p,.v a)::e) w' λex I J=>match ex with
     | .normal=>A.over J λU=>gH fr n body 0 I U λex _ V=>k ex V
     |_=>A.no)
    (λw'=>K .normal e w') (bif hU body then λw'=>K .ret e w' else λ_=>A.no) (sq (λi w'=>K (.exit i) e w') (ii body))
  |_=>A.no
 | .goto _,_,_,_,_=>A.no
 | .refuse _,_,_,_,_=>A.no
def wh:Nat->List x1->Env
 |_,[]=>[]
 |i,v::r=>(i,.v (A.jr (x:=v)))::wh (i+1) r
def qg (e:Env) (w:x2):List ResultVar->(List x1->B)->B
 |[],K=>K []
 | .tmp t::r,K=>qg e w r λvs=>K ((match look e t with|some x=>x.g A|none=>A.jr (x:=undef))::vs)
 | .cell a t::r,K=>A.sg (A.loadVar (t:=t) (match look e a with|some x=>x.g A|none=>A.jr (x:=undef))) w λv=>qg e w r λvs=>K (v::vs)
def qh (vs:List x1) (K:x1->B):B:=
 match vs with
 |[v]=>K v
 |vs=>K (A.vz vs)
def sr:List ResultVar->Nat->Nat
 |[],s=>s
 | .tmp t::r,s=>sr r (iQ s t)
 | .cell a _::r,s=>sr r (iQ s a)
def Cz (I:List ResultVar) (marks:Bool) (Q:x1->x2->B):Exit->Env->x2->B
 | .normal,e,w=>qg A e w I λvs=>bif marks then A.again w λw'=>qh A vs λv=>Q v w' else qh A vs λv=>Q v w
 | .ret,e,w=>qg A e w I λvs=>bif marks then A.again w λw'=>qh A vs λv=>Q v w' else qh A vs λv=>Q v w
 |_,_,_=>A.no
def ss (fr marks:Bool) (fn:Func) (c:Code) (args:List x1) (w:x2) (Q:x1->x2->B):B:=
 gH A fr n c (sr fn.results.toList 0) (wh A 0 args) w (Cz A fn.results.toList marks Q)
end
def mS (P:W5):k1 Prop (Sem x1) (Sem Unit) where
 jr {x}:=x
 vz l:=.tuple l.toArray
 no:=False
 js:=True
 and:=And
 or:=Or
 ext:=Ext
 stays:=bk P
 split:=Split
 sg:=J P
 vA:=az P
 vB u w K:=az P u w λ_ w'=>K w'
 runN {fr n}:=pP P (fr,n)
 vC {f}:=aj P f
 vD {f}:=fX P f
 vE {fr}:=pS P fr
 drew:=cj
 again:=vh
 over:=Over
 dt:=bx
 aP:=bx
 hW:=bx
 vF:=bx
 vG:=bx
 vH:=bx
 vI:=Cd
 vJ:=bZ
 vK:=bC
 vL:=kX
 vM:=p0
 vN:=mN
 vO:=Ce
 vP:=oc P
 vQ:=lD P
 loadVar {t} x:=do loadVar t (<-asAddr x)
 alloc {t}:=S6 t true (.tuple #[])
 box {t} x:=Instr.box t x
 build {t} l:=Instr.build t l.toArray
 buildSlice {t n} l:=Z7 t n l.toArray
 load {t} x:=x5 t x
 nil x:=aX x
 bin {op t} a b x y:=aB op t a b x y
 un {op} x:=Op.unary op x
 conv {s d} x:=convert s d x
 vR {t} x:=Instr.makeInterface t x
 vS {f} a b:=Instr.makeFunc f a.toArray b.toArray
 vT {t} x:=Instr.makeMap t x
 vU {t} l c:=Instr.makeSlice t l c
 slice {t} x l h m:=W3 t x l h m
 vV {t} x {f}:=x7 t x f
 field {t} x {f}:=Instr.field t x f
 vW {t} x i:=n0 t x i
 index {t} x i:=Instr.index t x i
 lookup {t} x i {ok}:=Instr.lookup t x i ok
 vX {t} m k:=Instr.mapEntry t m k
 range {t} x:=Instr.range t x
 entry x:=Instr.entry x
 assert {t a} x {ok}:=Instr.typeAssert x t a ok
 extract x {i}:=Z8 x i
 next x {b}:=Instr.next x b 0
 append {ats t} l:=l7 ats t l.toArray
 cap {ats t} l:=l5.cap_ ats t l.toArray
 clear {ats t} l:=l5.clear_ ats t l.toArray
 copy {ats t} l:=l5.copy_ ats t l.toArray
 delete {ats t} l:=l5.delete_ ats t l.toArray
 len {ats t} l:=Y3 ats t l.toArray
 max {ats t} l:=l5.max_ ats t l.toArray
 min {ats t} l:=l5.min_ ats t l.toArray
 store {t} a x:=o4 t a x
 sh {t} m k x:=Instr.mapUpdate t m k x
 vY {t} m k x:=Instr.entryStore t m k x
end Go.Vc
namespace Go.Proofs.YtgbkinibgjmodaaGreatDoor
open Go Go.Vc Go.RowKit Go.Proofs Go.Proofs.Tryz
set_option maxRecDepth 100000
theorem mixed:x3.follows .mixedOrders=true:=Ψ
def wi:Nat:=7
def CA:Nat:=11
def CB:Nat:=12
def qi:Nat:=13
def CC:Nat:=14
def CD:Nat:=15
def CE:Nat:=16
def CF:Nat:=18
def CG:Nat:=19
def wj:Nat:=20
def CH:Nat:=21
def qj:Nat:=22
def su:Nat:=31
def CI:Nat:=32
def mT:Nat:=33
def CJ:Nat:=40
def CK:Nat:=41
def wk:Nat:=42
def wm:Nat:=44
def sw:Nat:=45
def qk:Nat:=47
def wn:Nat:=48
def CL:Nat:=49
def CM:Nat:=50
def CN:Nat:=51
def CO:Nat:=52
def CP:Nat:=53
def sx:Nat:=54
def wo:Nat:=55
def ql:Nat:=56
def oi:Nat:=57
def wp:Nat:=58
def wq:Nat:=59
def CQ:Nat:=60
def CR:Nat:=61
def CS:Nat:=62
def CT:Nat:=63
def CU:Nat:=64
def CV:Nat:=65
def CW:Nat:=66
def CX:Nat:=67
def CY:Nat:=68
def CZ:Nat:=69
def C0:Nat:=70
def C1:Nat:=71
def C2:Nat:=72
def wr:Nat:=73
def ws:Nat:=74
def C3:Nat:=75
def C4:Nat:=76
def C5:Nat:=77
def C6:Nat:=78
def C7:Nat:=79
def sy:Nat:=80
def C8:Nat:=81
def wu:Nat:=83
def wv:Nat:=84
def wx:Nat:=85
def C9:Nat:=86
def wy:Nat:=87
def sz:Nat:=88
def sA:Nat:=89
def sB:Nat:=90
def sC:Nat:=91
def sD:Nat:=92
def wz:Nat:=93
def sE:Nat:=103
def Da:Nat:=113
def Db:Nat:=114
def Dc:Nat:=115
def wA:Nat:=116
def Dd:Nat:=117
def De:Nat:=118
def Df:Nat:=119
def Dg:Nat:=121
def Dh:Nat:=123
def Di:Nat:=124
def wB:Nat:=126
def Dj:Nat:=127
def Dk:Nat:=128
def Dl:Nat:=129
def Dm:Nat:=130
def wC:Nat:=131
def wD:Nat:=132
def Dn:Nat:=133
def Do:Nat:=134
def Dp:Nat:=135
def Dq:Nat:=136
def wE:Nat:=137
def Dr:Nat:=138
def sF:Nat:=139
def Ds:Nat:=140
def wF:Nat:=141
def Dt:Nat:=142
def wG:Nat:=143
def Du:Nat:=144
def Dv:Nat:=145
def wH:Nat:=146
def wI:Nat:=147
def oj:Nat:=148
def lI:Nat:=149
def jt:Nat:=150
def wJ:Nat:=151
def sG:Nat:=152
def lJ:Nat:=153
def wK:Nat:=154
def sH:Nat:=155
def Dw:Nat:=156
def Dx:Nat:=157
def qm:Nat:=158
def kd:Nat:=159
def wL:Nat:=160
def lK:Nat:=161
def Dy:Nat:=162
def Dz:Nat:=163
def DA:Nat:=164
def DB:Nat:=165
def DC:Nat:=166
def DD:Nat:=167
def DE:Nat:=168
def DF:Nat:=169
def sI:Nat:=170
def DG:Nat:=171
def DH:Nat:=172
def DI:Nat:=173
def DJ:Nat:=174
def DK:Nat:=175
def DL:Nat:=181
def cmp_isNaN_int:Nat:=182
def DM:Nat:=183
def mU:Nat:=184
def DN:Nat:=185
def DO:Nat:=186
def ke:Nat:=187
def DP:Nat:=188
def DQ:Nat:=189
def Ms:Nat:=190
def wM:Nat:=191
def DR:Nat:=192
def DS:Nat:=193
def DT:Nat:=194
def Mt:Nat:=195
def qn:Nat:=196
def DU:Nat:=197
def DV:Nat:=198
def wN:Nat:=199
def DW:Nat:=200
def DX:Nat:=201
def DY:Nat:=202
def DZ:Nat:=203
def D0:Nat:=204
def mV:Nat:=205
def D1:Nat:=206
def D2:Nat:=207
def qo:Nat:=208
def D3:Nat:=209
def D4:Nat:=210
def wO:Nat:=211
def wP:Nat:=212
def D5:Nat:=213
def ol:Nat:=214
def D6:Nat:=215
def sJ:Nat:=216
def D7:Nat:=217
def D8:Nat:=218
def wQ:Nat:=219
def D9:Nat:=220
def Ea:Nat:=221
def Eb:Nat:=222
def Ec:Nat:=223
def wR:Nat:=224
def Ed:Nat:=225
def Ee:Nat:=226
def qp:Nat:=227
def Ef:Nat:=228
def Eg:Nat:=238
def Eh:Nat:=239
def Ei:Nat:=240
def mW:Nat:=241
def Ej:Nat:=242
def sK:Nat:=243
def qq:Nat:=244
def Ek:Nat:=245
def sL:Nat:=246
def El:Nat:=247
def Em:Nat:=248
def sM:Nat:=249
def En:Nat:=250
def Eo:Nat:=251
def wS:Nat:=252
def wT:Nat:=253
def Ep:Nat:=254
def Er:Nat:=255
def Es:Nat:=256
def Et:Nat:=257
def Eu:Nat:=258
def Ev:Nat:=259
def Ew:Nat:=260
def Mu:Nat:=261
def qs:Nat:=263
def wU:Nat:=264
def Ex:Nat:=265
def Ey:Nat:=266
def Ez:Nat:=267
def EA:Nat:=268
def EB:Nat:=269
def Mv:Nat:=271
def EC:Nat:=277
def Mw:Nat:=278
def ED:Nat:=279
def Mx:Nat:=280
def EE:Nat:=281
def EF:Nat:=282
def mX:Nat:=283
def EG:Nat:=284
def EH:Nat:=285
def EI:Nat:=286
def EJ:Nat:=295
def EK:Nat:=296
def EL:Nat:=297
def EM:Nat:=298
def kf:Nat:=299
def EN:Nat:=300
def EO:Nat:=302
def EP:Nat:=303
def EQ:Nat:=304
def My:Nat:=305
def ER:Nat:=309
def ES:Nat:=310
def ET:Nat:=312
def EU:Nat:=313
def EV:Nat:=314
def Mz:Nat:=315
def EW:Nat:=316
def MA:Nat:=317
def MB:Nat:=318
def MC:Nat:=319
def MD:Nat:=320
def ME:Nat:=321
def cmp_Less_int:Nat:=322
def MF:Nat:=323
def MG:Nat:=324
def MH:Nat:=334
def MI:Nat:=335
abbrev EX:Nat:=0
abbrev an:Nat:=2
abbrev ab:Nat:=3
abbrev eI:Nat:=4
abbrev cr:Nat:=5
abbrev cK:Nat:=9
abbrev cw:Nat:=22
abbrev eW:Nat:=25
abbrev ah:Nat:=26
abbrev cu:Nat:=27
abbrev fl:Nat:=28
abbrev dF:Nat:=29
abbrev b1:Nat:=30
abbrev eX:Nat:=31
abbrev aE:Nat:=33
abbrev eB:Nat:=37
abbrev eo:Nat:=39
abbrev b3:Nat:=41
abbrev qt:Nat:=50
abbrev cV:Nat:=51
abbrev k2:Nat:=52
abbrev aR:Nat:=54
abbrev ax:Nat:=68
abbrev aY:Nat:=70
abbrev bW:Nat:=72
abbrev k3:Nat:=92
abbrev gq:Nat:=95
abbrev b8:Nat:=98
abbrev sN:Nat:=111
abbrev sO:Nat:=114
abbrev cF:Nat:=120
abbrev df:Nat:=122
abbrev iR:Nat:=125
abbrev dY:Nat:=126
abbrev bz:Nat:=128
abbrev bo:Nat:=136
abbrev dl:Nat:=138
abbrev dA:Nat:=145
abbrev eg:Nat:=147
abbrev b6:Nat:=153
abbrev qu:Nat:=197
abbrev eC:Nat:=200
abbrev gr:Nat:=201
abbrev b4:Nat:=203
abbrev hX:Nat:=208
abbrev hr:Nat:=209
abbrev bX:Nat:=211
abbrev dm:Nat:=217
abbrev cp:Nat:=219
abbrev ep:Nat:=220
abbrev ck:Nat:=222
abbrev eP:Nat:=224
abbrev da:Nat:=228
abbrev bm:Nat:=230
abbrev dg:Nat:=232
abbrev ca:Nat:=234
abbrev dG:Nat:=238
abbrev aW:Nat:=240
abbrev ju:Nat:=245
abbrev e9:Nat:=247
abbrev gX:Nat:=250
abbrev fJ:Nat:=252
abbrev gu:Nat:=253
abbrev hs:Nat:=254
abbrev cB:Nat:=256
abbrev dn:Nat:=258
abbrev dB:Nat:=260
abbrev fa:Nat:=262
abbrev k4:Nat:=266
abbrev cQ:Nat:=271
abbrev mY:Nat:=278
abbrev gI:Nat:=290
abbrev ij:Nat:=296
abbrev dH:Nat:=301
abbrev b2:Nat:=304
abbrev fm:Nat:=306
abbrev cG:Nat:=311
abbrev ht:Nat:=320
abbrev eY:Nat:=322
abbrev mZ:Nat:=323
abbrev fo:Nat:=326
abbrev MJ:Nat:=332
abbrev m3:Nat:=340
abbrev fY:Nat:=343
abbrev fb:Nat:=345
abbrev cm:Nat:=347
abbrev jv:Nat:=363
abbrev hY:Nat:=365
abbrev qv:Nat:=381
abbrev kg:Nat:=394
abbrev k5:Nat:=409
abbrev qw:Nat:=426
theorem aA {f:FuncId} {fn:Func} {c:Code} {Q:x1->x2->Prop} {Z:{B S aT:Type}->k1 B S aT->(x1->x2->B)->B} {J:Prop} (U:x3.funcs[f]? =σ fn) (h:J)
  (V:fn.body=σ c:=by rfl) (_:∀ {B S aT:Type} (A:k1 B S aT) (Q:x1->x2->B),ss A false false (n:=w.heap.size) fn c args w Q=Z A Q:=by intros;conv=>lhs;reduce)
  (_:Z (mS x3) Q=J:=by dsimp only[mS]) (e:J=dX x3 fn.ntmps (false,w.heap.size) c (kZ fn.results.toList) (jq 0 args) w (ka x3 fn.results.toList false Q):=by kernel_rfl)
  (I:(!(fn.name == "runtime.NumGoroutine")&&wf fn.ntmps c&&Nat.ble args.length fn.ntmps&& !iN c)=true:=by kernel_rfl):aj x3 f args w Q:=by
 simp only[U1,Bool.not_eq_true'] at I;exact aj.Ct mixed U V I.1.1.1 I.1.1.2 I.1.2 I.2 (e▸h)
theorem lL {f:FuncId} {fn:Func} {c:Code} {Q:x1->x2->Prop} {Z:{B S aT:Type}->k1 B S aT->(x1->x2->B)->B} {J:Prop} (U:x3.funcs[f]? =σ fn) (h:J)
  (V:fn.body=σ c:=by rfl) (_:∀ {B S aT:Type} (A:k1 B S aT) (Q:x1->x2->B),ss A false true (n:=w.heap.size) fn c args w Q=Z A Q:=by intros;conv=>lhs;reduce)
  (_:Z (mS x3) Q=J:=by dsimp only[mS]) (e:J=dX x3 fn.ntmps (false,w.heap.size) c (kZ fn.results.toList) (jq 0 args) w (ka x3 fn.results.toList true Q):=by kernel_rfl)
  (I:(!(fn.name == "runtime.NumGoroutine")&&wf fn.ntmps c&&Nat.ble args.length fn.ntmps)=true:=by kernel_rfl):aj x3 f args w Q:=by
 simp only[U1,Bool.not_eq_true'] at I;exact aj.enter mixed U V I.1.1 I.1.2 I.2 (e▸h)
theorem om {f:FuncId} {fn:Func} {c:Code} {Q:x1->x2->Prop} {Z:{B S aT:Type}->k1 B S aT->(x1->x2->B)->B} {J:Prop} (U:x3.funcs[f]? =σ fn) (h:J)
  (V:fn.body=σ c:=by rfl) (_:∀ {B S aT:Type} (A:k1 B S aT) (Q:x1->x2->B),ss A true false (n:=0) fn c args w Q=Z A Q:=by intros;conv=>lhs;reduce)
  (_:Z (mS x3) Q=J:=by dsimp only[mS]) (e:J=dX x3 fn.ntmps (true,0) c (kZ fn.results.toList) (jq 0 args) w (ka x3 fn.results.toList false Q):=by kernel_rfl)
  (I:(!(fn.name == "runtime.NumGoroutine")&&wf fn.ntmps c&&Nat.ble args.length fn.ntmps)=true:=by kernel_rfl):fX x3 f args w Q:=by
 simp only[U1,Bool.not_eq_true'] at I;exact fX.enter mixed U V I.1.1 I.1.2 I.2 (e▸h)
theorem mU.enters:Enters x3 mU:=Enters.of x3 (show x3.funcs[mU]? =σ Tryz.f184 from Tryz.func184) rfl Ψ
theorem ke.enters:Enters x3 ke:=Enters.of x3 (show x3.funcs[ke]? =σ Tryz.f187 from Tryz.func187) rfl Ψ
theorem mW.enters:Enters x3 mW:=Enters.of x3 (show x3.funcs[mW]? =σ Tryz.f241 from Tryz.func241) rfl Ψ
theorem mX.enters:Enters x3 mX:=Enters.of x3 (show x3.funcs[mX]? =σ Tryz.f283 from Tryz.func283) rfl Ψ
theorem kf.enters:Enters x3 kf:=Enters.of x3 (show x3.funcs[kf]? =σ Tryz.f299 from Tryz.func299) rfl Ψ
end Go.Proofs.YtgbkinibgjmodaaGreatDoor
namespace Go.Vc
open Go Go.RowKit
theorem sP {b:Nat} (h:w.cell? ⟨b,o,ν⟩=σ v):∃c e f,w.heap[b]? =σ (.cells c e f)/\c[o]? =σ v:=by
 simp only[x2.cell?] at h;split at h
 .rename_i c e f I;exact⟨c,e,f,I,by simpa using h⟩
 .cases h
theorem wV (I:af S w w') {b:Nat} (J:¬S b) (h:w.cell? ⟨b,o,ν⟩=σ v):w'.cell? ⟨b,o,ν⟩=σ v:=by
 obtain⟨c,e,f,U,V⟩:=sP h;simp[x2.cell?,I.a7 b _ U rfl J,V]
theorem lM (I:Ext w w') {b:Nat} (h:w.cell? ⟨b,o,ν⟩=σ v):w'.cell? ⟨b,o,ν⟩=σ v:=
 wV (I.V λ_=>False) (λh=>h) h
theorem m4 (I:Ext w w') {b:Nat} (h:w.rangeAt b o cs):w'.rangeAt b o cs:=λj v J=>lM I (h j v J)
theorem oo (I:af S w w') {b:Nat} (J:¬S b) (h:w.rangeAt b o cs):w'.rangeAt b o cs:=λj v U=>wV I J (h j v U)
def ae (w:x2) (g:Nat) (e:u9) (cs:List x1):Prop:=w.heap[g]? =σ (.cells cs.toArray e (0,0))
theorem ae.ext {g:Nat} (h:ae w g e cs) (I:Ext w w'):ae w' g e cs:=I.a7 g _ h rfl
theorem ae.V {g:Nat} (h:ae w g e cs) (I:af S w w') (J:¬S g):ae w' g e cs:=I.a7 g _ h rfl J
theorem ae.lt {g:Nat} (h:ae w g e cs):g<w.heap.size:=(j4.1 h).1
theorem ae.cell {g:Nat} (h:ae w g e cs) (I:cs[o]? =σ v):w.cell? ⟨g,o,ν⟩=σ v:=by
 unfold ae at h;simp[x2.cell?,h,I]
theorem ae.range {g:Nat} (h:ae w g e cs):w.rangeAt g 0 cs:=λj v I=>by rw[V1];exact h.cell I
theorem ae.frozen {g:Nat} (h:ae w g e cs) (o:Nat) (I:Option Nat):w.frozen? ⟨g,o,I⟩=false:=by
 unfold ae at h;simp[x2.frozen?,h]
def bT (w:x2) (k:Nat) (v:x1) (n:Nat) (cs:List x1):Prop:=
 cs.length=n*k/\ ∃b o base cap,v= .slice base n cap/\n<=cap/\cap<=maxLen/\(0<n->base=σ ⟨b,o,ν⟩)/\w.rangeAt b o cs
theorem bT.ext {k:Nat} (h:bT w k v n cs) (I:Ext w w'):bT w' k v n cs:=by
 obtain⟨h1,b,o,base,cap,J,U,V,W,X⟩:=h;exact⟨h1,b,o,base,cap,J,U,V,W,m4 I X⟩
theorem bT.le {k:Nat} (h:bT w k v n cs):n<=maxLen:=by
 obtain⟨_,_,_,_,_,_,I,J,_⟩:=h;exact X0 I J
theorem bT.nil (w:x2) (k:Nat):bT w k (.slice ν 0 0) 0 []:=⟨Ξ,0,0,ν,0,rfl,o8 _,Y9 _,λh=>absurd h (Nat.lt_irrefl _),λj v h=>by simp at h⟩
def aM (P:W5) (t:u9) (k b:Nat) (z:x1):Prop:=∃i,P.info? t=σ i/\i.size=k/\i.bytes=b/\i.zero=σ z
theorem aM.of {P:W5} {k b:Nat} (h:(P.info? t).map (λi=>(i.size,i.bytes,i.zero))=σ (k,b,σ z)):aM P t k b z:=by
 cases hi:P.info? t with
 |none=>simp[hi] at h
 |some i=>simp[hi] at h;exact⟨i,hi,h⟩
theorem aM.size {P:W5} {k b:Nat} (h:aM P t k b z):(P.info? t).map (·.size)=σ k:=by
 obtain⟨i,hi,I,_⟩:=h;simp[hi,I]
def br (P:W5) (t:u9) (pl:List (Nat×Nat)):Prop:=∃I,P.underlying t=σ (.struct I)/\I.toList.map (λf=>(f.offset,((P.info? f.type).map (·.size)).getD 0))=pl
def wW (P:W5) (t:u9):Option (List (Nat×Nat)):=match P.underlying t with
 |some (.struct I)=>σ (I.toList.map λf=>(f.offset,((P.info? f.type).map (·.size)).getD 0))
 |_=>ν
theorem br.of {P:W5} {pl:List (Nat×Nat)} (h:wW P t=σ pl):br P t pl:=by
 unfold wW at h;split at h
 .rename_i I hu;exact⟨I,hu,by simpa using h⟩
 .cases h
section
variable {P:W5} {w:x2}
theorem J.of {s:Sem x1} (h:∀w',Ext w w'->s.run P w'= .ok v w'):J P s w K=K v:=by
 refine propext ⟨λ⟨I,h',k⟩=>?_,λk=>⟨v,h,k⟩⟩;have:=h' w (Ext.refl w);rw[h w (Ext.refl w)] at this;cases this;exact k
theorem az.of {α:Type} {s:Sem α} {v:α} {K:α->x2->Prop} (h:s.run P w= .ok v w') (I:cI w w') (k:K v w'):az P s w K:=⟨v,w',h,I,k⟩
theorem bH {c:Bool} {A B:Prop}:Split (.bool c) A B=((c=true->A)/\(c=false->B)):=by
 refine propext ⟨λ⟨J,h,h1,I⟩=>?_,λ⟨h1,I⟩=>⟨c,rfl,h1,I⟩⟩;cases h;exact⟨h1,I⟩
theorem ad {p:Prop} [Decidable p] {A B:Prop}:Split (.bool (decide p)) A B=((p->A)/\(¬p->B)):=by rw[bH];simp
theorem bO {A B:Prop}:Split (.bool true) A B=A:=by rw[bH];simp
theorem aQ {A B:Prop}:Split (.bool false) A B=B:=by rw[bH];simp
theorem aN {b:Int}:J P (aB .add t cx cy (.int k a) (.int k b)) w K=K (.int k (k.wrap (a+b))):=
 J.of λw' _=>by simp[aB,eqGuard,binOp,Op.intArith]
theorem cX {b:Int}:J P (aB .sub t cx cy (.int k a) (.int k b)) w K=K (.int k (k.wrap (a-b))):=
 J.of λw' _=>by simp[aB,eqGuard,binOp,Op.intArith]
theorem fp {b:Int}:J P (aB .mul t cx cy (.int k a) (.int k b)) w K=K (.int k (k.wrap (a*b))):=
 J.of λw' _=>by simp[aB,eqGuard,binOp,Op.intArith]
theorem oq {b:Int} (I:b≠0):J P (aB .quo t cx cy (.int k a) (.int k b)) w K=K (.int k (k.wrap (a.tdiv b))):=
 J.of λw' _=>by simp[aB,eqGuard,binOp,Op.intDiv,I]
theorem kh {b:Int} (I:b≠0):J P (aB .rem t cx cy (.int k a) (.int k b)) w K=K (.int k (a.tmod b)):=
 J.of λw' _=>by simp[aB,eqGuard,binOp,Op.intDiv,I]
theorem ao {b:Int}:J P (aB .lss t cx cy (.int k a) (.int k b)) w K=K (.bool (decide (a<b))):=
 J.of λw' _=>by simp[aB,eqGuard,binOp,Op.intCmp]
theorem lN {b:Int}:J P (aB .leq t cx cy (.int k a) (.int k b)) w K=K (.bool (decide (a<=b))):=
 J.of λw' _=>by simp[aB,eqGuard,binOp,Op.intCmp]
theorem bP {b:Int}:J P (aB .gtr t cx cy (.int k a) (.int k b)) w K=K (.bool (decide (b<a))):=
 J.of λw' _=>by simp[aB,eqGuard,binOp,Op.intCmp]
theorem cb {b:Int}:J P (aB .geq t cx cy (.int k a) (.int k b)) w K=K (.bool (decide (b<=a))):=
 J.of λw' _=>by simp[aB,eqGuard,binOp,Op.intCmp]
theorem bi {b:Int}:J P (aB .eql t cx cy (.int k a) (.int k b)) w K=K (.bool (decide (a=b))):=
 J.of λw' _=>by
  have:(a == b)=decide (a=b):=by by_cases h:a=b <;> simp[h]
  simp[aB,eqGuard,binOp,Op.intCmp,this]
theorem bB {b:Int}:J P (aB .neq t cx cy (.int k a) (.int k b)) w K=K (.bool (decide (a≠b))):=
 J.of λw' _=>by
  have:(a != b)=decide (a≠b):=by by_cases h:a=b <;> simp[h,bne]
  simp[aB,eqGuard,binOp,Op.intCmp,this]
theorem wX {I:o5} {b:Int} (U:0<=b):J P (aB .shl t cx cy (.int k a) (.int I b)) w K=K (.int k (k.wrap (a*2 ^ min b.toNat k.bits))):=
 J.of λw' _=>by simp[aB,eqGuard,binOp,Op.shift,show ¬b<0 by omega]
theorem bg {c:Bool}:J P (Op.unary .not (.bool c)) w K=K (.bool !c):=J.of λw' _=>by simp[Op.unary]
theorem ki:J P (Op.unary .neg (.int k a)) w K=K (.int k (k.wrap (0-a))):=J.of λw' _=>by simp[Op.unary,Op.intArith]
theorem eZ {s d:u9} {U:o5} (I:P.underlying s=σ (.int U)) (V:P.underlying d=σ (.int k)):
  J P (convert s d (.int U a)) w K=K (.int k (k.wrap a)):=J.of λw' _=>by simp[convert,run_underlying I,run_underlying V,Conv.intToInt]
theorem wY {x y:x1} {r:Bool} (I:∀w',(eqGuard .eql t (aJ cx) (aJ cy) x y).run P w'= .ok () w')
  (U:binOp .eql t x y=(do pure (.bool (<-Op.equal t x y)))) (h:∀w',Ext w w'->(Op.equal t x y).run P w'= .ok r w'):J P (aB .eql t cx cy x y) w K=K (.bool r):=J.of λw' V=>by
 unfold aB;rw[U,X8,I w',Result.andThen_ok,X8,h w' V];rfl
theorem wZ {x y:x1} {r:Bool} (I:∀w',(eqGuard .neq t (aJ cx) (aJ cy) x y).run P w'= .ok () w')
  (U:binOp .neq t x y=(do pure (.bool (!(<-Op.equal t x y))))) (h:∀w',Ext w w'->(Op.equal t x y).run P w'= .ok r w'):J P (aB .neq t cx cy x y) w K=K (.bool !r):=J.of λw' V=>by
 unfold aB;rw[U,X8,I w',Result.andThen_ok,X8,h w' V];rfl
theorem w1 (w:x2) (d:Nat) {p:Option Addr} (h:P.underlying t=σ (.pointer e)):(Op.equalIn (d+1) t (.pointer p) (.pointer ν)).run P w= .ok p.isNone w:=by
 cases p <;> simp[Op.equalIn,run_underlying h]
theorem qx {base:Option Addr} {c:Nat} (I:P.underlying t=σ (.slice e)):
  J P (aB .eql t cx cy (.slice base n c) (.slice ν 0 0)) w K=K (.bool base.isNone):=wY (λ_=>rfl) rfl λw' _=>run_equal_slice_nil w' t e base n c I
theorem cA {p:Option Addr} (I:P.underlying t=σ (.pointer e)):
  J P (aB .eql t cx cy (.pointer p) (.pointer ν)) w K=K (.bool p.isNone):=wY (λ_=>rfl) rfl λw' _=>w1 w' 9999 I
theorem w2 {p:Option Addr} (I:P.underlying t=σ (.pointer e)):
  J P (aB .neq t cx cy (.pointer p) (.pointer ν)) w K=K (.bool !p.isNone):=wZ (λ_=>rfl) rfl λw' _=>w1 w' 9999 I
theorem gv {I:u9} {base:Option Addr} {c:Nat} (U:P.underlying t=σ (.slice e)):
  J P (Y3 #[t] I #[.slice base n c]) w K=K (Δ n):=J.of λw' _=>by simp[Y3,run_underlying U,goInt]
theorem ik {I:Array u9} {U:u9} {b:Int}:
  J P (l5.min_ I U #[.int k a,.int k b]) w K=K (.int k (min a b)):=J.of λw' _=>by
 simp only[l5.min_,List.foldlM,l5.min2];simp only[X8,W9,Result.andThen_ok,Int.min_def];congr 2;split <;> split <;> omega
theorem qy {I:Array u9} {U:u9} {b:Int}:
  J P (l5.max_ I U #[.int k a,.int k b]) w K=K (.int k (max a b)):=J.of λw' _=>by
 simp only[l5.max_,List.foldlM,l5.max2];simp only[X8,W9,Result.andThen_ok,Int.max_def];congr 2;split <;> split <;> omega
theorem aK {vs:Array x1} {i:Nat} (h:vs[i]? =σ v):J P (Z8 (.tuple vs) i) w K=K v:=J.of λw' _=>by simp[Z8,h]
theorem kj {f:Fn} {a b:Array x1}:J P (Instr.makeFunc f a b) w K=K (.func f a b):=J.of λ_ _=>rfl
def jw (P:W5) (t:u9):Bool:=match P.underlying t with
 |some (.struct _)|some (.array _ _)|none=>false
 |_=>true
theorem ac {b:Nat} (I:jw P t=true) (h:w.cell? ⟨b,o,ν⟩=σ v):
  J P (x5 t (.pointer (σ ⟨b,o,ν⟩))) w K=K v:=J.of λw' U=>by
 have h':=lM U h;unfold jw at I;cases hu:P.underlying t with
 |none=>rw[hu] at I;cases I
 |some d=>
  rw[hu] at I;cases d <;> first|(cases I;done)|simp[x5,Instr.sureAddr,loadVar,isAgg,run_underlying hu,h']
theorem w3 {d:TypeDesc} {b k:Nat} (hu:P.underlying t=σ d) (U:d.isRow=true) (hi:aM P t k I z) (V:cs.length=k)
  (h:w.rangeAt b o cs):J P (x5 t (.pointer (σ ⟨b,o,ν⟩))) w K=K (.agg cs.toArray):=J.of λw' W=>
 run_loadAt_mid (P:=P) w' b o t cs d (m4 W h) hu U (by rw[hi.size,V])
theorem bn {pl:List (Nat×Nat)} {b k:Nat} (hu:br P t pl) (hi:aM P t k I z) (U:cs.length=k)
  (h:w.rangeAt b o cs):J P (x5 t (.pointer (σ ⟨b,o,ν⟩))) w K=K (.agg cs.toArray):=by
 obtain⟨V,hu,_⟩:=hu;exact w3 hu rfl hi U h
theorem aa {pl:List (Nat×Nat)} {i b off z:Nat} (Y:br P t pl) (U:pl[i]? =σ (off,z+1)):
  J P (x7 t (.pointer (σ ⟨b,o,ν⟩)) i) w K=K (.pointer (σ ⟨b,o+off,ν⟩)):=J.of λw' _=>by
 obtain⟨ab,hu,rfl⟩:=Y;rw[x8] at U;cases V:ab[i]? with
 |none=>rw[S3,V] at U;cases U
 |some f=>
  rw[S3,V] at U;simp only[Y0,Y6,T6] at U;obtain⟨rfl,X⟩:=U;cases W:P.info? f.type with
  |none=>simp[W] at X
  |some j=>
   have I:j.size=z+1:=by simpa[W] using X
   simp[x7,run_underlying hu,V,Instr.sureAddr,fieldPlace,sizeOf,typeInfo,W,I,U4]
theorem w4 {i:Int} {b c z V:Nat} {W:x1} {base:Option Addr} (hu:P.underlying t=σ (.slice e)) (X:aM P e z V W)
  (Y:0<=i) (hi:i<n) (U:0<n->base=σ ⟨b,o,ν⟩):
  J P (n0 t (.slice base n c) (.int k i)) w K=K (.pointer (σ ⟨b,o+i.toNat*z,ν⟩)):=J.of λw' _=>by
 have U:=U Ω;subst U;obtain⟨j,aa,I,_⟩:=X;simp[n0,asIntOf,run_underlying hu,Y,hi,sizeOf,typeInfo,aa,I,U4]
theorem fc {i:Nat} {b c z:Nat} {U:x1} {base:Option Addr} (hu:P.underlying t=σ (.slice e)) (V:aM P e z I U)
  (hi:i<n) (W:0<n->base=σ ⟨b,o,ν⟩):
  J P (n0 t (.slice base n c) (.int k (i:Int))) w K=K (.pointer (σ ⟨b,o+i*z,ν⟩)):=by
 rw[w4 (i:=(i:Int)) hu V Ω Ω W];rfl
theorem EY {i:Int} {b z:Nat} {V:x1} (hu:P.underlying t=σ (.array n e)) (W:aM P e z U V)
  (X:0<=i) (hi:i<n):
  J P (n0 t (.pointer (σ ⟨b,o,ν⟩)) (.int k i)) w K=K (.pointer (σ ⟨b,o+i.toNat*z,ν⟩)):=J.of λw' _=>by
 obtain⟨j,Y,I,_⟩:=W;simp[n0,asIntOf,run_underlying hu,Instr.sureAddr,X,hi,sizeOf,typeInfo,Y,I,U4]
theorem sQ {i:Nat} {b z:Nat} {U:x1} (hu:P.underlying t=σ (.array n e)) (V:aM P e z I U) (hi:i<n):
  J P (n0 t (.pointer (σ ⟨b,o,ν⟩)) (.int k (i:Int))) w K=K (.pointer (σ ⟨b,o+i*z,ν⟩)):=by
 rw[EY (i:=(i:Int)) hu V Ω Ω];rfl
def kk:Option x1->Nat->Prop
 |none,l=>l=0
 |some v,l=>∃k,v= .int k l
def kl:Option x1->Nat->Nat->Prop
 |none,n,h=>h=n
 |some v,_,h=>∃k,v= .int k h
def maxOf:Option x1->Option x1->Nat->Nat->Prop
 |none,_,c,m=>m=c
 |some v,σ _,_,m=>∃k,v= .int k m
 |some _,ν,_,_=>False
theorem lO {l:Nat}:kk (σ (.int k (l:Int))) l:=⟨_,rfl⟩
theorem lP (l:Nat) (x:Int) (h:x=(l:Int)):kk (σ (.int k x)) l:=⟨k,by rw[h]⟩
theorem lQ (l:Nat) (x:Int) (h:x=(l:Int)):kl (σ (.int k x)) n l:=⟨k,by rw[h]⟩
theorem hv:kk ν 0:=rfl
theorem lR:kl (σ (.int k (h:Int))) n h:=⟨_,rfl⟩
theorem hx:kl ν n n:=rfl
theorem er {h:Option x1} {c:Nat}:maxOf ν h c c:=by cases h <;> rfl
theorem qz (w:x2) {sl:Bool} {c l:Nat} {low high mx:Option x1} (h1:kk low l) (J:kl high n h) (I:maxOf mx high c m) (U:l<=h) (aH:h<=m) (hm:m<=c):
  (Instr.sliceBounds sl n c low high mx).run P w= .ok (l,h,m) w:=by
 cases low <;> cases high <;> cases mx <;> simp only[kk,kl,maxOf] at h1 J I <;> (try exact I.elim) <;> (try obtain⟨V,rfl⟩:=h1) <;> (try obtain⟨W,rfl⟩:=J) <;> (try obtain⟨X,rfl⟩:=I) <;> (try subst h1) <;> (try subst J) <;> (try subst I) <;>
  simp[Instr.sliceBounds,Instr.sliceBound,asIntOf,U,aH,hm]
theorem fq {c z l:Nat} {V:x1} {base:Option Addr} {low high mx:Option x1} (hu:P.underlying t=σ (.slice e)) (W:aM P e z U V)
  (h1:kk low l) (X:kl high n h) (Y:maxOf mx high c m) (aa:l<=h) (aH:h<=m) (hm:m<=c):
  J P (W3 t (.slice base n c) low high mx) w K=K (.slice (if m=l then base else base.map (·.add (l*z))) (h-l) (m-l)):=J.of λw' _=>by
 obtain⟨j,ab,I,_⟩:=W;simp[W3,Instr.slice,run_underlying hu,qz w' h1 X Y aa aH hm,sizeOf,typeInfo,ab,I]
theorem qA {z l b:Nat} {V:x1} {low high mx:Option x1} (hu:P.underlying t=σ (.array n e)) (W:aM P e z U V)
  (h1:kk low l) (X:kl high n h) (Y:maxOf mx high n m) (aa:l<=h) (aH:h<=m) (hm:m<=n):
  J P (W3 t (.pointer (σ ⟨b,o,ν⟩)) low high mx) w K=K (.slice (σ (if m=l then⟨b,o,ν⟩ else⟨b,o+l*z,ν⟩)) (h-l) (m-l)):=J.of λw' _=>by
 obtain⟨j,ab,I,_⟩:=W;simp[W3,Instr.sureAddr,run_underlying hu,qz w' h1 X Y aa aH hm,sizeOf,typeInfo,ab,I,U4]
theorem cR {parts:Array (Nat×x1)} {cs:Array x1} (h:P.built t parts.toList=σ cs):J P (Instr.build t parts) w K=K (.agg cs):=J.of λw' _=>
 run_build (P:=P) w' t parts cs h
end
theorem bT.part {k c l:Nat} {base:Option Addr} (I:bT w k (.slice base n c) n cs) (X:l<=h) (aH:h<=n) (hm:h<=m) (Y:m<=c):
  bT w k (.slice (if m=l then base else base.map (·.add (l*k))) (h-l) (m-l)) (h-l) ((cs.drop (l*k)).take ((h-l)*k)):=by
 obtain⟨h1,b,o,aa,cap,he,ab,ac,U,V⟩:=I;cases he;have ad:h*k<=n*k:=X3 _ aH;have ae:l*k+(h-l)*k=h*k:=by rw[<-U2];congr 1;omega
 refine⟨by simp[h1];omega,b,o+l*k,_,m-l,rfl,Ω,Ω,λaf=>?_,λj v J=>?_⟩
 .rw[U Ω,if_neg Ω];simp[U4]
 .have W:=(x4.1 J).1;simp at W;rw[Y2 Ω,List.getElem?_drop] at J;rw[S7];exact V _ _ J
section
variable {P:W5} {w:x2}
structure hZ (g:Nat) (w w':x2):Prop where
 os:w'.os=w.os
 tape:iL w w'
 output:w'.output=w.output
 size:w'.heap.size=w.heap.size
 a7:∀r,r≠g->w'.heap[r]? =w.heap[r]?
theorem hZ.refl (g:Nat) (w:x2):hZ g w w:=⟨rfl,.jm,rfl,rfl,λ_ _=>rfl⟩
theorem hZ.trans {g:Nat} {a b:x2} (h:hZ g a b) (k:hZ g b c):hZ g a c:=
 ⟨k.os.trans h.os,k.tape.trans h.tape,k.output.trans h.output,k.size.trans h.size,λr I=>(k.a7 r I).trans (h.a7 r I)⟩
theorem hZ.V {g:Nat} (h:hZ g w w'):af (λr=>r=g) w w':=⟨Nat.le_of_eq h.size.symm,λr o I _ J=>by rw[h.a7 r J];exact I⟩
theorem hZ.ds {g:Nat} (h:hZ g w w') (U:ae w g e cs):cI w w':=
 ⟨h.os,h.tape,h.output,Nat.le_of_eq h.size.symm,λr o J I=>by
  by_cases V:r=g
  .subst V;unfold ae at U;rw[U] at J;cases J;simp[fW] at I
  .rw[h.a7 r V];exact J⟩
theorem w5 {g:Nat} (h:ae w g e cs) (o:Nat) (v:x1):ae (w.setCell ⟨g,o,ν⟩ v) g e (cs.set o v)/\hZ g w (w.setCell ⟨g,o,ν⟩ v):=by
 unfold ae at h;refine⟨?_,rfl,.jm,rfl,by simp[x2.setCell],λr I=>?_⟩
 .simp[ae,x2.setCell,Array.getElem?_modify,h]
 .simp[x2.setCell,Array.getElem?_modify,T7 I]
def over (cs:List x1):Nat->List x1->List x1
 |_,[]=>cs
 |o,v::r=>over (cs.set o v) (o+1) r
theorem km:∀ (vs cs:List x1) (o:Nat),(over cs o vs).length=cs.length
 |[],_,_=>rfl
 |v::r,cs,o=>by simp[over,km r]
theorem lS:∀ (vs cs:List x1) (o:Nat),o+vs.length<=cs.length-> ∀j,(over cs o vs)[j]? =if o<=j/\j<o+vs.length then vs[j-o]? else cs[j]?
 |[],cs,o,_,j=>by simp[over];intro h1 I;omega
 |v::r,cs,o,h,j=>by
  simp only[j5] at h;rw[over,lS r (cs.set o v) (o+1) Θ j];simp only[j5];by_cases h1:o+1<=j/\j<o+1+r.length
  .rw[if_pos h1,if_pos Ω];rw[show j-o=(j-(o+1))+1 by omega,List.getElem?_cons_succ]
  .rw[if_neg h1];by_cases I:j=o
   .subst I;rw[if_pos Ω,V5 Ω];simp
   .rw[if_neg Ω,W6 (T7 I)]
theorem k6 (h:o+vs.length<=cs.length):over cs o vs=cs.take o++vs++cs.drop (o+vs.length):=by
 apply X6;intro j;rw[lS vs cs o h];by_cases h1:j<o
 .rw[if_neg Ω,j0 Θ,j0 Θ,Y2 h1]
 .by_cases I:j<o+vs.length
  .rw[if_pos Ω,j0 Θ,Z1 Θ];congr 1;simp;omega
  .rw[if_neg Ω,Z1 Θ,List.getElem?_drop];congr 1;simp;omega
theorem lT {g:Nat} {e:u9}:∀ (vs:List x1) (cs:List x1) (o:Nat) (w:x2),ae w g e cs->ae (w.setCells g o vs) g e (over cs o vs)/\hZ g w (w.setCells g o vs)
 |[],cs,o,w,h=>⟨h,hZ.refl _ _⟩
 |v::r,cs,o,w,h=>by
  obtain⟨h1,I⟩:=w5 h o v;obtain⟨J,U⟩:=lT r (cs.set o v) (o+1) _ h1;exact⟨J,I.trans U⟩
theorem qB (w:x2) (c:List x1) (e:u9):ae (w.alloc (.cells c.toArray e)) w.heap.size e c/\Ext w (w.alloc (.cells c.toArray e))/\cI w (w.alloc (.cells c.toArray e)):=
 ⟨heap_alloc_new w _,n2 w _,n3 w _⟩
theorem bt {k:Nat} {K:x1->x2->Prop} (hi:aM P t k I z)
  (h:∀g w',g=w.heap.size->Ext w w'->ae w' g t z.cells.toList->K (Γ g) w'):az P (S6 t true (.tuple #[])) w K:=by
 obtain⟨i,hi,_,_,J⟩:=hi;obtain⟨h1,U,V⟩:=qB w z.cells.toList t;refine .of ?_ V (h _ _ rfl U h1);simp[S6,zeroValue,typeInfo,hi,J,newVar,newRow]
theorem bM {K:x1->x2->Prop}
  (h:∀g w',g=w.heap.size->Ext w w'->ae w' g t v.cells.toList->K (Γ g) w'):az P (Instr.box t v) w K:=by
 obtain⟨h1,I,J⟩:=qB w v.cells.toList t;refine .of ?_ J (h _ _ rfl I h1);simp[Instr.box,newVar,newRow]
def du (z:Array x1) (n:Nat):List x1:=((Array.range n).map (z[·% z.size]!)).toList
theorem m7 (z:Array x1) (n:Nat):(du z n).length=n:=by simp[du]
theorem il {k V:Nat} {parts:Array (Nat×x1)} {cs:Array x1} {K:x1->x2->Prop} (U:P.underlying t=σ (.slice e)) (hi:aM P e k V z)
  (ab:n*k<=2 ^ 24) (I:Instr.fill (λj=>σ (j*k,k)) ((Array.range (n*k)).map ((if n*k=0 then #[] else z.cells)[·% (if n*k=0 then #[] else z.cells).size]!)) parts.toList=σ cs)
  (h:∀g w',g=w.heap.size->Ext w w'->ae w' g e cs.toList->K (.slice (σ ⟨g,0,ν⟩) n n) w'):az P (Z7 t n parts) w K:=by
 obtain⟨i,hi,rfl,_,W⟩:=hi;obtain⟨h1,X,Y⟩:=qB w cs.toList e;refine .of ?_ Y (h _ _ rfl X h1);have aa:¬(16777216<n*i.size):=Ω
 by_cases J:n*i.size=0
 .simp only[J,if_true] at I;simp[Z7,run_underlying U,sizeOf,typeInfo,hi,J,newRow];simp at I;simp[I]
 .simp only[J,if_false] at I;simp[Z7,run_underlying U,sizeOf,typeInfo,hi,aa,J,newRow,zeroValue,W,I]
theorem bj {g:Nat} {K:Unit->x2->Prop} (hi:aM P t 1 W z) (h1:v.cells= #[v]) (X:v.oneCell'=true) (J:ae w g e cs) (Y:o<cs.length)
  (h:∀w',af (λr=>r=g) w w'->w'.heap.size=w.heap.size->ae w' g e (cs.set o v)->K () w'):az P (o4 t (.pointer (σ ⟨g,o,ν⟩)) v) w K:=by
 obtain⟨i,hi,I,_⟩:=hi;obtain⟨aa,U⟩:=w5 J o v;refine .of (w':=w.setCell ⟨g,o,ν⟩ v) ?_ (U.ds J) (h _ U.V U.size aa);have ab:=J.cell (y0 Y);have ac:(⟨g,o,ν⟩:Addr).add 0=⟨g,o,ν⟩:=rfl;simp[o4,Instr.sureAddr,storeVar,sizeOf,typeInfo,hi,I,h1,storeCells,ac,run_store P w _ v _ X,ab,J.frozen]
theorem w6 {k g:Nat} {K:Unit->x2->Prop} (hi:aM P t k U z) (W:vs.length=k) (X:∀v∈vs,v.oneCell'=true) (I:ae w g e cs) (ab:o+vs.length<=cs.length)
  (h:∀w',af (λr=>r=g) w w'->w'.heap.size=w.heap.size->ae w' g e (over cs o vs)->K () w'):az P (o4 t (.pointer (σ ⟨g,o,ν⟩)) (.agg vs.toArray)) w K:=by
 obtain⟨Y,J⟩:=lT vs cs o w I;refine .of (w':=w.setCells g o vs) ?_ (J.ds I) (h _ J.V J.size Y);exact run_storeAt_mid (P:=P) w g o t vs.toArray (λj aa=>⟨by rw[I.cell (y0 (show o+j<cs.length by simp at aa;omega))];rfl,I.frozen _ _⟩) (by rw[hi.size];simp[W]) (by simpa using X)
def bQ (w:x2) (g:Nat) (e:u9) (k:Nat) (v:x1) (n:Nat) (xs:List x1):Prop:=
 xs.length=n*k/\((v= .slice ν 0 0/\n=0)\/ ∃cap cs,v= .slice (σ ⟨g,0,ν⟩) n cap/\ae w g e cs/\n<=cap/\cap<=maxLen/\cs.length=cap*k/\cs.take (n*k)=xs)
theorem bQ.nil (w:x2) (g:Nat) (e:u9) (k:Nat):bQ w g e k (.slice ν 0 0) 0 []:=⟨Ξ,.inl ⟨rfl,rfl⟩⟩
theorem bQ.full {g:Nat} {k:Nat} (h:ae w g e cs) (I:cs.length=n*k) (J:n<=maxLen):bQ w g e k (.slice (σ ⟨g,0,ν⟩) n n) n cs:=
 ⟨I,.inr ⟨n,cs,rfl,h,o8 _,J,I,by rw[<-I,o9]⟩⟩
theorem bQ.V {g:Nat} {k:Nat} (h:bQ w g e k v n xs) (J:af S w w') (U:g<w.heap.size->¬S g):bQ w' g e k v n xs:=
 ⟨h.1,h.2.imp id λ⟨cap,cs,h1,I,W⟩=>⟨cap,cs,h1,I.V J (U I.lt),W⟩⟩
theorem bQ.ext {g:Nat} {k:Nat} (h:bQ w g e k v n xs) (I:Ext w w'):bQ w' g e k v n xs:=h.V (I.V λ_=>False) (λ_ h=>h)
theorem bQ.sl {g:Nat} {k:Nat} (h:bQ w g e k v n xs):bT w k v n xs:=by
 obtain⟨h1,⟨rfl,rfl⟩|⟨cap,cs,rfl,J,U,V,X,W⟩⟩:=h
 .have:xs=[]:=Z2 (by simpa using h1);subst this;exact bT.nil w k
 .refine⟨h1,g,0,_,cap,rfl,U,V,λ_=>rfl,λj v I=>?_⟩;rw[V1];have Y:=(x4.1 I).1;rw[<-W,Y2 Ω] at I;exact J.cell I
theorem bT.src {k:Nat} {x:x1} {J:List x1} {V W:u9} (I:bT w k x m J) (X:P.underlying V=σ (.slice W)) (h1:∀u∈J,u.oneCell'=true) (Y:0<m):Src P k V x m J w:=by
 obtain⟨aa,b,o,base,cap,rfl,_,_,U,ab⟩:=I;have U:=U Y;subst U;exact Src.ofSlice w X ⟨b,o,ν⟩ m cap J aa (λj u hu=>by rw[U4];exact ab j u hu) h1
theorem bT.EZ {k:Nat} {x:x1} {V:List x1} {J W:u9} (I:bT w k x 0 V) (U:P.underlying J=σ (.slice W)):Src P k J x 0 [] w:=by
 obtain⟨X,b,o,base,cap,rfl,_,_,Y,aa⟩:=I;cases base with
 |none=>exact Src.ofNil w U cap
 |some a=>exact Src.ofSlice w U a 0 cap [] Ξ Ξ Ξ
theorem w7 {W Y al ax:u9} {k am g:Nat} {x:x1} {J:List x1} {K:x1->x2->Prop}
  (ac:P.underlying t=σ (.slice e)) (ad:P.underlying W=σ (.slice ax)) (hi:aM P e k am z) (ay:z.cells.size=k)
  (an:bQ w g al k v n xs) (I:bT w k x m J) (h1:∀u∈J,u.oneCell'=true) (aA:(n+m)*am<=140737488355328) (ao:n+m<=maxLen)
  (h:∀ae ag w' ah,(ag=g/\ah=al/\(v=ae\/g<w.heap.size/\v≠ .slice ν 0 0)\/ag=w.heap.size/\ah=e)->bQ w' ag ah k ae (n+m) (xs++J)->af (λr=>r=g/\v≠ .slice ν 0 0) w w'->K ae w'):
  az P (l7 #[t,W] Y #[v,x]) w K:=by
 obtain⟨i,hi,rfl,rfl,aB⟩:=hi;have aC:=an.sl;obtain⟨U,ai⟩:=an;have X:=I.1;have grow:∀ (base:Option Addr) (cap:Nat),v= .slice base n cap->cap<n+m->0<m->(l5.firstCells i.size n (.slice base n cap)).run P w.drew= .ok xs.toArray w.drew->az P (l7 #[t,W] Y #[v,x]) w K:=by
  rintro base cap rfl ap hm aD;have aa:=run_append_grow_src (P:=P) w t W Y e i z ac hi aB base n cap xs aD x m J (I.src ad h1 hm) ap (by simp only[maxLen] at ao;omega) (growslice_fits ap aA);have aE:n+m<=grownCap w (n+m) cap e:=grownCap_ge w _ _ _;have aj:grownCap w (n+m) cap e<=maxLen:=grownCap_le_maxLen w (n+m) cap e ao;have aF:Ext w (w.drew.alloc (.cells ((xs++J).toArray++l5.zeroCells z.cells (grownCap w (n+m) cap e-(n+m))) e)):=(pO w _).trans (n2 _ _);refine .of aa ((n1 w _ (S5 _)).trans (n3 _ _)) (h _ w.heap.size _ _ (.inr ⟨rfl,rfl⟩) ⟨by simp[U,X,U2],.inr ⟨_,((xs++J).toArray++l5.zeroCells z.cells (grownCap w (n+m) cap e-(n+m))).toList,rfl,?_,aE,aj,?_,?_⟩⟩ (aF.V _))
  .show _=_;rw[Array.toArray_toList];exact heap_alloc_new w.drew _
  .simp[U,X,size_zeroCells,ay,<-U2];congr 1;omega
  .rw[Array.toList_append,List.toList_toArray,U2,<-U,<-X,<-r8];exact List.take_left
 rcases Nat.eq_zero_or_pos m with rfl|hm
 .have aG:J=[]:=Z2 (by simpa using X);subst aG;have aH:=I.EZ ad;have aq:∀base cap,v= .slice base n cap->n<=cap->az P (l7 #[t,W] Y #[v,x]) w K:=by
   rintro base cap rfl aj;refine .of (run_append_nothing (P:=P) w t W Y e i ac hi base n cap aj x aH) (cI.refl _) (h _ g _ _ (.inl ⟨rfl,rfl,.inl rfl⟩) ?_ (af.refl _ _));rw[Nat.add_zero,V4];exact⟨U,ai⟩
  obtain⟨rfl,rfl⟩|⟨cap,cs,rfl,_,au,_⟩:=ai
  .exact aq _ _ rfl (o8 _)
  .exact aq _ _ rfl au
 .obtain⟨rfl,rfl⟩|⟨cap,cs,rfl,ab,au,aI,av,aJ⟩:=ai
  .have aK:xs=[]:=Z2 (by simpa using U);subst aK;exact grow ν 0 rfl Ω hm (run_firstCells_none w.drew i.size 0 0 0)
  .by_cases ak:n+m<=cap
   .have aL:n*i.size+J.length<=cs.length:=by rw[X,av,<-U2];exact X3 _ ak
    have aa:=run_append_room_src (P:=P) w t W Y e i ac hi g 0 n cap x m J (I.src ad h1 hm) ak
     (λj aR=>by rw[ab.cell (y0 (show 0+n*i.size+j<cs.length by omega))];rfl) (λj _=>ab.frozen _ _)
    obtain⟨aN,aw⟩:=lT J cs (n*i.size) w ab;rw[V1] at aa;refine .of aa (aw.ds ab) (h _ g _ _ (.inl ⟨rfl,rfl,.inr ⟨ab.lt,Ξ⟩⟩) ⟨by simp[U,X,U2],.inr ⟨cap,_,rfl,aN,ak,aI,by rw[km,av],?_⟩⟩ (aw.V.mono λr _ h=>⟨h,Ξ⟩));rw[k6 aL,aJ,U2,<-U,<-X,<-r8];exact List.take_left
   .refine grow _ cap rfl Ω hm (run_firstCells_some w.drew i.size n _ n cap xs U λj u hu=>?_);rw[U4];obtain⟨_,b,o,base,aS,he,_,_,aO,aa⟩:=aC;cases he;have aP:0<n:=by
     rcases Nat.eq_zero_or_pos n with rfl|aQ
     .simp at U;subst U;simp at hu
     .exact aQ
    have:=aO aP;cases this;simpa using aa j u hu
theorem lU {W aa ab:u9} {k X g:Nat} {x:x1} {V:List x1} {K:x1->x2->Prop}
  (ac:P.underlying t=σ (.slice e)) (ad:P.underlying W=σ (.slice ab)) (hi:aM P e k X z) (ae:z.cells.size=k)
  (ag:bQ w g e k v n xs) (I:bT w k x m V) (h1:∀u∈V,u.oneCell'=true) (ah:(n+m)*X<=140737488355328) (ai:n+m<=maxLen)
  (h:∀U J w',(J=g\/w.heap.size<=J)->bQ w' J e k U (n+m) (xs++V)->af (λr=>r=g) w w'->K U w'):
  az P (l7 #[t,W] aa #[v,x]) w K:=
 w7 ac ad hi ae ag I h1 ah ai λU J w' ak Y hm aj=>by
  refine h U J w' (Y.imp And.left λh=>Nat.le_of_eq h.1.symm) ?_ (aj.mono λr _ h=>h.1);obtain⟨_,rfl,_⟩|⟨_,rfl⟩:=Y <;> exact hm
theorem w8 {W Y aa:u9} {al g J ab:Nat} {x:x1} {base:Option Addr} {ag:u9} {K:x1->x2->Prop} (ah:P.underlying W=σ (.slice e)) (hi:aM P e 1 al z)
  (U:ae w g ag cs) (am:0<J->base=σ ⟨g,o,ν⟩) (ay:o+J<=cs.length) (I:bT w 1 x n xs) (h1:∀u∈xs,u.oneCell'=true)
  (h:∀w',af (λr=>r=g) w w'->w'.heap.size=w.heap.size->ae w' g ag (over cs o (xs.take J))->K (Δ (min n J:Nat)) w'):
  az P (l5.copy_ #[W,Y] aa #[.slice base J ab,x]) w K:=by
 obtain⟨ac,b,o',an,cap,rfl,_,_,ao,ap⟩:=I;simp only[T4] at ac;have ai:(P.info? e).map (·.size)=σ 1:=hi.size;by_cases X:Nat.min n J=0
 .have he:xs.take J=[]:=Z2 (by rw[o7,ac];rw[Nat.min_comm];exact X);rw[he] at h;refine .of (run_copy_none (P:=P) w W Y aa e base an J ab n cap ah ai X) (cI.refl _) ?_;have aj:min n J=0:=X;rw[aj] at h;exact h w (af.refl _ _) rfl U
 .have aj:min n J≠0:=X;have aq:=ao Ω;have au:=am Ω;subst aq;subst au;have ak:(xs.take J).length=min n J:=by rw[o7,ac,Nat.min_comm]
  obtain⟨av,ad⟩:=lT (xs.take J) cs o w U;have aw:=run_copy_cells (P:=P) w W Y aa e g o J ab ⟨b,o',ν⟩ n cap (xs.take J) ah ai ak
   (λj u hu=>by
    rw[U4];have ax:=(x4.1 hu).1;rw[Y2 Ω] at hu;exact ap j u hu)
   (λj ax=>by rw[U.cell (y0 (show o+j<cs.length by omega))];rfl) (λj _=>U.frozen _ _) (λu hu=>h1 u (T2 hu))
  refine .of aw (ad.ds U) ?_;rw[ak];exact h _ ad.V ad.size av
theorem aj.mono {f:FuncId} {K J:x1->x2->Prop} (h:aj P f args w K) (U:∀v w',cI w w'->K v w'->J v w'):aj P f args w J:=by
 cases h with
 |code h1 I=>exact .code h1 (I.mono λ_ w' ⟨v,h1,V,I⟩=>⟨v,h1,V,U v w' V I⟩)
 |ext v w' h1 I W=>exact .ext v w' h1 I (U v w' I W)
theorem fX.mono {f:FuncId} {K J:x1->x2->Prop} (h:fX P f args w K) (U:∀v w',K v w'->J v w'):fX P f args w J:=by
 cases h with
 |code h1 I=>exact .code h1 (I.mono λ_ w' ⟨v,h1,I⟩=>⟨v,h1,U v w' I⟩)
 |ext v w' h1 V=>exact .ext v w' h1 (U v w' V)
end
end Go.Vc
namespace Go.Proofs.YtgbkinibgjmodaaGreatDoor
open Go Go.Vc Go.RowKit Go.Proofs Go.Proofs.Tryz
set_option maxRecDepth 100000
theorem an.u:x3.underlying an=σ (.int .i64):=Ψ
theorem an.i:aM x3 an 1 8 (Δ 0):=aM.of Ψ
theorem ab.u:x3.underlying ab=σ (.int .i64):=Ψ
theorem ab.i:aM x3 ab 1 8 (Δ 0):=aM.of Ψ
theorem eI.u:x3.underlying eI=σ .bool:=Ψ
theorem eI.i:aM x3 eI 1 1 (.bool false):=aM.of Ψ
theorem cr.u:x3.underlying cr=σ (.int .u8):=Ψ
theorem cr.i:aM x3 cr 1 1 (.int .u8 0):=aM.of Ψ
theorem cK.u:x3.underlying cK=σ .string:=Ψ
theorem cK.i:aM x3 cK 1 16 (.string ⟨#[]⟩):=aM.of Ψ
theorem cw.u:x3.underlying cw=σ (.slice cr):=Ψ
theorem eW.u:x3.underlying eW=σ (.pointer bz):=Ψ
theorem ah.u:x3.underlying ah=σ (.slice ab):=Ψ
theorem ah.i:aM x3 ah 1 24 (.slice ν 0 0):=aM.of Ψ
theorem cu.u:x3.underlying cu=σ (.slice ah):=Ψ
theorem cu.i:aM x3 cu 1 24 (.slice ν 0 0):=aM.of Ψ
theorem fl.u:x3.underlying fl=σ (.slice eI):=Ψ
theorem fl.i:aM x3 fl 1 24 (.slice ν 0 0):=aM.of Ψ
theorem dF.u:x3.underlying dF=σ (.slice ax):=Ψ
theorem dF.i:aM x3 dF 1 24 (.slice ν 0 0):=aM.of Ψ
theorem b1.u:x3.underlying b1=σ (.slice bW):=Ψ
theorem b1.i:aM x3 b1 1 24 (.slice ν 0 0):=aM.of Ψ
theorem eX.u:x3.underlying eX=σ (.slice b6):=Ψ
theorem eX.i:aM x3 eX 1 24 (.slice ν 0 0):=aM.of Ψ
theorem aE.p:br x3 aE [(0,1),(1,1),(2,1),(3,1),(4,1),(5,1),(6,1),(7,1)]:=br.of Ψ
theorem aE.i:aM x3 aE 8 160 (.agg #[(Δ 0),(.slice ν 0 0),(Δ 0),(.slice ν 0 0),(.slice ν 0 0),(.slice ν 0 0),(.slice ν 0 0),(.slice ν 0 0)]):=aM.of Ψ
theorem eB.i:aM x3 eB 1 8 (Δ 0):=aM.of Ψ
theorem eo.u:x3.underlying eo=σ (.int .u64):=Ψ
theorem eo.i:aM x3 eo 1 8 (.int .u64 0):=aM.of Ψ
theorem b3.p:br x3 b3 [(0,1),(1,1)]:=br.of Ψ
theorem b3.i:aM x3 b3 2 16 (.agg #[(.int .u64 0),(Δ 0)]):=aM.of Ψ
theorem qt.u:x3.underlying qt=σ (.slice aR):=Ψ
theorem cV.u:x3.underlying cV=σ (.slice aE):=Ψ
theorem cV.i:aM x3 cV 1 24 (.slice ν 0 0):=aM.of Ψ
theorem k2.u:x3.underlying k2=σ (.slice k4):=Ψ
theorem aR.p:br x3 aR [(0,1),(1,1),(2,1),(3,1),(4,1),(5,1),(6,1),(7,1),(8,1)]:=br.of Ψ
theorem aR.i:aM x3 aR 9 120 (.agg #[(.int .u8 0),(Δ 0),(Δ 0),(Δ 0),(Δ 0),(.slice ν 0 0),(.slice ν 0 0),(.slice ν 0 0),(.bool false)]):=aM.of Ψ
theorem ax.u:x3.underlying ax=σ (.slice an):=Ψ
theorem ax.i:aM x3 ax 1 24 (.slice ν 0 0):=aM.of Ψ
theorem aY.p:br x3 aY [(0,1),(1,1),(2,1)]:=br.of Ψ
theorem aY.i:aM x3 aY 3 72 (.agg #[(.slice ν 0 0),(.slice ν 0 0),(.slice ν 0 0)]):=aM.of Ψ
theorem bW.p:br x3 bW [(0,3),(3,1)]:=br.of Ψ
theorem bW.i:aM x3 bW 4 80 (.agg #[(.slice ν 0 0),(.slice ν 0 0),(.slice ν 0 0),(.bool false)]):=aM.of Ψ
theorem k3.u:x3.underlying k3=σ (.pointer e9):=Ψ
theorem gq.u:x3.underlying gq=σ (.slice b8):=Ψ
theorem gq.i:aM x3 gq 1 24 (.slice ν 0 0):=aM.of Ψ
theorem b8.p:br x3 b8 [(0,1),(1,1),(2,1)]:=br.of Ψ
theorem b8.i:aM x3 b8 3 56 (.agg #[(Δ 0),(.slice ν 0 0),(.slice ν 0 0)]):=aM.of Ψ
theorem sN.u:x3.underlying sN=σ (.pointer cp):=Ψ
theorem sO.u:x3.underlying sO=σ (.pointer dg):=Ψ
theorem cF.u:x3.underlying cF=σ (.slice aY):=Ψ
theorem cF.i:aM x3 cF 1 24 (.slice ν 0 0):=aM.of Ψ
theorem df.p:br x3 df [(0,1),(1,1),(2,1),(3,1),(4,1)]:=br.of Ψ
theorem df.i:aM x3 df 5 88 (.agg #[(Δ 0),(.slice ν 0 0),(Δ 0),(.slice ν 0 0),(.slice ν 0 0)]):=aM.of Ψ
theorem iR.u:x3.underlying iR=σ (.pointer cB):=Ψ
theorem dY.u:x3.underlying dY=σ (.slice dl):=Ψ
theorem dY.i:aM x3 dY 1 24 (.slice ν 0 0):=aM.of Ψ
theorem bz.p:br x3 bz [(0,1),(1,1),(2,1),(3,1),(4,1)]:=br.of Ψ
theorem bo.p:br x3 bo [(0,1)]:=br.of Ψ
theorem bo.i:aM x3 bo 1 24 (.agg #[(.slice ν 0 0)]):=aM.of Ψ
theorem dl.p:br x3 dl [(0,1),(1,1),(2,1)]:=br.of Ψ
theorem dl.i:aM x3 dl 3 56 (.agg #[(.slice ν 0 0),(.slice ν 0 0),(Δ 0)]):=aM.of Ψ
theorem dA.p:br x3 dA [(0,1),(1,1),(2,1)]:=br.of Ψ
theorem dA.i:aM x3 dA 3 56 (.agg #[(.slice ν 0 0),(Δ 0),(.slice ν 0 0)]):=aM.of Ψ
theorem eg.u:x3.underlying eg=σ (.pointer cQ):=Ψ
theorem eg.i:aM x3 eg 1 8 (.pointer ν):=aM.of Ψ
theorem b6.p:br x3 b6 [(0,1),(1,1),(2,1)]:=br.of Ψ
theorem b6.i:aM x3 b6 3 56 (.agg #[(Δ 0),(.slice ν 0 0),(.slice ν 0 0)]):=aM.of Ψ
theorem qu.u:x3.underlying qu=σ (.pointer gI):=Ψ
theorem eC.p:br x3 eC [(0,1),(1,1),(2,1),(3,1)]:=br.of Ψ
theorem gr.u:x3.underlying gr=σ (.slice ij):=Ψ
theorem gr.i:aM x3 gr 1 24 (.slice ν 0 0):=aM.of Ψ
theorem b4.p:br x3 b4 [(0,1),(1,4),(5,1),(6,1)]:=br.of Ψ
theorem hX.u:x3.underlying hX=σ (.slice bX):=Ψ
theorem hr.u:x3.underlying hr=σ (.slice dH):=Ψ
theorem hr.i:aM x3 hr 1 24 (.slice ν 0 0):=aM.of Ψ
theorem bX.p:br x3 bX [(0,1),(1,1),(2,1),(3,1)]:=br.of Ψ
theorem bX.i:aM x3 bX 4 80 (.agg #[(.slice ν 0 0),(.slice ν 0 0),(Δ 0),(.slice ν 0 0)]):=aM.of Ψ
theorem dm.u:x3.underlying dm=σ (.slice ck):=Ψ
theorem dm.i:aM x3 dm 1 24 (.slice ν 0 0):=aM.of Ψ
theorem cp.p:br x3 cp [(0,1),(1,1),(2,1),(3,1)]:=br.of Ψ
theorem ep.u:x3.underlying ep=σ (.pointer eY):=Ψ
theorem ep.i:aM x3 ep 1 8 (.pointer ν):=aM.of Ψ
theorem ck.p:br x3 ck [(0,1),(1,1)]:=br.of Ψ
theorem ck.i:aM x3 ck 2 32 (.agg #[(.slice ν 0 0),(.pointer ν)]):=aM.of Ψ
theorem eP.u:x3.underlying eP=σ (.slice ca):=Ψ
theorem eP.i:aM x3 eP 1 24 (.slice ν 0 0):=aM.of Ψ
theorem da.u:x3.underlying da=σ (.slice aW):=Ψ
theorem da.i:aM x3 da 1 24 (.slice ν 0 0):=aM.of Ψ
theorem bm.p:br x3 bm [(0,1),(1,1),(2,1),(3,1),(4,1),(5,1),(6,1),(7,1),(8,1)]:=br.of Ψ
theorem dg.p:br x3 dg [(0,1),(1,1),(2,1),(3,1)]:=br.of Ψ
theorem ca.p:br x3 ca [(0,1),(1,1)]:=br.of Ψ
theorem ca.i:aM x3 ca 2 24 (.agg #[(.string ⟨#[]⟩),(Δ 0)]):=aM.of Ψ
theorem dG.u:x3.underlying dG=σ (.slice b2):=Ψ
theorem dG.i:aM x3 dG 1 24 (.slice ν 0 0):=aM.of Ψ
theorem aW.p:br x3 aW [(0,1),(1,1),(2,1),(3,1)]:=br.of Ψ
theorem aW.i:aM x3 aW 4 80 (.agg #[(.slice ν 0 0),(.slice ν 0 0),(Δ 0),(.slice ν 0 0)]):=aM.of Ψ
theorem ju.u:x3.underlying ju=σ (.slice gX):=Ψ
theorem ju.i:aM x3 ju 1 24 (.slice ν 0 0):=aM.of Ψ
theorem e9.p:br x3 e9 [(0,1),(1,1),(2,1),(3,1)]:=br.of Ψ
theorem gX.p:br x3 gX [(0,1),(1,1)]:=br.of Ψ
theorem gX.i:aM x3 gX 2 32 (.agg #[(.slice ν 0 0),(.pointer ν)]):=aM.of Ψ
theorem fJ.u:x3.underlying fJ=σ (.slice dB):=Ψ
theorem fJ.i:aM x3 fJ 1 24 (.slice ν 0 0):=aM.of Ψ
theorem gu.u:x3.underlying gu=σ (.slice fa):=Ψ
theorem gu.i:aM x3 gu 1 24 (.slice ν 0 0):=aM.of Ψ
theorem hs.u:x3.underlying hs=σ (.slice dn):=Ψ
theorem hs.i:aM x3 hs 1 24 (.slice ν 0 0):=aM.of Ψ
theorem cB.p:br x3 cB [(0,1),(1,1),(2,1),(3,1)]:=br.of Ψ
theorem dn.p:br x3 dn [(0,1),(1,1),(2,1)]:=br.of Ψ
theorem dn.i:aM x3 dn 3 24 (.agg #[(Δ 0),(Δ 0),(.int .u64 0)]):=aM.of Ψ
theorem dB.p:br x3 dB [(0,1),(1,1)]:=br.of Ψ
theorem dB.i:aM x3 dB 2 16 (.agg #[(Δ 0),(.int .u64 0)]):=aM.of Ψ
theorem fa.p:br x3 fa [(0,1),(1,2)]:=br.of Ψ
theorem fa.i:aM x3 fa 3 24 (.agg #[(Δ 0),(Δ 0),(.int .u64 0)]):=aM.of Ψ
theorem k4.u:x3.underlying k4=σ (.int .u16):=Ψ
theorem k4.i:aM x3 k4 1 2 (.int .u16 0):=aM.of Ψ
theorem cQ.p:br x3 cQ [(0,1),(1,1),(2,1)]:=br.of Ψ
theorem mY.u:x3.underlying mY=σ (.int .u64):=Ψ
theorem gI.p:br x3 gI [(0,1),(1,1),(2,1)]:=br.of Ψ
theorem ij.p:br x3 ij [(0,1),(1,1)]:=br.of Ψ
theorem ij.i:aM x3 ij 2 48 (.agg #[(.slice ν 0 0),(.slice ν 0 0)]):=aM.of Ψ
theorem dH.p:br x3 dH [(0,1),(1,1)]:=br.of Ψ
theorem dH.i:aM x3 dH 2 32 (.agg #[(.slice ν 0 0),(Δ 0)]):=aM.of Ψ
theorem b2.p:br x3 b2 [(0,1),(1,1)]:=br.of Ψ
theorem b2.i:aM x3 b2 2 32 (.agg #[(.slice ν 0 0),(Δ 0)]):=aM.of Ψ
theorem fm.u:x3.underlying fm=σ (.slice cG):=Ψ
theorem cG.p:br x3 cG [(0,1),(1,1)]:=br.of Ψ
theorem cG.i:aM x3 cG 2 32 (.agg #[(.slice ν 0 0),(.pointer ν)]):=aM.of Ψ
theorem ht.u:x3.underlying ht=σ (.map cm an):=Ψ
theorem eY.p:br x3 eY [(0,1),(1,1),(2,1),(3,1)]:=br.of Ψ
theorem mZ.u:x3.underlying mZ=σ (.slice fo):=Ψ
theorem fo.p:br x3 fo [(0,1),(1,1)]:=br.of Ψ
theorem fo.i:aM x3 fo 2 32 (.agg #[(.slice ν 0 0),(Δ 0)]):=aM.of Ψ
theorem m3.u:x3.underlying m3=σ (.int .u32):=Ψ
theorem fY.u:x3.underlying fY=σ (.map cK ab):=Ψ
theorem fb.u:x3.underlying fb=σ (.int .i8):=Ψ
theorem fb.i:aM x3 fb 1 1 (.int .i8 0):=aM.of Ψ
theorem cm.u:x3.underlying cm=σ (.array 6 fb):=Ψ
theorem cm.i:aM x3 cm 6 6 (.agg #[(.int .i8 0),(.int .i8 0),(.int .i8 0),(.int .i8 0),(.int .i8 0),(.int .i8 0)]):=aM.of Ψ
theorem jv.u:x3.underlying jv=σ (.slice fb):=Ψ
theorem hY.u:x3.underlying hY=σ (.slice cm):=Ψ
theorem hY.i:aM x3 hY 1 24 (.slice ν 0 0):=aM.of Ψ
theorem qv.u:x3.underlying qv=σ (.array 64 cr):=Ψ
theorem kg.u:x3.underlying kg=σ (.map an ab):=Ψ
theorem k5.u:x3.underlying k5=σ (.array 24 cr):=Ψ
theorem k5.i:aM x3 k5 24 24 (.agg #[(.int .u8 0),(.int .u8 0),(.int .u8 0),(.int .u8 0),(.int .u8 0),(.int .u8 0),(.int .u8 0),(.int .u8 0),(.int .u8 0),(.int .u8 0),(.int .u8 0),(.int .u8 0),(.int .u8 0),(.int .u8 0),(.int .u8 0),(.int .u8 0),(.int .u8 0),(.int .u8 0),(.int .u8 0),(.int .u8 0),(.int .u8 0),(.int .u8 0),(.int .u8 0),(.int .u8 0)]):=aM.of Ψ
theorem qw.u:x3.underlying qw=σ (.array 20 eo):=Ψ
end Go.Proofs.YtgbkinibgjmodaaGreatDoor
namespace Go.Vc
open Go Go.RowKit
def bL:x1->Int
 | .int _ i=>i
 |_=>0
theorem wrap_i64 {x:Int} (h1: -9223372036854775808<=x) (I:x<9223372036854775808):Y5.wrap x=x:=by
 simp only[o5.wrap,o5.bits,o5.signed];simp;omega
theorem wrap_u8 {x:Int} (h1:0<=x) (I:x<256):o5.u8.wrap x=x:=by
 simp only[o5.wrap,o5.bits,o5.signed];simp;omega
theorem wrap_u16 {x:Int} (h1:0<=x) (I:x<65536):o5.u16.wrap x=x:=by
 simp only[o5.wrap,o5.bits,o5.signed];simp;omega
theorem E0 {x:Int} (h1: -128<=x) (I:x<128):o5.i8.wrap x=x:=by
 simp only[o5.wrap,o5.bits,o5.signed];simp;omega
theorem wrap_u64 {x:Int} (h1:0<=x) (I:x<18446744073709551616):U3.wrap x=x:=by
 simp only[o5.wrap,o5.bits,o5.signed];simp;omega
abbrev ints (k:o5) (l:List Int):List x1:=l.map (V2 k)
theorem ot (k:o5) (l:List Int):∀u∈ints k l,u.oneCell'=true:=by
 intro u hu;obtain⟨x,_,rfl⟩:=Z5.1 hu;rfl
theorem jx {i:Nat} {x:Int} (h:l[i]? =σ x):(ints k l)[i]? =σ (.int k x):=by simp[ints,h]
theorem sR {α:Type} {a b:List α} {i:Nat} {x y:α} (h:a.take i=b.take i) (I:a[i]? =σ x) (J:b[i]? =σ y) (U:x=y):a.take (i+1)=b.take (i+1):=by
 rw[r9,r9,h,I,J,U]
theorem dt {I:x2->Prop} {B:(x2->Prop)->Prop} (G:x2->Prop) (h1:∀w,G w->I w) (U:∀J:x2->Prop,(∀w,G w->J w)->B J):bx I B:=U I h1
theorem aP {I:x1->x2->Prop} {B:(x1->x2->Prop)->Prop} (G:x1->x2->Prop) (h1:∀v w,G v w->I v w)
  (U:∀J:x1->x2->Prop,(∀v w,G v w->J v w)->B J):bx I B:=U I h1
theorem hW {I:x1->x1->x2->Prop} {B:(x1->x1->x2->Prop)->Prop} (G:x1->x1->x2->Prop) (h1:∀u v w,G u v w->I u v w)
  (U:∀J:x1->x1->x2->Prop,(∀u v w,G u v w->J u v w)->B J):bx I B:=U I h1
theorem aj.calls {P:W5} {f:FuncId} {K:x1->x2->Prop} (h:aj P f args w K) (I:Enters P f):Calls P f args.toArray w λe w'=>∃v,e= .returned v/\cI w w'/\K v w':=by
 cases h with
 |code _ h=>exact h
 |ext v w' h1=>rw[I] at h1;cases h1
theorem E1 (V:Ext w w') (J:cI w w'):Below w.heap.size w w':=
 ⟨J.os,J.tape.1,J.output,V.size,λk W=>by
  have U:w.heap[k]? =σ w.heap[k]:=Array.getElem?_eq_getElem W;rw[U];cases I:fW w.heap[k] with
  |true=>exact V.a7 k _ U I
  |false=>exact J.a7 k _ U I⟩
theorem sS {x:Addr} (h:w.cell? x=σ v):x=⟨x.block,x.off,ν⟩:=by
 obtain⟨b,o,s⟩:=x;cases s with
 |none=>rfl
 |some s=>
  unfold x2.cell? at h;split at h <;> simp at h
theorem E2 {a:Option Addr} {len cap:Nat} {I:List Int}
  (h:(a=ν/\len=0/\cap=0/\I=[])\/
   ∃x,a=σ x/\len<=cap/\cap<=maxLen/\I.length=cap/\(∀i,i<I.length->w.cell? (x.add i)=σ (.int k (I.getD i 0)))/\ ∀n∈I,(Lit.int k n).wf=true):
  bT w 1 (.slice a len cap) len (ints k (I.take len))/\ ∀n∈I.take len,k.min<=n/\n<=k.max:=by
 rcases h with⟨rfl,rfl,rfl,rfl⟩|⟨x,rfl,h1,W,X,J,Y⟩
 .exact⟨bT.nil _ _,Ξ⟩
 .refine⟨⟨by simp[X,h1],x.block,x.off,σ x,cap,rfl,h1,W,λad=>?_,λj v U=>?_⟩,λn aa=>?_⟩
  .have:=J 0 Ω;exact congrArg σ (sS this)
  .have ab:=(x4.1 U).1;rw[u5,o7] at ab;have ac:x=⟨x.block,x.off,ν⟩:=sS (v:=.int k (I.getD 0 0)) (J 0 Ω);have V:=J j Ω;rw[ac,U4] at V;rw[V,<-U,ints,x8,Y2 Ω,u4,y0 Ω];rfl
  .have:=Y n (T2 aa);simpa[Lit.wf] using this
def aI (k:o5) (w:x2) (v:x1) (l:List Int):Prop:=bT w 1 v l.length (ints k l)
def aq (k:o5) (e:u9) (w:x2) (g:Nat) (v:x1) (l:List Int):Prop:=bQ w g e 1 v l.length (ints k l)
theorem aI.ext (h:aI k w v l) (I:Ext w w'):aI k w' v l:=bT.ext h I
theorem aq.ext {g:Nat} (h:aq k e w g v l) (I:Ext w w'):aq k e w' g v l:=bQ.ext h I
theorem aq.V {g:Nat} (h:aq k e w g v l) (I:af S w w') (J:g<w.heap.size->¬S g):aq k e w' g v l:=bQ.V h I J
theorem aq.ls {g:Nat} (h:aq k e w g v l):aI k w v l:=bQ.sl h
theorem aI.of (h:bT w 1 v n (ints k l)):aI k w v l:=by
 have:l.length=n:=by simpa using h.1
 unfold aI;rw[this];exact h
theorem aq.of {g:Nat} (h:bQ w g e 1 v n (ints k l)):aq k e w g v l:=by
 have:l.length=n:=by simpa using h.1
 unfold aq;rw[this];exact h
theorem aI.le (h:aI k w v l):l.length<=9223372036854775807:=by
 have:=bT.le h;simpa[maxLen] using this
theorem aI.cells (h:aI k w v l):v.cells= #[v]/\v.oneCell'=true:=by
 obtain⟨_,_,_,_,_,rfl,_⟩:=h;exact⟨rfl,rfl⟩
theorem aq.nil (k:o5) (e:u9) (w:x2) (g:Nat):aq k e w g (.slice ν 0 0) []:=bQ.nil w g e 1
section
variable {P:W5} {w:x2}
theorem aS {I:u9} (U:P.underlying t=σ (.slice e)) (h:aI k w v l):
  J P (Y3 #[t] I #[v]) w K=K (Δ l.length):=by
 obtain⟨_,_,_,_,_,rfl,_⟩:=h;exact gv U
theorem bc {U:o5} {b:Nat} {i:Nat} {x:Int} (V:P.underlying t=σ (.slice e)) (hi:aM P e 1 b z) (h1:jw P e=true)
  (h:aI k w v l) (I:l[i]? =σ x):J P (n0 t v (.int U (i:Int))) w (λp=>J P (x5 e p) w K)=K (.int k x):=by
 have W:=(x4.1 I).1;obtain⟨_,_,_,_,_,rfl,_,_,X,Y⟩:=h;rw[fc V hi W X,T4,ac h1 (Y i _ (jx I))]
theorem dZ {I:o5} {b:Nat} {i:Nat} {x:Int} (U:y=(i:Int)) (V:P.underlying t=σ (.slice e)) (hi:aM P e 1 b z) (h1:jw P e=true)
  (h:aI k w v l) (W:l[i]? =σ x):J P (n0 t v (.int I y)) w (λp=>J P (x5 e p) w K)=K (.int k x):=by
 subst U;exact bc V hi h1 h W
theorem hy {V:u9} {b g:Nat} {x:x1} {m:List Int} {K:x1->x2->Prop} (U:P.underlying t=σ (.slice e)) (hi:aM P e 1 b z) (W:z.cells.size=1)
  (h:aq k e w g v l) (X:aI k w x m) (Y:(l.length+m.length)*b<=140737488355328) (aa:l.length+m.length<=9223372036854775807)
  (ab:∀J I w',(I=g\/w.heap.size<=I)->aq k e w' I J (l++m)->af (λr=>r=g) w w'->K J w'):az P (l7 #[t,t] V #[v,x]) w K:=
 lU U U hi W h X (ot _ _) Y (by simpa[maxLen] using aa) λJ I w' h1 ac ad=>ab J I w' h1 (aq.of (by rw[ints,Z4];exact ac)) ad
theorem dJ {b:Nat} {x:Int} {K:x1->x2->Prop} (U:P.underlying t=σ (.slice e)) (hi:aM P e 1 b z) (Y:z.cells.size=1)
  (h:∀v g w',g=w.heap.size->Ext w w'->aq k e w' g v [x]->K v w'):az P (Z7 t 1 #[(0,.int k x)]) w K:=
 il U hi Ω (cs:=#[.int k x]) (by
   have I:∀ (a:Array x1),a.size=1->a.setIfInBounds 0 (.int k x)= #[.int k x]:=λa J=>by
    apply Array.ext
    .simp[J]
    .intro i h1 aa;have:i=0:=by simp[J] at h1;exact h1
     subst this;simp
   simp only[Instr.fill,x1.cells,List.zipIdx];simp;exact I _ Ξ) λg w' V W X=>h _ g w' V W (aq.of (n:=1) (bQ.full X rfl (by simp[maxLen])))
theorem aj.free {f:FuncId} {K:x1->x2->Prop} (h:aj P f args w K):fX P f args w λv w'=>cI w w'/\K v w':=by
 cases h with
 |code h1 I=>exact .code h1 (I.mono λ_ w' ⟨v,h1,J,I⟩=>⟨v,h1,J,I⟩)
 |ext v w' h1 I U=>exact .ext v w' h1 ⟨I,U⟩
theorem aw {a:Addr}:J P (aX (.pointer (σ a))) w K=K (.pointer (σ a)):=J.of λ_ _=>by
 simp[aX,pQ,execOp]
theorem bI {u:u9} {pl:List (Nat×Nat)} {b off z:Nat} {K:x1->x1->Prop} (V:br P t pl) (i:Nat) (W:ae w b e cs) (I:cs[(pl[i]?.getD (0,0)).1]? =σ v) (U:pl[i]? =σ (off,z+1):=by rfl) (X:jw P u=true:=by kernel_rfl):
  J P (x7 t (Γ b) i) w (λx=>J P (x5 u x) w (K x))=K (.pointer (σ ⟨b,0+off,ν⟩)) v:=by
 rw[U] at I;rw[aa V U,ac X (W.cell (by rw[V1];exact I))]
theorem lV {u:u9} {pl:List (Nat×Nat)} {b off z:Nat} {K:x1->x1->x1->Prop} (I:br P t pl) (i:Nat) (U:ae w b e cs) (V:cs[(pl[i]?.getD (0,0)).1]? =σ v) (W:pl[i]? =σ (off,z+1):=by rfl) (X:jw P u=true:=by kernel_rfl):
  J P (aX (Γ b)) w (λy=>J P (x7 t y i) w (λx=>J P (x5 u x) w (K y x)))=K (Γ b) (.pointer (σ ⟨b,0+off,ν⟩)) v:=by
 rw[aw,bI I i U V W X]
theorem w9 {I J:o5} {k:Nat} {K:x1->x2->Prop} (W:P.underlying t=σ (.slice e)) (hi:aM P e k U z) (ac:n*U<=281474976710656) (ad:n<=9223372036854775807)
  (h:∀g w',g=w.heap.size->Ext w w'->ae w' g e (du z.cells (n*k))->K (.slice (σ ⟨g,0,ν⟩) n n) w'):az P (Instr.makeSlice t (.int I (n:Int)) (.int J (n:Int))) w K:=by
 obtain⟨i,hi,rfl,rfl,X⟩:=hi;have Y:(i.bytes:Int)*(n:Int)<=281474976710656:=by
  rw[Int.mul_comm];have h:((n*i.bytes:Nat):Int)<=281474976710656:=Ω
  rwa [Int.natCast_mul] at h
 have V:=run_make (P:=P) w t e i z W hi X I J n n Ω (Int.le_refl _) Y Ω;have hm:madeCells z.cells ((n:Int).toNat*i.size)=(du z.cells (n*i.size)).toArray:=by rw[du,Array.toArray_toList];rfl
 rw[hm] at V;obtain⟨h1,aa,ab⟩:=qB w (du z.cells (n*i.size)) e;exact .of V ab (h _ _ rfl aa h1)
theorem E3 (v:x1) (n:Nat):du #[v] n=o6 n v:=by
 apply List.ext_getElem
 .simp[du]
 .intro i h1 I;simp[du,Nat.mod_one]
theorem iS {J U:o5} {K:x1->x2->Prop} (V:P.underlying t=σ (.slice e)) (hi:aM P e 1 I (.int k 0)) (W:n*I<=281474976710656) (X:n<=9223372036854775807)
  (h:∀g w',g=w.heap.size->Ext w w'->ae w' g e (ints k (o6 n 0))->K (.slice (σ ⟨g,0,ν⟩) n n) w'):az P (Instr.makeSlice t (.int J (n:Int)) (.int U (n:Int))) w K:=
 w9 V hi W X λg w' Y aa ab=>h g w' Y aa (by
  have e:du (V2 k 0).cells (n*1)=ints k (o6 n 0):=by rw[T4];show du #[_] n=_;rw[E3];simp[ints]
  rw[<-e];exact ab)
theorem eJ {pl:List (Nat×Nat)} {b k:Nat} (hu:br P t pl) (hi:aM P t k I z) (U:cs.length=k)
  (h:w.rangeAt b o cs):J P (do loadVar t (<-asAddr (.pointer (σ ⟨b,o,ν⟩)))) w K=K (.agg cs.toArray):=J.of λw' V=>by
 obtain⟨W,hu,_⟩:=hu;have:=run_loadVar_mid (P:=P) w' b o t cs (.struct W) (m4 V h) hu rfl (by rw[hi.size,U]);simp only[asAddr,X8,W9,Result.andThen_ok,this]
theorem E4 (h:vs.length=cs.length):over cs 0 vs=vs:=by
 rw[k6 Ω];simp[h]
theorem bJ {k J g:Nat} {K:Unit->x2->Prop} (hi:aM P t k J z) (U:vs.length=k) (Y:cs.length=k) (V:∀v∈vs,v.oneCell'=true) (W:ae w g e cs)
  (h:∀w',af (λr=>r=g) w w'->w'.heap.size=w.heap.size->ae w' g e vs->K () w'):az P (o4 t (Γ g) (.agg vs.toArray)) w K:=
 w6 hi U V W Ω λw' h1 X I=>h w' h1 X (by rw[E4 Ω] at I;exact I)
end
abbrev ai:=Nat->Prop
def gY (S:ai) (w:x2) (k:Nat) (v:x1) (n:Nat) (cs:List x1):Prop:=
 cs.length=n*k/\ ∃b o base cap,v= .slice base n cap/\n<=cap/\cap<=maxLen/\(0<n->base=σ ⟨b,o,ν⟩)/\(0<cs.length->S b)/\w.rangeAt b o cs
theorem gY.sl {S:ai} {k:Nat} (h:gY S w k v n cs):bT w k v n cs:=by
 obtain⟨h1,b,o,base,cap,I,J,U,V,_,W⟩:=h;exact⟨h1,b,o,base,cap,I,J,U,V,W⟩
theorem xa {b:Nat} (h:w.rangeAt b o cs) (I:0<cs.length):b<w.heap.size:=by
 have:=h 0 cs[0] (y0 I);obtain⟨c,e,f,J,_⟩:=sP this;exact (j4.1 J).1
theorem gY.V {S T:ai} {k:Nat} (h:gY S w k v n cs) (W:af T w w') (X:∀r,r<w.heap.size->S r->¬T r):gY S w' k v n cs:=by
 obtain⟨h1,b,o,base,cap,Y,aa,ab,ac,J,U⟩:=h;refine⟨h1,b,o,base,cap,Y,aa,ab,ac,J,?_⟩;rcases Nat.eq_zero_or_pos cs.length with I|I
 .intro j v ad;have:=(x4.1 ad).1;omega
 .exact oo W (X b (xa U I) (J I)) U
theorem gY.mono {S T:ai} {k:Nat} (h:gY S w k v n cs) (U:∀r,r<w.heap.size->S r->T r):gY T w k v n cs:=by
 obtain⟨h1,b,o,base,cap,V,W,X,Y,aa,I⟩:=h;exact⟨h1,b,o,base,cap,V,W,X,Y,λJ=>U b (xa I J) (aa J),I⟩
class ak (α:Type) where
 n:Nat
 rep:Bool->ai->ai->x2->List x1->α->Prop
 len:∀ {m S R w cs a},rep m S R w cs a->cs.length=n
 one:∀ {m S R w cs a},rep m S R w cs a-> ∀u∈cs,u.oneCell'=true
 V:∀ {m S R T w w' cs a},rep m S R w cs a->af T w w'->(∀r,r<w.heap.size->S r\/R r->¬T r)->rep m S R w' cs a
 mono:∀ {m S S' R R' w cs a},rep m S R w cs a->(∀r,r<w.heap.size->S r->S' r)->(∀r,r<w.heap.size->R r->R' r)->rep m S' R' w cs a
 gG:∀ {m S R w cs a},rep m S R w cs a->rep false (λ_=>False) (λr=>S r\/R r) w cs a
section
variable {α β:Type} [ak α] [ak β] {m:Bool} {S R T:ai} {w w':x2}
abbrev bf (S R:ai) (w:x2) (cs:List x1) (a:α):Prop:=ak.rep true S R w cs a
abbrev Seen (R:ai) (w:x2) (cs:List x1) (a:α):Prop:=ak.rep false (λ_=>False) R w cs a
abbrev ea:ai:=λ_=>True
theorem be {a:α} (h:ak.rep m S R w cs a) (I:Ext w w'):ak.rep m S R w' cs a:=ak.V h (I.V λ_=>False) λ_ _ _ h=>h
theorem ko {a:α} (h:ak.rep m S R w cs a):ak.rep m (λr=>S r/\r<w.heap.size) R w cs a:=ak.mono h (λ_ h1 I=>⟨I,h1⟩) λ_ _ h=>h
theorem hz {a:α} (h:ak.rep m S R w cs a):Seen ea w cs a:=ak.mono (ak.gG h) (λ_ _ h=>h.elim) λ_ _ _=>trivial
theorem ou {a:α} {Q:ai} (h:ak.rep m S R w cs a) (I:∀r,r<w.heap.size->S r\/R r->Q r):Seen Q w cs a:=ak.mono (ak.gG h) (λ_ _ h=>h.elim) I
instance:ak Int where
 n:=1
 rep _ _ _ _ cs a:=cs=[Δ a]
 len h:=by subst h;rfl
 one h:=by subst h;intro u hu;simp at hu;subst hu;rfl
 V h _ _:=h
 mono h _ _:=h
 gG h:=h
instance:ak Bool where
 n:=1
 rep _ _ _ _ cs a:=cs=[.bool a]
 len h:=by subst h;rfl
 one h:=by subst h;intro u hu;simp at hu;subst hu;rfl
 V h _ _:=h
 mono h _ _:=h
 gG h:=h
instance:ak ByteArray where
 n:=1
 rep _ _ _ _ cs a:=cs=[.string a]
 len h:=by subst h;rfl
 one h:=by subst h;intro u hu;simp at hu;subst hu;rfl
 V h _ _:=h
 mono h _ _:=h
 gG h:=h
def cY (_:o5):Type:=Int
instance (k:o5):ak (cY k) where
 n:=1
 rep _ _ _ _ cs a:=cs=[.int k a]
 len h:=by subst h;rfl
 one h:=by subst h;intro u hu;simp at hu;subst hu;rfl
 V h _ _:=h
 mono h _ _:=h
 gG h:=h
def Rd (α:Type):Type:=α
instance MK:ak (Rd α) where
 n:=ak.n α
 rep _ _ R w cs a:=ak.rep (α:=α) false (λ_=>False) R w cs a
 len h:=ak.len (α:=α) h
 one h:=ak.one (α:=α) h
 V h I J:=ak.V (α:=α) h I λr U h=>J r U (.inr (h.elim False.elim id))
 mono h _ W:=ak.mono (α:=α) h (λ_ _ h=>h) W
 gG h:=ak.mono (α:=α) h (λ_ _ h=>h) λ_ _ h=>.inr h
instance ML:ak (α×β) where
 n:=ak.n α+ak.n β
 rep m S R w cs a:=∃c d A B,cs=c++d/\(∀r,A r->S r)/\(∀r,B r->S r)/\(m=true-> ∀r,A r->¬B r)/\ak.rep m A R w c a.1/\ak.rep m B R w d a.2
 len:=by
  rintro m S R w cs a ⟨c,d,A,B,rfl,_,_,_,h1,I⟩;simp[ak.len h1,ak.len I]
 one:=by
  rintro m S R w cs a ⟨c,d,A,B,rfl,_,_,_,h1,I⟩ u hu;rcases n9.1 hu with hu|hu
  .exact ak.one h1 u hu
  .exact ak.one I u hu
 V:=by
  rintro m S R T w w' cs a ⟨c,d,A,B,rfl,U,W,Y,h1,I⟩ aa X;exact⟨c,d,A,B,rfl,U,W,Y,ak.V h1 aa λr J h=>X r J (h.imp (U r) id),ak.V I aa λr J h=>X r J (h.imp (W r) id)⟩
 mono:=by
  rintro m S S' R R' w cs a ⟨c,d,A,B,rfl,U,W,Y,h1,I⟩ X ab;exact⟨c,d,λr=>A r/\r<w.heap.size,λr=>B r/\r<w.heap.size,rfl,λr h=>X r h.2 (U r h.1),λr h=>X r h.2 (W r h.1),λhm r h k=>Y hm r h.1 k.1,
   ak.mono h1 (λr J h=>⟨h,J⟩) ab,ak.mono I (λr J h=>⟨h,J⟩) ab⟩
 gG:=by
  rintro m S R w cs a ⟨c,d,A,B,rfl,U,W,Y,h1,I⟩;exact⟨c,d,λ_=>False,λ_=>False,rfl,λ_ h=>h.elim,λ_ h=>h.elim,(λh=>by cases h),ak.mono (ak.gG h1) (λ_ _ h=>h) λr _ h=>h.imp (U r) id,
   ak.mono (ak.gG I) (λ_ _ h=>h) λr _ h=>h.imp (W r) id⟩
def kp (m:Bool) (R:ai) (F:Nat->ai) (w:x2) (vs:List (List x1)) (l:List α):Prop:=
 vs.length=l.length/\ ∀ (i:Nat) (c:List x1) (a:α),vs[i]? =σ c->l[i]? =σ a->ak.rep m (F i) R w c a
structure xb (m:Bool) (S:ai) (g:Nat) (F:Nat->ai):Prop where
 sub:∀i r,F i r->S r
 top:m=true-> ∀i,¬F i g
 gJ:m=true-> ∀i j r,i≠j->F i r->¬F j r
theorem kp.len {F:Nat->ai} {vs:List (List x1)} {l:List α} (h:kp m R F w vs l):∀c∈vs,c.length=ak.n α:=by
 intro c I;obtain⟨i,hi,rfl⟩:=List.mem_iff_getElem.1 I;exact ak.len (h.2 i _ _ (y0 hi) (y0 (h.1▸hi)))
theorem kp.one {F:Nat->ai} {vs:List (List x1)} {l:List α} (h:kp m R F w vs l):∀u∈vs.flatten,u.oneCell'=true:=by
 intro u hu;obtain⟨c,I,hu⟩:=List.mem_flatten.1 hu;obtain⟨i,hi,rfl⟩:=List.mem_iff_getElem.1 I;exact ak.one (h.2 i _ _ (y0 hi) (y0 (h.1▸hi))) u hu
theorem ov {k:Nat}:∀ {vs:List (List x1)},(∀c∈vs,c.length=k)->vs.flatten.length=vs.length*k
 |[],_=>Ξ
 |c::r,h=>by
  have:=ov (vs:=r) λx I=>h x (.tail _ I);simp only[List.flatten_cons,r8,this,h c (.head _),j5,U2];omega
theorem lW {k:Nat}:∀ {vs:List (List x1)},(∀c∈vs,c.length=k)-> ∀ {i j:Nat} {c:List x1},vs[i]? =σ c->j<k->vs.flatten[i*k+j]? =c[j]?
 |J::r,h,0,j,c,I,U=>by
  simp only[List.getElem?_cons_zero,Y6] at I;subst I;rw[List.flatten_cons,j0 (by rw[h _ (.head _)];omega)];simp
 |J::r,h,i+1,j,c,I,U=>by
  simp only[List.getElem?_cons_succ] at I;have V:=h J (.head _);rw[List.flatten_cons,Z1 (by rw[V,U2];omega),V,U2,show i*k+1*k+j-k=i*k+j by omega];exact lW (λx W=>h x (.tail _ W)) I U
 |[],_,i,_,c,I,_=>by simp at I
instance instList:ak (List α) where
 n:=1
 rep m S R w cs l:=∃v,cs=[v]/\ ∃ (vs:List (List x1)) (g:Nat) (F:Nat->ai),xb m S g F/\kp m R F w vs l/\gY (λr=>S r\/R r) w (ak.n α) v l.length vs.flatten/\
  (m=true->(v= .slice ν 0 0\/S g)/\ ∃e,bQ w g e (ak.n α) v l.length vs.flatten)
 len:=by rintro m S R w cs a ⟨v,rfl,_⟩;rfl
 one:=by
  rintro m S R w cs a ⟨v,rfl,vs,g,F,_,_,⟨_,_,_,_,_,rfl,_⟩,_⟩ u hu;simp at hu;subst hu;rfl
 V:=by
  rintro m S R T w w' cs a ⟨v,rfl,vs,g,F,U,he,I,hm⟩ ac X;refine⟨v,rfl,vs,g,F,U,⟨he.1,λi c a aa ab=>ak.V (he.2 i c a aa ab) ac λr W h=>X r W (h.imp (U.sub i r) id)⟩,I.V ac X,λh=>?_⟩;obtain⟨h1,e,J⟩:=hm h;refine⟨h1,e,?_⟩;rcases h1 with rfl|h1
  .obtain⟨ae,⟨_,Y⟩|⟨_,_,Y,_⟩⟩:=J
   .exact⟨ae,.inl ⟨rfl,Y⟩⟩
   .cases Y
  .exact J.V ac λW=>X g W (.inl h1)
 mono:=by
  rintro m S S' R R' w cs a ⟨v,rfl,vs,g,F,U,he,I,hm⟩ X ad;refine⟨v,rfl,vs,g,λi r=>F i r/\r<w.heap.size,⟨λi r h=>X r h.2 (U.sub i r h.1),λh i J=>U.top h i J.1,λh i j r af h1 J=>U.gJ h i j r af h1.1 J.1⟩,
   ⟨he.1,λi c a aa ab=>ak.mono (he.2 i c a aa ab) (λr W h=>⟨h,W⟩) ad⟩,I.mono λr W h=>h.imp (X r W) (ad r W),λh=>?_⟩
  obtain⟨h1,e,J⟩:=hm h;refine⟨?_,e,J⟩;obtain⟨_,⟨Y,_⟩|⟨_,_,Y,ag,_⟩⟩:=J
  .exact .inl Y
  .rcases h1 with h1|h1
   .exact .inl h1
   .exact .inr (X g ag.lt h1)
 gG:=by
  rintro m S R w cs a ⟨v,rfl,vs,g,F,U,he,I,hm⟩;exact⟨v,rfl,vs,g,λ_ _=>False,⟨λ_ _ h=>h,(λh=>by cases h),λh=>by cases h⟩,
   ⟨he.1,λi c a aa ab=>ak.mono (ak.gG (he.2 i c a aa ab)) (λ_ _ h=>h) λr _ h=>h.imp (U.sub i r) id⟩,I.mono λr _ h=>.inr h,λh=>by cases h⟩
end
section
variable {P:W5} {w:x2} {α β:Type} [ak α] [ak β] {m:Bool} {S R:ai}
theorem fZ {l:List α} (h:ak.rep m S R w [v] l):∃ (vs:List (List x1)) (g:Nat) (F:Nat->ai),xb m S g F/\kp m R F w vs l/\gY (λr=>S r\/R r) w (ak.n α) v l.length vs.flatten/\
  (m=true->(v= .slice ν 0 0\/S g)/\ ∃e,bQ w g e (ak.n α) v l.length vs.flatten):=by
 obtain⟨_,I,h⟩:=h;cases I;exact h
theorem ga {a:α} (h:ak.rep m S R w [v] a):v.oneCell'=true:=ak.one h v (.head _)
theorem jy {l:List α} (h:ak.rep m S R w [v] l):v.cells= #[v]:=by
 obtain⟨_,_,_,_,_,⟨_,_,_,_,_,rfl,_⟩,_⟩:=fZ h;rfl
theorem m8 {l:List α} (h:ak.rep m S R w [v] l):l.length<=9223372036854775807:=by
 obtain⟨_,_,_,_,_,h,_⟩:=fZ h;have:=h.sl.le;simpa[maxLen] using this
theorem fs:ak.rep m S R w [.slice ν 0 0] ([]:List α):=
 ⟨_,rfl,[],0,λ_ _=>False,⟨λ_ _ h=>h.elim,λ_ _ h=>h,λ_ _ _ _ _ h=>h.elim⟩,⟨rfl,λi c a I=>by simp at I⟩,
  ⟨Ξ,0,0,ν,0,rfl,o8 _,Y9 _,λh=>absurd h (Nat.lt_irrefl _),λh=>by simp at h,λj v h=>by simp at h⟩,
  λ_=>⟨.inl rfl,0,bQ.nil w 0 0 _⟩⟩
theorem xc {F:Nat->ai} {vs:List (List x1)} (h:kp m R F w vs l):vs.flatten=ints .i64 l:=by
 have:vs=l.map λx=>[V2 .i64 x]:=by
  apply List.ext_getElem
  .simp[h.1]
  .intro i h1 I;have J:i<l.length:=by simpa using I
   have:=h.2 i _ _ (y0 h1) (y0 J);rw[List.getElem_map];exact this
 subst this;clear h;induction l with
 |nil=>rfl
 |cons x l U=>simp only[S2,List.flatten_cons,U];rfl
theorem dR (h:ak.rep m S R w [v] l):aI .i64 w v l:=by
 obtain⟨vs,g,F,_,he,I,_⟩:=fZ h;have:=I.sl;rw[xc he] at this;exact this
theorem eK {I:u9} {l:List α} (U:P.underlying t=σ (.slice e)) (h:ak.rep m S R w [v] l):
  J P (Y3 #[t] I #[v]) w K=K (Δ l.length):=by
 obtain⟨_,_,_,_,_,⟨_,_,_,_,_,rfl,_⟩,_⟩:=fZ h;exact gv U
theorem jz {X:o5} {i b:Nat} {l:List α} {a:α} (Y:y=(i:Int)) (aa:P.underlying t=σ (.slice e)) (hi:aM P e (ak.n α) b z)
  (h:ak.rep m S R w [v] l) (I:l[i]? =σ a) (ab:∀b o cs,w.rangeAt b o cs->ak.rep m S R w cs a->K (.pointer (σ ⟨b,o,ν⟩))):J P (n0 t v (.int X y)) w K:=by
 subst Y;obtain⟨vs,g,F,ac,he,⟨_,b,o,base,cap,rfl,_,_,ad,_,ae⟩,_⟩:=fZ h;have U:=(x4.1 I).1;rw[fc aa hi U ad];obtain⟨c,V⟩:∃c,vs[i]? =σ c:=⟨_,y0 (by rw[he.1];exact U)⟩;have W:=he.2 i c a V I;have af:=ak.len W;refine ab _ _ c (λj u hu=>?_) (ak.mono W (λr _ h=>ac.sub i r h) λ_ _ h=>h);have ag:=(x4.1 hu).1;rw[S7];refine ae (i*ak.n α+j) u ?_;rw[lW he.len V Ω];exact hu
theorem k7 {V:o5} {i b:Nat} {l:List α} {a:α} (W:ak.n α=1) (X:y=(i:Int)) (Y:P.underlying t=σ (.slice e)) (hi:aM P e (ak.n α) b z)
  (h1:jw P e=true) (h:ak.rep m S R w [v] l) (aa:l[i]? =σ a) (ab:∀u,ak.rep m S R w [u] a->K u):
  J P (n0 t v (.int V y)) w λp=>J P (x5 e p) w K:=by
 refine jz X Y hi h aa λb o cs ad I=>?_;have U:=ak.len I;rw[W] at U;obtain⟨u,rfl⟩:=X7.1 U;rw[ac h1 (by have:=ad 0 u rfl;simpa using this)];exact ab u I
theorem im {pl:List (Nat×Nat)} {U:o5} {i b:Nat} {l:List α} {a:α} (hu:br P e pl) (V:y=(i:Int)) (W:P.underlying t=σ (.slice e)) (hi:aM P e (ak.n α) b z)
  (h:ak.rep m S R w [v] l) (X:l[i]? =σ a) (Y:∀cs,ak.rep m S R w cs a->K (.agg cs.toArray)):
  J P (n0 t v (.int U y)) w λp=>J P (x5 e p) w K:=by
 refine jz V W hi h X λb o cs aa I=>?_;rw[bn hu hi (ak.len I) aa];exact Y cs I
theorem lX {g:Nat} {k:Nat} (h:bQ w g e k v n xs) (J:v= .slice ν 0 0\/S g):gY S w k v n xs:=by
 obtain⟨h1,⟨rfl,rfl⟩|⟨cap,cs,rfl,U,V,W,Y,X⟩⟩:=h
 .have:xs=[]:=Z2 (by simpa using h1);subst this;exact⟨Ξ,0,0,ν,0,rfl,o8 _,Y9 _,λh=>absurd h (Nat.lt_irrefl _),λh=>by simp at h,λj v h=>by simp at h⟩
 .refine⟨h1,g,0,_,cap,rfl,V,W,λ_=>rfl,λ_=>J.resolve_left Ξ,λj v I=>?_⟩;rw[V1];have aa:=(x4.1 I).1;rw[<-X,Y2 Ω] at I;exact U.cell I
open Classical in
theorem xd {ap av aw:u9} {b:Nat} {x:x1} {us:List (List x1)} {l l':List α} {G:Nat->ai} {K:x1->x2->Prop} (ax:P.underlying t=σ (.slice e)) (ay:P.underlying ap=σ (.slice av)) (hi:aM P e (ak.n α) b z) (aA:z.cells.size=ak.n α)
  (h:bf S R w [v] l) (aB:bT w (ak.n α) x l'.length us.flatten) (ah:kp true R G w us l') (aC:∀i j r,i≠j->G i r->¬G j r)
  (ad:∀r,r<w.heap.size->S r->(∀i,¬G i r)/\¬R r) (aD:(l.length+l'.length)*b<=140737488355328) (aE:l.length+l'.length<=9223372036854775807)
  (aF:∀U w',bf (λr=>S r\/(∃i,G i r)\/w.heap.size<=r) R w' [U] (l++l')->af S w w'->K U w'):az P (l7 #[t,ap] aw #[v,x]) w K:=by
 obtain⟨vs,g,F,aa,he,I,hm⟩:=fZ h;obtain⟨aj,aK,aq⟩:=hm rfl;refine w7 ax ay hi aA aq aB ah.one aD (by simpa[maxLen] using aE) ?_;intro U ae w' aG aH al am;have an:∀r,r=g/\v≠ .slice ν 0 0->S r:=λr ⟨h1,J⟩=>h1▸aj.resolve_left J;have aI:=aq;have ao:(U= .slice ν 0 0)\/(ae=g/\S g/\g<w.heap.size)\/ae=w.heap.size:=by
  rcases aH with⟨h1,_,J|J⟩|⟨h1,_⟩
  .rcases aj with X|X
   .exact .inl (J▸X)
   .obtain⟨_,⟨Y,_⟩|⟨_,_,_,Y,_⟩⟩:=aI
    .exact .inl (J▸Y)
    .exact .inr (.inl ⟨h1,X,Y.lt⟩)
  .exact .inr (.inl ⟨h1,aj.resolve_left J.2,J.1⟩)
  .exact .inr (.inr h1)
 refine aF U w' ⟨U,rfl,vs++us,if U= .slice ν 0 0 then w.heap.size else ae,λi r=>if i<l.length then F i r/\r<w.heap.size else G (i-l.length) r/\r<w.heap.size,⟨λi r h=>?_,λ_ i h=>?_,λ_ i j r aJ h1 J=>?_⟩,⟨by simp[he.1,ah.1],λi c a hi ag=>?_⟩,?_,λ_=>⟨?_,aG,?_⟩⟩ (am.mono λr _ h=>an r h)
 .split at h
  .exact .inl (aa.sub i r h.1)
  .exact .inr (.inl ⟨_,h.1⟩)
 .have ab:(if U= .slice ν 0 0 then w.heap.size else ae)<w.heap.size:=by split at h <;> exact h.2
  split at ab
  .omega
  .rename_i W;rw[if_neg W] at h;rcases ao with h1|⟨rfl,J,X⟩|h1
   .exact W h1
   .split at h
    .exact aa.top rfl i h.1
    .exact (ad _ X J).1 _ h.1
   .omega
 .split at h1 <;> split at J
  .exact aa.gJ rfl i j r aJ h1.1 J.1
  .exact (ad r h1.2 (aa.sub i r h1.1)).1 _ J.1
  .exact (ad r h1.2 (aa.sub j r J.1)).1 _ h1.1
  .exact aC (i-l.length) (j-l.length) r Ω h1.1 J.1
 .have au:∀r,r<w.heap.size->R r->¬(r=g/\v≠ .slice ν 0 0):=λr ac h1 J=>(ad r ac (an r J)).2 h1;by_cases ab:i<l.length
  .rw[j0 (by rw[he.1];exact ab)] at hi;rw[j0 ab] at ag;simp only[if_pos ab];refine ak.V (ko (he.2 i c a hi ag)) am λr ac h1 J=>?_;rcases h1 with h1|h1
   .exact aa.top rfl i (J.1▸h1.1)
   .exact au r ac h1 J
  .rw[Z1 (by rw[he.1];omega),he.1] at hi;rw[Z1 Ω] at ag;simp only[if_neg ab];refine ak.V (ko (ah.2 _ c a hi ag)) am λr ac h1 J=>?_;rcases h1 with h1|h1
   .exact (ad r ac (an r J)).1 _ h1.1
   .exact au r ac h1 J
 .rw[r8,List.flatten_append];refine lX al ?_;rcases ao with h1|⟨rfl,J,_⟩|rfl
  .exact .inl h1
  .exact .inr (.inl (.inl J))
  .exact .inr (.inl (.inr (.inr (o8 _))))
 .rcases ao with h1|⟨rfl,J,_⟩|rfl
  .exact .inl h1
  .by_cases W:U= .slice ν 0 0
   .exact .inl W
   .rw[if_neg W];exact .inr (.inl J)
  .split
   .exact .inr (.inr (.inr (o8 _)))
   .exact .inr (.inr (.inr (o8 _)))
 .rw[r8,List.flatten_append];by_cases W:U= .slice ν 0 0
  .subst W;obtain⟨X,⟨_,Y⟩|⟨_,_,Y,_⟩⟩:=al
   .exact⟨X,.inl ⟨rfl,Y⟩⟩
   .cases Y
  .rw[if_neg W];exact al
theorem lY {ac:u9} {b:Nat} {x:x1} {l:List α} {a:α} {A:ai} {K:x1->x2->Prop} (Y:P.underlying t=σ (.slice e)) (hi:aM P e (ak.n α) b z) (ad:z.cells.size=ak.n α)
  (h:bf S R w [v] l) (ae:bT w (ak.n α) x 1 cs) (ag:bf A R w cs a) (aa:∀r,r<w.heap.size->S r->¬(A r\/R r)) (J:(l.length+1)*b<=140737488355328) (ah:l.length+1<=9223372036854775807)
  (aj:∀U w',bf (λr=>S r\/A r\/w.heap.size<=r) R w' [U] (l++[a])->af S w w'->K U w'):az P (l7 #[t,t] ac #[v,x]) w K:=by
 refine xd (l':=[a]) (us:=[cs]) (G:=λi r=>i=0/\A r) Y Y hi ad h (by simpa using ae) ⟨rfl,λi c b V J=>?_⟩ (λi j r al h1 W=>al (h1.1.trans W.1.symm)) (λr ab I=>⟨λi h=>aa r ab I (.inl h.2),λh=>aa r ab I (.inr h)⟩) (by simpa using J) (by simpa using ah)
  λU w' h1 W=>aj U w' (ak.mono h1 (λr _ h=>h.imp id (Or.imp (λ⟨_,h⟩=>h.2) id)) λ_ _ h=>h) W
 have X:=(x4.1 V).1;have X:i=0:=by simpa using X
 subst X;simp at V J;subst V J;exact ak.mono ag (λr _ h=>⟨rfl,h⟩) λ_ _ h=>h
end
theorem xe:∀ (c:List x1) (i:Nat) (z:Array x1),(i+c.length<=z.size)->((c.zipIdx i).foldl (λcs (x:x1×Nat)=>cs.setIfInBounds x.2 x.1) z).toList=z.toList.take i++c++z.toList.drop (i+c.length)
 |[],i,z,h=>Ξ
 |x::r,i,z,h=>by
  simp only[j5] at h;rw[List.zipIdx_cons,List.foldl_cons,xe r (i+1) _ Θ];simp only[Array.toList_setIfInBounds,j5];rw[List.drop_set_of_lt Ω,List.take_set,r9,y0 Θ];simp only[Z9];rw[U6 _ _ Θ];have e:i-(z.toList.take i).length=0:=Θ
  rw[e,show i+1+r.length=i+(r.length+1) by omega];simp
theorem xf {k:Nat} {z:Array x1} (I:z.size=k) (J:v.cells.size=k):Instr.fill (λj=>σ (j*k,k)) z [(0,v)]=σ v.cells:=by
 have h:=xe v.cells.toList 0 z Θ;simp only[Instr.fill,Nat.zero_mul,V1];rw[if_neg Θ];congr 1;apply Array.toList_inj.1;rw[<-Array.foldl_toList,Array.toList_zipIdx,h];simp;omega
section
variable {P:W5} {w:x2} {α β:Type} [ak α] [ak β] {m:Bool} {S R:ai}
theorem gK {b:Nat} {x:x1} {a:α} {A:ai} {K:x1->x2->Prop} (Y:P.underlying t=σ (.slice e)) (hi:aM P e (ak.n α) b z) (ah:ak.n α<=100000)
  (U:x.cells=cs.toArray) (V:bf A R w cs a)
  (aa:∀v w',Ext w w'->bf (λr=>A r\/w.heap.size<=r) R w' [v] [a]->bT w' (ak.n α) v 1 cs->K v w'):az P (Z7 t 1 #[(0,x)]) w K:=by
 have ab:=ak.len V;refine il Y hi Ω (cs:=x.cells) (xf Ξ (by rw[U];simpa using ab)) λg w' aj W I=>?_;have I:ae w' g e cs:=by rw[U] at I;simpa using I
 have hm:bQ w' g e (ak.n α) (.slice (σ ⟨g,0,ν⟩) 1 1) 1 cs:=bQ.full I Ω (by simp[maxLen]);refine aa _ w' W ⟨_,rfl,[cs],g,λi r=>i=0/\A r/\r<w.heap.size,⟨λi r h=>.inl h.2.1,λ_ i h=>Ω,λ_ i j r ac h1 ad=>ac (h1.1.trans ad.1.symm)⟩,⟨rfl,λi c a' J X=>?_⟩,?_,λ_=>⟨.inr (.inr Ω),e,by simpa using hm⟩⟩ hm.sl
 .have af:i=0:=by simpa using (x4.1 J).1
  subst af;simp at J X;subst J X;exact be (ak.mono V (λr ag h=>⟨rfl,h,ag⟩) λ_ _ h=>h) W
 .have:=lX (S:=λr=>(A r\/w.heap.size<=r)\/R r) hm (.inr (.inl (.inr Ω)));simpa using this
end
theorem bZ.range {B:x1->x2->(x1->x2->Prop)->Prop} (n:Nat) (I:Nat->x2->Prop)
  (X:n<=9223372036854775807) (U:I 0 w)
  (V:∀ (i:Nat) (w:x2) (k:x1->x2->Prop),i<n->I i w->(∀w',I (i+1) w'->k (Δ (Y5.wrap ((i:Int)+1))) w')->B (Δ (i:Int)) w k)
  (W:∀ (w:x2) (k:x1->x2->Prop),I n w->B (Δ (n:Int)) w k):bZ (Δ 0) w B:=by
 refine⟨λt w=>∃i:Nat,t=Δ (i:Int)/\i<=n/\I i w,λt _=>n-(bL t).toNat,⟨0,rfl,Y9 _,U⟩,?_⟩;rintro _ w ⟨i,rfl,hi,h⟩;by_cases J:i<n
 .refine V i w _ J h λw' h'=>⟨⟨i+1,?_,J,h'⟩,?_⟩
  .rw[wrap_i64 Ω Ω];rfl
  .rw[wrap_i64 Ω Ω];simp only[bL];omega
 .have:i=n:=Ω
  subst this;exact W w _ h
theorem bC.range {a:x1} {B:x1->x1->x2->(x1->x1->x2->Prop)->Prop} (n:Nat) (I:Nat->x1->x2->Prop)
  (X:n<=9223372036854775807) (U:I 0 a w)
  (V:∀ (i:Nat) (a:x1) (w:x2) (k:x1->x1->x2->Prop),i<n->I i a w->(∀a' w',I (i+1) a' w'->k a' (Δ (Y5.wrap ((i:Int)+1))) w')->B a (Δ (i:Int)) w k)
  (W:∀ (a:x1) (w:x2) (k:x1->x1->x2->Prop),I n a w->B a (Δ (n:Int)) w k):bC a (Δ 0) w B:=by
 refine⟨λa t w=>∃i:Nat,t=Δ (i:Int)/\i<=n/\I i a w,λa t _=>n-(bL t).toNat,⟨0,rfl,Y9 _,U⟩,?_⟩;rintro a _ w ⟨i,rfl,hi,h⟩;by_cases J:i<n
 .refine V i a w _ J h λa' w' h'=>⟨⟨i+1,?_,J,h'⟩,?_⟩
  .rw[wrap_i64 Ω Ω];rfl
  .rw[wrap_i64 Ω Ω];simp only[bL];omega
 .have:i=n:=Ω
  subst this;exact W a w _ h
theorem kX.range {a b:x1} {B:x1->x1->x1->x2->(x1->x1->x1->x2->Prop)->Prop} (n:Nat) (I:Nat->x1->x1->x2->Prop)
  (Y:n<=9223372036854775807) (V:I 0 a b w)
  (W:∀ (i:Nat) (a b:x1) (w:x2) (k:x1->x1->x1->x2->Prop),i<n->I i a b w->(∀a' J w',I (i+1) a' J w'->k a' J (Δ (Y5.wrap ((i:Int)+1))) w')->B a b (Δ (i:Int)) w k)
  (X:∀ (a b:x1) (w:x2) (k:x1->x1->x1->x2->Prop),I n a b w->B a b (Δ (n:Int)) w k):kX a b (Δ 0) w B:=by
 refine⟨λa b t w=>∃i:Nat,t=Δ (i:Int)/\i<=n/\I i a b w,λa b t _=>n-(bL t).toNat,⟨0,rfl,Y9 _,V⟩,?_⟩;rintro a b _ w ⟨i,rfl,hi,h⟩;by_cases U:i<n
 .refine W i a b w _ U h λa' J w' h'=>⟨⟨i+1,?_,U,h'⟩,?_⟩
  .rw[wrap_i64 Ω Ω];rfl
  .rw[wrap_i64 Ω Ω];simp only[bL];omega
 .have:i=n:=Ω
  subst this;exact X a b w _ h
theorem p0.range {a b c:x1} {B:x1->x1->x1->x1->x2->(x1->x1->x1->x1->x2->Prop)->Prop} (n:Nat) (I:Nat->x1->x1->x1->x2->Prop)
  (aa:n<=9223372036854775807) (W:I 0 a b c w)
  (X:∀ (i:Nat) (a b c:x1) (w:x2) (k:x1->x1->x1->x1->x2->Prop),i<n->I i a b c w->(∀a' J U w',I (i+1) a' J U w'->k a' J U (Δ (Y5.wrap ((i:Int)+1))) w')->B a b c (Δ (i:Int)) w k)
  (Y:∀ (a b c:x1) (w:x2) (k:x1->x1->x1->x1->x2->Prop),I n a b c w->B a b c (Δ (n:Int)) w k):p0 a b c (Δ 0) w B:=by
 refine⟨λa b c t w=>∃i:Nat,t=Δ (i:Int)/\i<=n/\I i a b c w,λa b c t _=>n-(bL t).toNat,⟨0,rfl,Y9 _,W⟩,?_⟩;rintro a b c _ w ⟨i,rfl,hi,h⟩;by_cases V:i<n
 .refine X i a b c w _ V h λa' J U w' h'=>⟨⟨i+1,?_,V,h'⟩,?_⟩
  .rw[wrap_i64 Ω Ω];rfl
  .rw[wrap_i64 Ω Ω];simp only[bL];omega
 .have:i=n:=Ω
  subst this;exact Y a b c w _ h
theorem mN.range {a b c d:x1} {B:x1->x1->x1->x1->x1->x2->(x1->x1->x1->x1->x1->x2->Prop)->Prop} (n:Nat) (I:Nat->x1->x1->x1->x1->x2->Prop)
  (ab:n<=9223372036854775807) (X:I 0 a b c d w)
  (Y:∀ (i:Nat) (a b c d:x1) (w:x2) (k:x1->x1->x1->x1->x1->x2->Prop),i<n->I i a b c d w->(∀a' J U V w',I (i+1) a' J U V w'->k a' J U V (Δ (Y5.wrap ((i:Int)+1))) w')->B a b c d (Δ (i:Int)) w k)
  (aa:∀ (a b c d:x1) (w:x2) (k:x1->x1->x1->x1->x1->x2->Prop),I n a b c d w->B a b c d (Δ (n:Int)) w k):mN a b c d (Δ 0) w B:=by
 refine⟨λa b c d t w=>∃i:Nat,t=Δ (i:Int)/\i<=n/\I i a b c d w,λa b c d t _=>n-(bL t).toNat,⟨0,rfl,Y9 _,X⟩,?_⟩;rintro a b c d _ w ⟨i,rfl,hi,h⟩;by_cases W:i<n
 .refine Y i a b c d w _ W h λa' J U V w' h'=>⟨⟨i+1,?_,W,h'⟩,?_⟩
  .rw[wrap_i64 Ω Ω];rfl
  .rw[wrap_i64 Ω Ω];simp only[bL];omega
 .have:i=n:=Ω
  subst this;exact aa a b c d w _ h
section
variable {P:W5} {w:x2} {m:Bool} {S R:ai}
theorem E5 (l:List Int):(l.map λx=>[V2 k x]).flatten=ints k l:=by
 induction l with
 |nil=>rfl
 |cons x l I=>simp only[S2,List.flatten_cons,I];rfl
theorem lZ {g:Nat} (h:aq .i64 e w g v l):bf (λr=>r=g) R w [v] l:=by
 have J:(l.map λx=>[V2 .i64 x]).flatten=ints .i64 l:=E5 l;refine⟨v,rfl,l.map λx=>[Δ x],g,λ_ _=>False,⟨λ_ _ h=>h.elim,λ_ _ h=>h,λ_ _ _ _ _ h=>h.elim⟩,⟨Ξ,λi c a I U=>?_⟩,?_,λ_=>⟨.inr rfl,e,?_⟩⟩
 .rw[x8,U] at I;simp at I;exact I.symm
 .rw[J];exact lX h (.inr (.inl rfl))
 .rw[J];exact h
def cY.val (x:cY k):Int:=x
theorem E6 (h:bf S R w [v] l):∃g e,aq .i64 e w g v l/\(v= .slice ν 0 0\/S g):=by
 obtain⟨vs,g,F,_,he,I,hm⟩:=fZ h;obtain⟨h1,e,J⟩:=hm rfl;rw[xc he] at J;exact⟨g,e,J,h1⟩
end
end Go.Vc
namespace Go.Proofs.YtgbkinibgjmodaaGreatDoor
open Go Go.Vc Go.RowKit Go.Proofs Go.Proofs.Tryz
set_option maxRecDepth 100000
def right (k:Int):Prop:=1<=k/\k<=2147483648
def cL (a k:Int):Prop:=right k/\0<=a/\a<=k
instance (k:Int):Decidable (right k):=by unfold right;infer_instance
instance (a k:Int):Decidable (cL a k):=by unfold cL;infer_instance
theorem xg {k:Int}:aj x3 Ee [Δ k] w λv w'=>v= .bool (decide (right k))/\Ext w w':=by
 refine aA func226 ?_;simp only[bx,cb,lN,ad];refine⟨λh=>⟨?_,Ext.refl _⟩,λh=>⟨?_,Ext.refl _⟩⟩
 .congr 1;simp[right,h]
 .rw[decide_eq_false];intro I;exact h I.1
theorem kq {k:Int}:aj x3 DD [Δ a,Δ k] w λv w'=>v= .bool (decide (cL a k))/\Ext w w':=by
 refine aA func167 ?_;simp only[bx];refine xg.mono ?_;rintro _ U _ ⟨rfl,I⟩;simp only[cb,lN,ad];refine⟨λh=>⟨λJ=>⟨?_,I⟩,λJ=>⟨?_,I⟩⟩,λh=>⟨?_,I⟩⟩
 .congr 1;simp[cL,h,J]
 .rw[decide_eq_false];intro V;exact J V.2.1
 .rw[decide_eq_false];intro V;exact h V.1
theorem E7 {k:Int}:aj x3 DE [Δ k] w λv w'=>v= .bool (decide (right k))/\Ext w w':=by
 refine aA func168 ?_;simp only[bx,bP,lN,ad];refine⟨λh=>⟨?_,Ext.refl _⟩,λh=>⟨?_,Ext.refl _⟩⟩
 .congr 1;have h':1<=k:=Ω
  simp[right,h']
 .rw[decide_eq_false];intro I;have:=I.1;omega
theorem E8 {k:Int}:aj x3 wu [Δ a,Δ k] w λv w'=>v= .bool (decide (cL a k))/\Ext w w':=by
 refine aA func83 ?_;simp only[bx];refine E7.mono ?_;rintro _ U _ ⟨rfl,I⟩;simp only[cb,lN,ad];refine⟨λh=>⟨λJ=>⟨?_,I⟩,λJ=>⟨?_,I⟩⟩,λh=>⟨?_,I⟩⟩
 .congr 1;simp[cL,h,J]
 .rw[decide_eq_false];intro V;exact J V.2.1
 .rw[decide_eq_false];intro V;exact h V.1
end Go.Proofs.YtgbkinibgjmodaaGreatDoor
namespace Go.Proofs.YtgbkinibgjmodaaGreatDoor
open Go Go.Vc Go.RowKit Go.Proofs Go.Proofs.Tryz
set_option maxRecDepth 100000
def aL:List Int->Int
 |[]=>1
 |x::r=>x*aL r
theorem xh:∀ (a b:List Int),aL (a++b)=aL a*aL b
 |[],b=>by simp[aL]
 |x::a,b=>by simp[aL,xh a b,Int.mul_assoc]
theorem jA {i:Nat} {x:Int} (h:l[i]? =σ x):aL (l.take (i+1))=aL (l.take i)*x:=by
 rw[r9,h,xh];simp[aL]
def bR (l:List Int):Prop:=l.length<=6/\ ∀x∈l,1<=x/\x<=32
theorem bR.take (h:bR l) (i:Nat):bR (l.take i):=⟨by rw[o7];have:=h.1;omega,λx I=>h.2 x (T2 I)⟩
theorem bR.drop (h:bR l) (i:Nat):bR (l.drop i):=⟨by rw[R0];have:=h.1;omega,λx I=>h.2 x (List.mem_of_mem_drop I)⟩
theorem ow:∀ (l:List Int),(∀x∈l,1<=x/\x<=32)->1<=aL l/\aL l<=32 ^ l.length
 |[],_=>by simp[aL]
 |x::r,h=>by
  obtain⟨h1,I⟩:=ow r λy J=>h y (.tail _ J);obtain⟨U,V⟩:=h x (.head _);simp only[aL,j5];constructor
  .have:=Int.mul_le_mul U h1 Ω Ω;simpa using this
  .have:=Int.mul_le_mul V I Ω Ω;rw[Int.pow_succ];rw[Int.mul_comm (32 ^ r.length) 32];exact this
theorem prod_bound (h:bR l):1<=aL l/\aL l<=1073741824:=by
 obtain⟨h1,I⟩:=ow l h.2;refine⟨h1,Int.le_trans I ?_⟩;have:(32:Int) ^ l.length<=32 ^ 6:=by
  have J:=h.1
  match l.length,J with
  |0,_=>decide
  |1,_=>decide
  |2,_=>decide
  |3,_=>decide
  |4,_=>decide
  |5,_=>decide
  |6,_=>decide
 simpa using this
def cq:List Int->List Int->Int->Option Int
 |[],[],n=>σ n
 |k::s,v::t,n=>if 0<=v/\v<k then cq s t (n*k+v) else ν
 |_,_,_=>ν
theorem sT:∀ (s t:List Int) (n:Int),s.length≠t.length->cq s t n=ν
 |[],[],_,h=>absurd rfl h
 |[],_::_,_,_=>rfl
 |_::_,[],_,_=>rfl
 |k::s,v::t,n,h=>by
  unfold cq;split
  .exact sT s t _ (by simpa using h)
  .rfl
def cH:List Int->Int->List Int
 |[],_=>[]
 |k::s,n=>(n / aL s) % k::cH s n
theorem h0:∀ (s:List Int) (n:Int),(cH s n).length=s.length
 |[],_=>rfl
 |_::s,n=>by simp[cH,h0 s n]
theorem xi:∀ {s:List Int} {n:Int} {i:Nat} {k:Int},s[i]? =σ k->(cH s n)[i]? =σ ((n / aL (s.drop (i+1))) % k)
 |I::s,n,0,k,h=>by simp at h;subst h;simp[cH]
 |I::s,n,i+1,k,h=>by
  simp only[List.getElem?_cons_succ] at h;simp only[cH,List.getElem?_cons_succ,List.drop_succ_cons];exact xi h
theorem l0:∀ {s t:List Int} {m n:Int},(∀x∈s,1<=x/\x<=32)->cq s t m=σ n->m*aL s<=n/\n<(m+1)*aL s
 |[],[],m,n,_,h=>by simp[cq] at h;subst h;simp[aL];omega
 |k::s,v::t,m,n,I,h=>by
  unfold cq at h;split at h
  .rename_i X;have U:=l0 (λx J=>I x (.tail _ J)) h;have Y:=(ow s λx J=>I x (.tail _ J)).1;simp only[aL];have V:m*(k*aL s)=m*k*aL s:=(Int.mul_assoc _ _ _).symm;have W:(m+1)*(k*aL s)=(m*k+k)*aL s:=by rw[<-Int.mul_assoc,Int.add_mul,Int.one_mul]
   rw[V,W];constructor
   .refine Int.le_trans ?_ U.1;exact Int.mul_le_mul_of_nonneg_right Ω Ω
   .refine Int.lt_of_lt_of_le U.2 ?_;exact Int.mul_le_mul_of_nonneg_right Ω Ω
  .cases h
 |[],_::_,_,_,_,h=>by cases h
 |_::_,[],_,_,_,h=>by cases h
end Go.Proofs.YtgbkinibgjmodaaGreatDoor
namespace Go.Proofs.YtgbkinibgjmodaaGreatDoor
open Go Go.Vc Go.RowKit Go.Proofs Go.Proofs.Tryz
set_option maxRecDepth 100000
def bu:List Int->List (List Int)
 |[]=>[[]]
 |k::s=>(X9 k.toNat).flatMap λ(v:Nat)=>(bu s).map λt=>(v:Int)::t
theorem h2:∀ {s:List Int},(∀x∈s,1<=x/\x<=32)->(bu s).length=(aL s).toNat
 |[],_=>rfl
 |k::s,h=>by
  have J:=h2 (s:=s) λx I=>h x (.tail _ I);have U:=h k (.head _);have V:=(ow s λx I=>h x (.tail _ I)).1;simp only[bu,aL,List.length_flatMap,u5,J];rw[List.map_const',List.length_range,List.sum_replicate_nat,Int.toNat_mul Ω Ω]
theorem sU:∀ {s x:List Int},x∈bu s->x.length=s.length
 |[],x,h=>by simp[bu] at h;subst h;rfl
 |k::s,x,h=>by
  simp only[bu,List.mem_flatMap,Z5] at h;obtain⟨v,_,t,I,rfl⟩:=h;simp[sU I]
theorem E9 {s x:List Int} (h:(bu s)[j]? =σ x):x.length=s.length:=sU (x6 h)
end Go.Proofs.YtgbkinibgjmodaaGreatDoor
namespace Go.Proofs.YtgbkinibgjmodaaGreatDoor
open Go Go.Vc Go.RowKit Go.Proofs Go.Proofs.Tryz
set_option maxRecDepth 100000
theorem sV (h:aI .i64 w sv l) (I:bR l):
  aj x3 wy [sv] w λv w'=>v=Δ (aL l)/\Ext w w':=by
 refine aA func87 ?_;rw[aS ah.u h];refine⟨λn t U=>Ext w U/\ ∃i:Nat,t=Δ i/\i<=l.length/\n=Δ (aL (l.take i)),λ_ t _=>l.length-(bL t).toNat,⟨Ext.refl _,0,rfl,Y9 _,rfl⟩,?_⟩;rintro _ _ U ⟨J,i,rfl,hi,rfl⟩;have X:=I.1;simp only[ao,ad];refine⟨λY=>?_,λaa=>⟨?_,J⟩⟩
 .obtain⟨x,V⟩:∃x,l[i]? =σ x:=⟨_,y0 Ω⟩;rw[bc ah.u ab.i Ψ (h.ext J) V];have W:=prod_bound (I.take (i+1));rw[jA V] at W;simp only[fp,aN];rw[wrap_i64 Ω Ω,wrap_i64 Ω Ω,<-jA V];refine⟨⟨J,i+1,rfl,Ω,rfl⟩,?_⟩;simp only[bL];omega
 .have:i=l.length:=Ω
  rw[this,o9]
theorem m9 (h:aI .i64 w sv l) (I:bR l):
  aj x3 DI [.agg #[sv]] w λv w'=>v=Δ (aL l)/\Ext w w':=by
 refine aA func173 ?_;refine bM λg w0 ae W X=>?_;rw[aa bo.p rfl,ac Ψ (X.cell (o:=0+0) rfl),aS ah.u (h.ext W)];refine⟨λn t U=>Ext w U/\ ∃i:Nat,t=Δ i/\i<=l.length/\n=Δ (aL (l.take i)),λ_ t _=>l.length-(bL t).toNat,⟨W,0,rfl,Y9 _,rfl⟩,?_⟩;rintro _ _ U ⟨J,i,rfl,hi,rfl⟩;have af:=I.1;simp only[ao,ad];refine⟨λag=>?_,λai=>⟨?_,J⟩⟩
 .obtain⟨x,V⟩:∃x,l[i]? =σ x:=⟨_,y0 Ω⟩;rw[bc ah.u ab.i Ψ (h.ext J) V];have Y:=prod_bound (I.take (i+1));rw[jA V] at Y;simp only[fp,aN];rw[wrap_i64 Ω Ω,wrap_i64 Ω Ω,<-jA V];refine⟨⟨J,i+1,rfl,Ω,rfl⟩,?_⟩;simp only[bL];omega
 .have:i=l.length:=Ω
  rw[this,o9]
theorem Fa {i:Nat} (h:aI .i64 w sv l) (I:bR l) (hi:i<l.length):
  aj x3 Ei [.agg #[sv],Δ i] w λv w'=>v=Δ (aL (l.drop (i+1)))/\Ext w w':=by
 have ai:=I.1;refine aA func240 ?_;refine bM λg w0 ak V W=>?_;have J:=h.ext V;simp only[bx,ao,ad];refine⟨λal=>Ω,λ_=>?_⟩;rw[aa bo.p rfl,ac Ψ (W.cell (o:=0+0) rfl),aS ah.u J];simp only[cb,ad];refine⟨λam=>Ω,λ_=>?_⟩;rw[aa bo.p rfl,ac Ψ (W.cell (o:=0+0) rfl)];simp only[aN];have X:Y5.wrap ((i:Int)+1)=((i+1:Nat):Int):=by rw[wrap_i64 Ω Ω];omega
 rw[X];have Y:=J;obtain⟨_,b,o,base,cap,rfl,an,ap,aq,au⟩:=id J;rw[fq ah.u ab.i (l:=i+1) (h:=l.length) (m:=cap) lO hx er Ω Ω Ω];have U:=bT.part (l:=i+1) (h:=l.length) (m:=cap) Y Ω Ω Ω Ω;generalize ae:(x1.slice (if cap=i+1 then base else V7 (λx=>x.add ((i+1)*1)) base) (l.length-(i+1)) (cap-(i+1)))=q at U ⊢;have af:((ints .i64 l).drop ((i+1)*1)).take ((l.length-(i+1))*1)=ints .i64 (l.drop (i+1)):=by
  rw[Z0 Ξ,T4,ints,<-List.map_drop]
 rw[af] at U;rw[cR (cs:=#[q]) (by subst ae;kernel_rfl)];refine (m9 (aI.of U) (I.drop (i+1))).mono ?_;rintro _ av _ ⟨rfl,ag⟩;exact⟨rfl,V.trans ag⟩
def jB (s t:List Int):x1:=match cq s t 0 with
 |some n=>.tuple #[Δ n,Δ 0]
 |none=>.tuple #[Δ 0,Δ 3]
theorem xj {s t:List Int} (h:aI .i64 w sv s) (ae:aI .i64 w aD t) (I:bR s):
  aj x3 DT [.agg #[sv],aD] w λv w'=>v=jB s t/\Ext w w':=by
 have au:=I.1;refine aA func194 ?_;refine bM λg w0 av V af=>?_;rw[aS ah.u (ae.ext V),aa bo.p rfl,ac Ψ (af.cell (o:=0+0) rfl),aS ah.u (h.ext V)];simp only[bB,ad];refine⟨λaw=>⟨?_,V⟩,λai=>?_⟩
 .unfold jB;rw[sT _ _ _ Ω]
 .have ai:s.length=t.length:=Ω
  rw[aS ah.u (ae.ext V)];refine⟨λ_ _ n c U=>Ext w0 U/\ ∃ (i:Nat) (m:Int),c=Δ i/\i<=t.length/\n=Δ m/\0<=m/\m<aL (s.take i)/\cq s t 0=cq (s.drop i) (t.drop i) m,λ_ _ _ c _=>t.length-(bL c).toNat,
   ⟨Ext.refl _,0,0,rfl,Y9 _,rfl,Int.le_refl _,by simp[aL],rfl⟩,?_⟩
  rintro _ _ _ _ U ⟨Y,i,m,rfl,hi,rfl,ak,ax,W⟩;have J:=V.trans Y;simp only[ao,ad];refine⟨λay=>?_,λaz=>⟨?_,J⟩⟩
  .obtain⟨v,al,am⟩:∃v,t[i]? =σ v/\t.drop i=v::t.drop (i+1):=⟨t[i],y0 Ω,W8 Ω⟩;obtain⟨k,X,an⟩:∃k,s[i]? =σ k/\s.drop i=k::s.drop (i+1):=⟨s[i],y0 Ω,W8 Ω⟩;rw[am,an] at W;have ap:=prod_bound (I.take (i+1));have aB:=prod_bound (I.take i);have aC:=I.2 k (x6 X);rw[jA X] at ap;have ag:¬(0<=v/\v<k)->jB s t= .tuple #[Δ 0,Δ 3]:=λaq=>by unfold jB;rw[W];simp[cq,aq]
   rw[bc ah.u ab.i Ψ (ae.ext J) al];simp only[bx,ao,ad,bO];refine⟨λaE=>⟨(ag Ω).symm,J⟩,λaF=>?_⟩;rw[aa bo.p rfl,ac Ψ ((af.ext Y).cell (o:=0+0) rfl),bc ah.u ab.i Ψ (h.ext J) X];simp only[cb,ad];refine⟨λaG=>⟨(ag Ω).symm,J⟩,λaH=>?_⟩;rw[aa bo.p rfl,ac Ψ ((af.ext Y).cell (o:=0+0) rfl),bc ah.u ab.i Ψ (h.ext J) X];have aJ:0<=m*k/\m*k+k<=aL (s.take i)*k:=by
    constructor
    .exact Int.mul_nonneg ak Ω
    .have:=Int.mul_le_mul_of_nonneg_right (show m+1<=aL (s.take i) by omega) (show 0<=k by omega);rw[Int.add_mul,Int.one_mul] at this;exact this
   simp only[fp,aN];rw[wrap_i64 (x:=m*k) Ω Ω,wrap_i64 (x:=m*k+v) Ω Ω,wrap_i64 (x:=(i:Int)+1) Ω Ω];refine⟨⟨Y,i+1,m*k+v,rfl,Ω,rfl,Ω,by rw[jA X];omega,?_⟩,?_⟩
   .rw[W];simp[cq,show 0<=v/\v<k from⟨Ω,Ω⟩]
   .simp only[bL];omega
  .have:i=t.length:=Ω
   rw[this,List.drop_of_length_le Ω,List.drop_of_length_le Ω] at W;unfold jB;rw[W];rfl
end Go.Proofs.YtgbkinibgjmodaaGreatDoor
namespace Go.Proofs.YtgbkinibgjmodaaGreatDoor
open Go Go.Vc Go.RowKit Go.Proofs Go.Proofs.Tryz
set_option maxRecDepth 100000
theorem Fb {af:x1} {a b:List Int} (h1:bT w 1 s1 I (ints .i64 a)) (ag:bT w 1 af W (ints .i64 b)):
  aj x3 wA [s1,af] w λv w'=>v= .bool (decide (a=b))/\Ext w w':=by
 have ay:a.length=I:=by simpa using h1.1
 have az:b.length=W:=by simpa using ag.1
 have ai:=h1.le;obtain⟨_,aB,aC,aD,aE,rfl,aF,aG,am,an⟩:=h1;obtain⟨_,aH,aI,aJ,aK,rfl,aL,aM,ap,aq⟩:=ag;refine aA func116 ?_;simp only[gv ah.u,bB,ad];refine⟨λak=>⟨?_,Ext.refl _⟩,λal=>?_⟩
 .rw[decide_eq_false];rintro rfl;omega
 .have al:I=W:=Ω
  refine⟨λt4 X U=>Ext w U/\ ∃i:Nat,X=Δ i/\i<=I/\a.take i=b.take i,λ_ X _=>I-(bL X).toNat,⟨Ext.refl _,0,rfl,Y9 _,rfl⟩,?_⟩;rintro t4 _ U ⟨J,i,rfl,hi,Y⟩;simp only[ao,ad,cj];refine⟨λaa aO au _ _=>?_,λaP=>⟨?_,J⟩⟩
  .have aa:i<I:=Ω
   have J:=J.trans au;obtain⟨x,ae⟩:∃x,a[i]? =σ x:=⟨_,y0 Ω⟩;obtain⟨y,V⟩:∃y,b[i]? =σ y:=⟨_,y0 Ω⟩;have av:=lM J (an i _ (jx ae));have aw:=lM J (aq i _ (jx V));rw[fc ah.u ab.i aa am,T4,ac Ψ av,fc ah.u ab.i (al▸aa) ap,T4,ac Ψ aw];simp only[bB,ad,aN];refine⟨λak=>⟨?_,J⟩,λaQ=>⟨⟨J,i+1,?_,Ω,sR Y ae V Ω⟩,?_⟩⟩
   .rw[decide_eq_false];rintro rfl;rw[ae] at V;cases V;exact ak rfl
   .rw[wrap_i64 Ω (by simp only[maxLen] at ai;omega)];rfl
   .rw[wrap_i64 Ω (by simp only[maxLen] at ai;omega)];simp only[bL];omega
  .have ax:i=I:=Ω
   subst ax;rw[decide_eq_true];rw[Z0 Ω,Z0 Ω] at Y;exact Y
theorem Fc {s:x1} {a:List Int} (h1:bT w 1 s n (ints .i64 a)) (ae:n<=1000000):
  aj x3 qj [s] w λv w'=>Ext w w'/\ ∃g,w.heap.size<=g/\bQ w' g ab 1 v n (ints .i64 a):=by
 have V:=h1;obtain⟨W,af,ag,ai,ak,rfl,al,am,X,an⟩:=h1;refine aA func22 ?_;simp only[qx ah.u,bH];refine⟨λJ=>⟨Ext.refl _,w.heap.size,o8 _,?_⟩,λ_=>?_⟩
 .have:n=0:=by
   rcases Nat.eq_zero_or_pos n with h|h
   .exact h
   .rw[X h] at J;cases J
  subst this;have:ints .i64 a=[]:=Z2 (by simpa using W);rw[this];exact bQ.nil _ _ _ _
 .refine il ah.u ab.i Ω (cs:=#[]) Ψ ?_;intro g U ao I Y;refine lU (g:=g) ah.u ah.u ab.i rfl (bQ.full Y rfl Ω) (V.ext I) (ot _ _) Ω (by simp only[maxLen];omega) ?_;intro ap aa aq au ac ad;refine⟨I.then ad (by rintro r av rfl;omega),aa,?_,?_⟩
  .have:=I.size;omega
  .simpa using ac
theorem Fe {ae:x1} {a b:List Int} (h1:bT w 1 s1 I (ints .i64 a)) (af:bT w 1 ae W (ints .i64 b)):
  aj x3 wk [s1,ae] w λv w'=>v= .bool (decide (a=b))/\Ext w w':=by
 have ay:a.length=I:=by simpa using h1.1
 have az:b.length=W:=by simpa using af.1
 have ag:=h1.le;obtain⟨_,aB,aC,aD,aE,rfl,aF,aG,ak,al⟩:=h1;obtain⟨_,aH,aI,aJ,aK,rfl,aL,aM,am,ap⟩:=af;refine aA func42 ?_;simp only[gv ax.u,bB,ad];refine⟨λah=>⟨?_,Ext.refl _⟩,λai=>?_⟩
 .rw[decide_eq_false];rintro rfl;omega
 .have ai:I=W:=Ω
  refine⟨λt4 X U=>Ext w U/\ ∃i:Nat,X=Δ i/\i<=I/\a.take i=b.take i,λ_ X _=>I-(bL X).toNat,⟨Ext.refl _,0,rfl,Y9 _,rfl⟩,?_⟩;rintro t4 _ U ⟨J,i,rfl,hi,Y⟩;simp only[ao,ad,cj];refine⟨λaa aO aq _ _=>?_,λaP=>⟨?_,J⟩⟩
  .have aa:i<I:=Ω
   have J:=J.trans aq;obtain⟨x,ab⟩:∃x,a[i]? =σ x:=⟨_,y0 Ω⟩;obtain⟨y,V⟩:∃y,b[i]? =σ y:=⟨_,y0 Ω⟩;have au:=lM J (al i _ (jx ab));have av:=lM J (ap i _ (jx V));rw[fc ax.u an.i aa ak,T4,ac Ψ au,fc ax.u an.i (ai▸aa) am,T4,ac Ψ av];simp only[bB,ad,aN];refine⟨λah=>⟨?_,J⟩,λaQ=>⟨⟨J,i+1,?_,Ω,sR Y ab V Ω⟩,?_⟩⟩
   .rw[decide_eq_false];rintro rfl;rw[ab] at V;cases V;exact ah rfl
   .rw[wrap_i64 Ω (by simp only[maxLen] at ag;omega)];rfl
   .rw[wrap_i64 Ω (by simp only[maxLen] at ag;omega)];simp only[bL];omega
  .have aw:i=I:=Ω
   subst aw;rw[decide_eq_true];rw[Z0 Ω,Z0 Ω] at Y;exact Y
theorem Ff {s:x1} {a:List Int} (h1:bT w 1 s n (ints .i64 a)) (ad:n<=1000000):
  aj x3 wM [s] w λv w'=>Ext w w'/\ ∃g,w.heap.size<=g/\bQ w' g an 1 v n (ints .i64 a):=by
 have V:=h1;obtain⟨W,ae,af,ag,ah,rfl,ai,ak,X,al⟩:=h1;refine aA func191 ?_;simp only[qx ax.u,bH];refine⟨λJ=>⟨Ext.refl _,w.heap.size,o8 _,?_⟩,λ_=>?_⟩
 .have:n=0:=by
   rcases Nat.eq_zero_or_pos n with h|h
   .exact h
   .rw[X h] at J;cases J
  subst this;have:ints .i64 a=[]:=Z2 (by simpa using W);rw[this];exact bQ.nil _ _ _ _
 .refine il ax.u an.i Ω (cs:=#[]) Ψ ?_;intro g U am I Y;refine lU (g:=g) ax.u ax.u an.i rfl (bQ.full Y rfl Ω) (V.ext I) (ot _ _) Ω (by simp only[maxLen];omega) ?_;intro ao aa ap aq ab ac;refine⟨I.then ac (by rintro r au rfl;omega),aa,?_,?_⟩
  .have:=I.size;omega
  .simpa using ab
theorem kr {I:x1} {a b:List Int} (h1:aI .i64 w s1 a) (J:aI .i64 w I b):
  aj x3 wA [s1,I] w λv w'=>v= .bool (decide (a=b))/\Ext w w':=Fb h1 J
theorem hA {s:x1} {a:List Int} (h1:aI .i64 w s a) (I:a.length<=1000000):
  aj x3 qj [s] w λv w'=>Ext w w'/\ ∃g,w.heap.size<=g/\aq .i64 ab w' g v a:=Fc h1 I
theorem Fg {I:x1} {a b:List Int} (h1:aI .i64 w s1 a) (J:aI .i64 w I b):
  aj x3 wk [s1,I] w λv w'=>v= .bool (decide (a=b))/\Ext w w':=Fe h1 J
theorem sW {s:x1} {a:List Int} (h1:aI .i64 w s a) (I:a.length<=1000000):
  aj x3 wM [s] w λv w'=>Ext w w'/\ ∃g,w.heap.size<=g/\aq .i64 an w' g v a:=Ff h1 I
end Go.Proofs.YtgbkinibgjmodaaGreatDoor
namespace Go.Proofs.YtgbkinibgjmodaaGreatDoor
open Go Go.Vc Go.RowKit Go.Proofs Go.Proofs.Tryz
set_option maxRecDepth 100000
theorem Fh {n:Int} (h:aI .i64 w sv l) (I:bR l) (af:0<=n) (aK:n<aL l):
  aj x3 DP [.agg #[sv],Δ n] w λv w'=>Ext w w'/\ ∃aD g,v= .tuple #[aD,Δ 0]/\w.heap.size<=g/\aq .i64 ab w' g aD (cH l n):=by
 have aM:=I.1;have aO:=prod_bound I;refine aA func188 ?_;refine bM λg w0 aP ag J=>?_;have aQ:=h.cells;simp only[bx,ao,ad];refine⟨λaR=>Ω,λ_=>?_⟩;rw[bn bo.p bo.i rfl J.range];refine (m9 (h.ext ag) I).mono ?_;rintro _ U _ ⟨rfl,V⟩;simp only[cb,ad];refine⟨λaT=>Ω,λ_=>?_⟩;have W:=ag.trans V;rw[aa bo.p rfl,ac Ψ ((J.ext V).cell (o:=0+0) rfl),aS ah.u (h.ext W)];refine iS ah.u ab.i Ω Ω ?_;intro ap aU aV ai ax;simp only[gv ah.u];have ay:=W.trans ai;have s0:=ag.size;have s1:=V.size;have aW:=J.lt;refine⟨λt X=>Ext w X/\Ext w0 X/\ ∃i:Nat,t=Δ i/\i<=l.length/\ae X ap ab (ints .i64 ((cH l n).take i++o6 (l.length-i) 0)),λt _=>l.length-(bL t).toNat,
  ⟨ay,V.trans ai,0,rfl,Y9 _,by simpa using ax⟩,?_⟩
 rintro _ X ⟨ak,al,i,rfl,hi,au⟩;simp only[ao,ad];refine⟨λam=>?_,λaX=>?_⟩
 .have am:i<l.length:=Ω
  rw[bn bo.p bo.i rfl (J.ext al).range];refine (Fa (h.ext ak) I am).mono ?_;rintro _ aY _ ⟨rfl,az⟩;simp only[cj];intro aZ aB _ _;have Y:=az.trans aB;have av:=ak.trans Y;obtain⟨k,an⟩:∃k,l[i]? =σ k:=⟨l[i],y0 Ω⟩;have a1:=I.2 k (x6 an);have a2:=prod_bound (I.drop (i+1));have aC:0<=n / aL (l.drop (i+1)):=Int.ediv_nonneg af Ω;have a6:n / aL (l.drop (i+1))<=n:=Int.ediv_le_self _ af;rw[oq Ω,Int.tdiv_eq_ediv_of_nonneg af,wrap_i64 Ω Ω,
   aa bo.p rfl,ac Ψ (((J.ext al).ext Y).cell (o:=0+0) rfl),bc ah.u ab.i Ψ (h.ext av) an,
   kh Ω,Int.tmod_eq_emod_of_nonneg aC,fc ah.u ab.i am (λ_=>rfl),T4]
  refine bj ab.i rfl rfl (au.ext Y) (by simp[h0];omega) ?_;intro a7 aw a8 aE;simp only[aN];rw[wrap_i64 Ω Ω];have ba:=ai.size;have bb:=W.size;refine⟨⟨av.then aw (by rintro r aF rfl;omega),(al.trans Y).then aw (by rintro r aF rfl;omega),i+1,rfl,Ω,?_⟩,?_⟩
  .have aG:=xi (n:=n) an;have e:(ints .i64 ((cH l n).take i++o6 (l.length-i) 0)).set (0+i) (Δ (n / aL (l.drop (i+1)) % k))=ints .i64 ((cH l n).take (i+1)++o6 (l.length-(i+1)) 0):=by
    have aH:((cH l n).take i).length=i:=by rw[o7,h0];omega
    rw[V1,ints,<-T0];congr 1;rw[List.set_append,if_neg Ω,aH,W7,show l.length-i=(l.length-(i+1))+1 by omega,List.replicate_succ,List.set_cons_zero,r9,aG];simp
   rw[<-e];exact aE
  .simp only[bL];omega
 .have aJ:i=l.length:=Ω
  subst aJ;refine⟨ak,_,ap,rfl,by have:=W.size;omega,aq.of (n:=l.length) (bQ.full ?_ (by simp[ints,h0]) (by simp[maxLen];omega))⟩;have e:(cH l n).take l.length++o6 (l.length-l.length) 0=cH l n:=by rw[W7,Z0 (by rw[h0];omega)];simp
  rw[<-e];exact au
end Go.Proofs.YtgbkinibgjmodaaGreatDoor
namespace Go.Proofs.YtgbkinibgjmodaaGreatDoor
open Go Go.Vc Go.RowKit Go.Proofs Go.Proofs.Tryz
set_option maxRecDepth 100000
def gZ (x:Int):Prop:=1<=x/\x<=32
instance (x:Int):Decidable (gZ x):=by unfold gZ;infer_instance
theorem Fi {x:Int}:aj x3 qp [Δ x] w λv w'=>v= .bool (decide (¬gZ x))/\Ext w w':=by
 refine aA func227 ?_;simp only[bx,ao,bP,ad];refine⟨λh=>⟨?_,Ext.refl _⟩,λh=>⟨?_,Ext.refl _⟩⟩
 .rw[decide_eq_true];intro I;have:=I.1;omega
 .congr 1;have:(32<x)=(¬gZ x):=propext ⟨λJ I=>by have:=I.2;omega,λJ=>by
   by_cases U:32<x
   .exact U
   .exact absurd ⟨Ω,Ω⟩ J⟩
  simp only[this]
theorem Fj (h:aI .i64 w sv l):
  aj x3 sI [sv,.func (.func qp) #[] #[]] w λv w'=>Ext w w'/\ ∃n:Int,v=Δ n/\((0<=n)=¬∀x∈l,gZ x):=by
 have ae:=h.le;refine aA func170 ?_;rw[aS ah.u h];refine⟨λ_ t U=>Ext w U/\ ∃i:Nat,t=Δ i/\i<=l.length/\ ∀x∈l.take i,gZ x,λ_ t _=>l.length-(bL t).toNat,⟨Ext.refl _,0,rfl,Y9 _,Ξ⟩,?_⟩;rintro _ _ U ⟨J,i,rfl,hi,V⟩;simp only[ao,ad];refine⟨λaf=>?_,λag=>⟨J,-1,rfl,?_⟩⟩
 .obtain⟨x,W⟩:∃x,l[i]? =σ x:=⟨_,y0 Ω⟩;rw[bc ah.u ab.i Ψ (h.ext J) W];show aj x3 qp [Δ x] U _;refine Fi.mono ?_;rintro _ ai _ ⟨rfl,X⟩;simp only[ad,aN];refine⟨λY=>⟨J.trans X,i,rfl,?_⟩,λaa=>?_⟩
  .exact propext ⟨λ_ ac=>Y (ac x (x6 W)),λ_=>Ω⟩
  .rw[wrap_i64 Ω Ω];refine⟨⟨J.trans X,i+1,rfl,Ω,λy I=>?_⟩,?_⟩
   .rw[r9,W] at I;rcases n9.1 I with I|I
    .exact V y I
    .simp at I;subst I;exact X2.1 aa
   .simp only[bL];omega
 .have:i=l.length:=Ω
  rw[this,o9] at V;exact propext ⟨λh=>Ω,λh=>absurd V h⟩
theorem Fk (h:aI .i64 w sv l):
  aj x3 qn [sv,.func (.func qp) #[] #[]] w λv w'=>v= .bool (decide (¬∀x∈l,gZ x))/\Ext w w':=by
 refine aA func196 ?_;refine (Fj h).mono ?_;rintro _ U _ ⟨I,n,rfl,J⟩;simp only[cb];exact⟨by congr 1;simp only[J],I⟩
def Fl (w:x2) (l:List Int) (v:x1) (w':x2):Prop:=
 Ext w w'/\
   (¬bR l->v= .tuple #[.agg #[.slice ν 0 0],Δ 1])/\
   (bR l->4096<aL l->v= .tuple #[.agg #[.slice ν 0 0],Δ 5])/\
   (bR l->aL l<=4096-> ∃g aD,v= .tuple #[.agg #[aD],Δ 0]/\w.heap.size<=g/\aq .i64 ab w' g aD l)
theorem Fm (h:aI .i64 w sv l):aj x3 DG [sv] w (Fl w l):=by
 refine aA func171 ?_;refine bt bo.i λaL U aZ J ac=>?_;have a1:=ac.lt;refine aP (λv W=>Ext w W/\Ext U W/\ ∃c:Bool,v= .bool c/\((c=true)=¬bR l)) ?_ ?_
 .rintro _ W ⟨ag,ai,c,rfl,av⟩;simp only[bH];refine⟨λaM=>?_,λaN=>?_⟩
  .have aw:¬bR l:=by rw[<-av];exact aM
   rw[cR (cs:=#[.slice ν 0 0]) Ψ];refine bJ (vs:=[.slice ν 0 0]) bo.i rfl rfl (by simp;rfl) (ac.ext ai) ?_;intro a2 aO a6 aQ;rw[eJ bo.p bo.i rfl aQ.range];exact⟨ag.then aO (by rintro r ak rfl;omega),λ_=>rfl,λh=>absurd h aw,λh=>absurd h aw⟩
  .have X:bR l:=by
    have ax:¬(c=true):=by simp[aN]
    rw[av] at ax;exact Classical.not_not.1 ax
   have a7:=X.1;refine (hA (h.ext ag) Ω).mono ?_;rintro aD ay _ ⟨al,az,a8,hm⟩;have aB:=hm.ls.cells;rw[cR (cs:=#[aD]) (by obtain⟨_,_,_,_,_,rfl,_⟩:=hm.ls;kernel_rfl)];refine bt bo.i λgs ba bb am aR=>?_;refine bJ (vs:=[aD]) bo.i rfl rfl (by intro u hu;simp at hu;subst hu;exact aB.2) aR ?_;intro an aC bc aE;rw[bn bo.p bo.i rfl aE.range];have bd:=al.size;have be:=am.size;have bf:=ai.size;have bg:af (λr=>r=gs) ay an:=(am.V _).trans aC;have ao:Ext ay an:=am.then aC (by rintro r ak rfl;omega);have aT:=(ag.trans al).trans ao;have aF:aq .i64 ab an az aD l:=hm.ext ao;refine (m9 aF.ls X).mono ?_;rintro _ aU _ ⟨rfl,Y⟩;have aG:=aT.trans Y;have aH:ae aU aL bo [.slice ν 0 0]:=ac.ext (((ai.trans al).trans ao).trans Y);simp only[bP,ad];refine⟨λaV=>?_,λaW=>?_⟩
   .rw[cR (cs:=#[.slice ν 0 0]) Ψ];refine bJ (vs:=[.slice ν 0 0]) bo.i rfl rfl (by simp;rfl) aH ?_;intro aX aa aY ap;rw[eJ bo.p bo.i rfl ap.range];exact⟨aG.then aa (by rintro r ak rfl;omega),λh=>absurd X h,λ_ _=>rfl,λ_ h=>Ω⟩
   .rw[bn bo.p bo.i rfl (aE.ext Y).range];refine bJ (vs:=[aD]) bo.i rfl rfl (by intro u hu;simp at hu;subst hu;exact aB.2) aH ?_;intro aX aa aY ap;rw[eJ bo.p bo.i rfl ap.range];have bh:=J.size;exact⟨aG.then aa (by rintro r ak rfl;omega),λh=>absurd X h,λ_ h=>Ω,λ_ _=>⟨az,aD,rfl,Ω,(aF.ext Y).V aa Ω⟩⟩
 .intro bi aJ;rw[aS ah.u (h.ext J)];simp only[bP,ad];refine⟨λaV=>aJ _ _ ⟨J,Ext.refl _,true,rfl,?_⟩,λaW=>?_⟩
  .exact propext ⟨λ_ I=>by have:=I.1;omega,λ_=>rfl⟩
  .refine (Fk (h.ext J)).mono ?_;rintro _ W _ ⟨rfl,aK⟩;refine aJ _ _ ⟨J.trans aK,aK,_,rfl,?_⟩;rw[decide_eq_true_eq];exact propext ⟨λau I=>au I.2,λau I=>au ⟨Ω,I⟩⟩
end Go.Proofs.YtgbkinibgjmodaaGreatDoor
namespace Go.Proofs.YtgbkinibgjmodaaGreatDoor
open Go Go.Vc Go.RowKit Go.Proofs Go.Proofs.Tryz
set_option maxRecDepth 100000
theorem sX {P:W5} (I:0<=a) (h1:a<4294967296):
  J P (aB .and t cx cy (.int .u64 a) (.int .u64 4294967295)) w K=K (.int .u64 a):=J.of λw' _=>by
 obtain⟨n,rfl⟩:=Int.eq_ofNat_of_zero_le I;have X:n<4294967296:=Ω
 have e:(U5 64 (n:Int) &&& U5 64 4294967295).toNat=n:=by
  rw[BitVec.toNat_and,BitVec.toNat_ofInt,BitVec.toNat_ofInt];have U:((n:Int) % ((2 ^ 64:Nat):Int)).toNat=n:=Ω
  have V:((4294967295:Int) % ((2 ^ 64:Nat):Int)).toNat=2 ^ 32-1:=Φ
  rw[U,V,Nat.and_two_pow_sub_one_eq_mod];omega
 have W:(U5 U3.bits (n:Int) &&& U5 U3.bits 4294967295).toNat=n:=e;simp only[aB,eqGuard,binOp,Op.intBits,W];rw[wrap_u64 Ω Ω];rfl
theorem ox {P:W5} (I:0<=a) (h1:a<4294967296):
  J P (aB .shr t cx cy (.int .u64 a) (.int .u64 32)) w K=K (.int .u64 0):=J.of λw' _=>by
 have e:a.fdiv (2 ^ min 32 U3.bits)=0:=by
  have:(2:Int) ^ min 32 U3.bits=4294967296:=rfl;rw[this,Int.fdiv_eq_ediv_of_nonneg _ Ω];omega
 simp[aB,eqGuard,binOp,Op.shift,e]
theorem Fo {x:Int} (J:0<=x/\x<65536) (I:0<=y/\y<65536):
  aj x3 Ef [.int .u64 x,.int .u64 y] w λv w'=>v= .tuple #[.int .u64 0,.int .u64 (x*y)]/\Ext w w':=by
 have W:0<=x*y/\x*y<4294967296:=⟨Int.mul_nonneg J.1 I.1,by
  have:x*y<=65535*65535:=Int.mul_le_mul Ω Ω I.1 Ω;omega⟩
 refine aA func228 ?_;refine aj.mono (K:=λv w'=>v= .tuple #[.int .u64 0,.int .u64 (x*y)]/\Ext w w') ?_ ?_
 .refine aA func271 ?_;rw[sX Ω Ω,ox Ω Ω,sX Ω Ω,ox Ω Ω];simp only[fp,Int.zero_mul,Int.mul_zero];rw[wrap_u64 (x:=x*y) Ω Ω,show U3.wrap 0=0 from rfl,ox (a:=x*y) Ω Ω];simp only[aN,Int.add_zero];rw[show U3.wrap 0=0 from rfl,sX Ω Ω,ox Ω Ω];simp only[fp,aN,Int.zero_mul,Int.mul_zero,Int.add_zero,show U3.wrap 0=0 from rfl];rw[ox Ω Ω];simp only[fp,aN,Int.add_zero,show U3.wrap 0=0 from rfl];exact⟨trivial,Ext.refl _⟩
 .rintro _ U _ ⟨rfl,V⟩;rw[aK (v:=.int .u64 0) rfl,aK (v:=.int .u64 (x*y)) rfl];exact⟨rfl,V⟩
theorem xk {jC:x1} {c:Int} (h:aI .i64 w jC [c]) (aL:n<65536):
  aj x3 DH [jC,Δ n] w λv w'=>Ext w w'/\ ∃g,w.heap.size<=g/\aq .i64 an w' g v (o6 n c):=by
 refine aA func172 ?_;refine dt (λU=>w=U) ?_ ?_
 .rintro _ rfl;rw[aS ax.u h,eZ ab.u mY.u,eZ ab.u mY.u,wrap_u64 Ξ Ξ,wrap_u64 Ω Ω];refine (Fo (x:=([c].length:Int)) Ξ Ω).mono ?_;rintro _ ac _ ⟨rfl,af⟩;rw[aK (v:=.int .u64 0) rfl,aK (v:=.int .u64 (([c].length:Int)*n)) rfl];have al:(([c].length:Int)*n)=(n:Int):=Ξ
  rw[al];refine dt (λI=>ac=I) ?_ ?_
  .rintro _ rfl;rw[eZ mY.u ab.u,wrap_i64 Ω Ω];refine iS ax.u an.i Ω Ω ?_;intro g aM aO am ap;have ag:=af.trans am;have aR:=af.size;refine w8 ax.u an.i ap (o:=0) (λ_=>rfl) Ξ (h.ext ag) (ot _ _) ?_;intro aT au aU ah;have av:=ag.then au (by rintro r aw rfl;omega);have st:over (ints .i64 (o6 n 0)) 0 ((ints .i64 [c]).take n)=ints .i64 (o6 (min 1 n) c++o6 (n-min 1 n) 0):=by
    rcases Nat.eq_zero_or_pos n with rfl|J
    .simp[over]
    .rw[Z0 Θ,k6 Θ];have:min 1 n=1:=Ω
     simp[this,ints]
   rw[st] at ah;refine⟨λt V=>Ext w V/\ ∃i:Nat,t=Δ i/\i<=n/\(0<n->0<i)/\ae V g an (ints .i64 (o6 i c++o6 (n-i) 0)),λt _=>n-(bL t).toNat,
    ⟨av,min 1 n,Ξ,Ω,Ω,ah⟩,?_⟩
   rintro _ V ⟨W,i,rfl,hi,aV,X⟩;simp only[gv ax.u,ao,ad,cj];refine⟨λay az Y _ _=>?_,λaW=>?_⟩
   .have ay:i<n:=Ω
    have ai:=X.ext Y;rw[fq ax.u an.i (l:=i) (h:=n) (m:=n) lO hx er Ω Ω Ω,
     fq ax.u an.i (l:=0) (h:=i) (m:=n) hv lR er Ω Ω Ω]
    have aB:bT az 1 (.slice (σ ⟨g,0,ν⟩) n n) n (ints .i64 (o6 i c++o6 (n-i) 0)):=(bQ.full ai (by simp <;> omega) (by simp[maxLen] <;> omega)).sl;have J:=aB.part (l:=0) (h:=i) (m:=n) Ω Ω Ω Ω;have aC:((ints .i64 (o6 i c++o6 (n-i) 0)).drop (0*1)).take ((i-0)*1)=ints .i64 (o6 i c):=by
     simp[ints]
    rw[aC] at J;refine w8 ax.u an.i ai (o:=i) (λ_=>?_) (by simp <;> omega) J (ot _ _) ?_
    .rw[if_neg Ω];simp[U4]
    .intro aX aD aY ak;have aZ:=W.size;have a1:=Y.size;have aE:over (ints .i64 (o6 i c++o6 (n-i) 0)) i ((ints .i64 (o6 i c)).take (n-i))=ints .i64 (o6 (i+min i (n-i)) c++o6 (n-(i+min i (n-i))) 0):=by
      apply X6;intro j;rw[lS _ _ _ (by simp[ints] <;> omega)];simp only[ints,Z4,List.map_replicate,List.getElem?_append,List.getElem?_take,List.getElem?_replicate,o7,List.length_replicate]
      repeat' split
      all_goals first|rfl|omega
     rw[aE] at ak;have aF:min (i-0) (n-i)=min i (n-i):=Ω
     simp only[aN,aF];have aG:Y5.wrap ((i:Int)+((min i (n-i):Nat):Int))=((i+min i (n-i):Nat):Int):=by rw[wrap_i64 Ω Ω];omega
     rw[aG];refine⟨⟨(W.trans Y).then aD (by rintro r aw rfl;omega),_,rfl,Ω,Ω,ak⟩,?_⟩;simp only[bL,j9];omega
   .have:i=n:=Ω
    subst this;rw[W7,List.replicate_zero,V4] at X;exact⟨W,g,Ω,aq.of (n:=i) (bQ.full X Ξ (by simp[maxLen];omega))⟩
  .intro aH aa;refine aP (λv I=>v= .bool false/\ac=I) ?_ ?_
   .rintro _ _ ⟨rfl,rfl⟩;rw[aQ];exact aa _ rfl
   .intro a2 aJ;simp only[bP,ad];refine⟨λh=>Ω,λ_=>aJ _ _ ⟨?_,rfl⟩⟩;rw[decide_eq_false];omega
 .intro aH aa;simp only[ao,ad];exact⟨λh=>Ω,λ_=>aa _ rfl⟩
end Go.Proofs.YtgbkinibgjmodaaGreatDoor
namespace Go.Proofs.YtgbkinibgjmodaaGreatDoor
open Go Go.Vc Go.RowKit Go.Proofs Go.Proofs.Tryz
set_option maxRecDepth 100000
def leads (v:x1) (r:Nat):Prop:=∃a n c,v= .slice (σ a) n c/\a.block=r
theorem bA {g:Nat} (h:aq k e w g v l) {r:Nat} (I:leads v r):r=g/\g<w.heap.size:=by
 obtain⟨a,n,c,rfl,rfl⟩:=I;obtain⟨_,⟨h,_⟩|⟨cap,cs,h,J,_⟩⟩:=h
 .cases h
 .cases h;exact⟨rfl,J.lt⟩
theorem bb {g:Nat} (h:aq k e w g v l) (I:af S w w') (J:∀r,leads v r->¬S r):aq k e w' g v l:=by
 refine⟨h.1,h.2.imp id λ⟨cap,cs,h1,U,W⟩=>⟨cap,cs,h1,U.V I (J g ⟨_,_,_,h1,rfl⟩),W⟩⟩
def cM (w:x2) (g I:Nat) (sv:x1) (szs:List Int) (k:Int) (cs:List Int):Prop:=
 (∃aJ gs,ae w g cQ [sv,Δ k,aJ]/\aq .i64 ab w gs sv szs/\aq .i64 an w I aJ cs)/\(g≠I/\¬leads sv I/\aL szs<=4096)/\bR szs/\cs.length=(aL szs).toNat
theorem cM.ext {g J:Nat} {k:Int} {cs:List Int} (h:cM w g J sv szs k cs) (I:Ext w w'):cM w' g J sv szs k cs:=by
 obtain⟨⟨aJ,gs,h1,U,V⟩,W⟩:=h;exact⟨⟨aJ,gs,h1.ext I,U.ext I,V.ext I⟩,W⟩
def xl (w:x2) (l:List Int) (k I:Int) (v:x1) (w':x2):Prop:=
 Ext w w'/\
  (¬bR l->v= .tuple #[.pointer ν,Δ 1])/\
  (bR l->4096<aL l->v= .tuple #[.pointer ν,Δ 5])/\
  (bR l->aL l<=4096->¬cL I k->v= .tuple #[.pointer ν,Δ 3])/\
  (bR l->aL l<=4096->cL I k-> ∃g J sv,v= .tuple #[Γ g,Δ 0]/\w.heap.size<=g/\w.heap.size<=J/\(∀r,leads sv r->w.heap.size<=r)/\
   cM w' g J sv l k (o6 (aL l).toNat I))
theorem qC {k ag:Int} (h:aI .i64 w sv l):aj x3 sA [sv,Δ k,Δ ag] w (xl w l k ag):=by
 refine aA func89 ?_;refine (Fm h).mono ?_;rintro v U _ ⟨au,aM,aN,aO⟩;obtain⟨aD,e,rfl,aP,he⟩:∃ (aD:x1) (e:Int),v= .tuple #[.agg #[aD],Δ e]/\aD.oneCell'=true/\
   ((e=1/\¬bR l)\/(e=5/\bR l/\4096<aL l)\/(e=0/\bR l/\aL l<=4096/\ ∃g,w.heap.size<=g/\aq .i64 ab U g aD l)):=by
  by_cases I:bR l
  .by_cases af:aL l<=4096
   .obtain⟨g,aD,rfl,h1,av⟩:=aO I af;exact⟨aD,0,rfl,av.ls.cells.2,.inr (.inr ⟨rfl,I,af,g,h1,av⟩)⟩
   .exact⟨_,_,aN I Ω,rfl,.inr (.inl ⟨rfl,I,Ω⟩)⟩
  .exact⟨_,_,aM I,rfl,.inl ⟨rfl,I⟩⟩
 rw[aK (v:=.agg #[aD]) rfl,aK (v:=Δ e) rfl];refine bt bo.i λbi bj bk aQ aR=>?_;refine bJ (vs:=[aD]) bo.i rfl rfl (by intro u hu;simp at hu;subst hu;exact aP) aR ?_;intro aS aT bl aU;have aw:Ext U aS:=aQ.then aT (by rintro r X rfl;omega);have ay:=au.trans aw;simp only[bB,ad];refine⟨λaV=>⟨ay,?_⟩,λbm=>?_⟩
 .rcases he with⟨rfl,ah⟩|⟨rfl,I,af⟩|⟨rfl,_⟩
  .exact⟨λ_=>rfl,λh=>absurd h ah,λh=>absurd h ah,λh=>absurd h ah⟩
  .exact⟨λh=>absurd I h,λ_ _=>rfl,λ_ h=>Ω,λ_ h=>Ω⟩
  .exact absurd rfl aV
 .obtain⟨rfl,I,af,gs,bp,hm⟩:e=0/\bR l/\aL l<=4096/\ ∃g,w.heap.size<=g/\aq .i64 ab U g aD l:=by
   rcases he with⟨rfl,ah⟩|⟨rfl,I,af⟩|h
   .omega
   .omega
   .exact h
  have bq:=prod_bound I;refine kq.mono ?_;rintro _ br _ ⟨rfl,ak⟩;have aB:=ay.trans ak;simp only[bg,bH];refine⟨λaW=>⟨aB,λh=>absurd I h,λ_ h=>Ω,λ_ _ _=>rfl,λ_ _ h=>by simp[h] at aW⟩,λaX=>?_⟩;have aY:cL ag k:=by simpa using aX
  simp only[bx,cj];intro aC al _ _;have aZ:=aB.trans al;have ai:=(aw.trans ak).trans al;have aE:=(aU.ext ak).ext al;rw[bn bo.p bo.i rfl aE.range,bn bo.p bo.i rfl aE.range];have s1:=au.size;have bu:=ai.size;have aF:((aL l).toNat:Int)=aL l:=Ω
  have aG:∀ {ac:x2} {aa:x1} {ae:Nat},Ext aC ac->aC.heap.size<=ae->aq .i64 an ac ae aa (o6 (aL l).toNat ag)->
    J x3 (Instr.build cQ #[(0,.agg #[aD]),(1,Δ k),(2,aa)]) ac λa1=>az x3 (Instr.box cQ a1) ac λa2 aH=>xl w l k ag (.tuple #[a2,Δ 0]) aH:=by
   intro ac aa ae Y aJ X;rw[cR (cs:=#[aD,Δ k,aa]) (by
    obtain⟨_,_,_,_,_,rfl,_⟩:=X.ls;obtain⟨_,_,_,_,_,rfl,_⟩:=hm.ls;kernel_rfl)]
   refine bM λg aH bw ao a6=>?_;have bz:=Y.size;have a7:leads aa ae:=by
    obtain⟨bC,⟨_,a8⟩|⟨cap,cs,rfl,_⟩⟩:=X
    .simp at a8;omega
    .exact⟨_,_,_,rfl,rfl⟩
   have bD:=(bA X a7).2;refine⟨(aZ.trans Y).trans ao,λh=>absurd I h,λ_ h=>Ω,λ_ _ h=>absurd aY h,λ_ _ _=>⟨g,ae,aD,rfl,Ω,Ω,λr ba=>?_,⟨aa,gs,a6,((hm.ext ai).ext Y).ext ao,X.ext ao⟩,⟨Ω,λbb=>?_,af⟩,I,Ξ⟩⟩
   .have:=(bA hm ba).1;omega
   .have:=bA hm bb;omega
  constructor
  .refine dJ ax.u an.i rfl λjC am bc bd V ap=>⟨.inl V,?_⟩;refine (m9 ((hm.ext ai).ext V).ls I).mono ?_;rintro _ be _ ⟨rfl,W⟩;refine⟨.inl (V.trans W),?_⟩;rw[<-aF];refine (xk (ap.ext W).ls Ω).mono ?_;rintro aa ac _ ⟨Y,ae,aJ,X⟩;have bf:=V.size;have bh:=W.size;exact⟨.inl ((V.trans W).trans Y),aG ((V.trans W).trans Y) Ω X⟩
  .refine (m9 (hm.ext ai).ls I).mono ?_;rintro _ bc _ ⟨rfl,V⟩;refine⟨.inl V,?_⟩;refine dJ ax.u an.i rfl λjC am be bd W ap=>⟨.inl (V.trans W),?_⟩;rw[<-aF];refine (xk ap.ls Ω).mono ?_;rintro aa ac _ ⟨Y,ae,aJ,X⟩;have bf:=V.size;have bh:=W.size;exact⟨.inl ((V.trans W).trans Y),aG ((V.trans W).trans Y) Ω X⟩
end Go.Proofs.YtgbkinibgjmodaaGreatDoor
namespace Go.Proofs.YtgbkinibgjmodaaGreatDoor
open Go Go.Vc Go.RowKit Go.Proofs Go.Proofs.Tryz
set_option maxRecDepth 100000
theorem l1 {g:Nat} {I:List x1} (h:ae w g e cs) (J:∀j v,I[j]? =σ v->cs[o+j]? =σ v):w.rangeAt g o I:=λj v U=>h.cell (J j v U)
theorem xm {g:Nat} {t:List Int} {k:Int} {cs:List Int} (h:cM w g W sv szs k cs) (X:aI .i64 w aD t):
  aj x3 DJ [Γ g,aD] w λv w'=>v=jB szs t/\Ext w w':=by
 obtain⟨⟨aJ,gs,Y,hm,ab⟩,_,I,_⟩:=h;refine aA func174 ?_;rw[cA eg.u];simp only[j6,aQ];rw[aw,aa cQ.p rfl,bn (cs:=[sv]) bo.p bo.i rfl (l1 Y (by
  intro j v J
  match j,J with
  |0,J=>exact J))]
 refine (xj hm.ls X I).mono ?_;rintro _ U _ ⟨rfl,V⟩;unfold jB;cases cq szs t 0 with
 |none=>rw[aK (v:=Δ 0) rfl,aK (v:=Δ 3) rfl];exact⟨rfl,V⟩
 |some n=>rw[aK (v:=Δ n) rfl,aK (v:=Δ 0) rfl];exact⟨rfl,V⟩
def na (szs t cs:List Int):x1:=match cq szs t 0 with
 |some n=>.tuple #[Δ (cs.getD n.toNat 0),Δ 0]
 |none=>.tuple #[Δ 0,Δ 3]
theorem xn {t cs:List Int} {n:Int} (I:bR szs) (J:cs.length=(aL szs).toNat) (h:cq szs t 0=σ n):n=(n.toNat:Int)/\n.toNat<cs.length:=by
 have:=l0 I.2 h;simp only[Int.zero_mul,Int.zero_add,Int.one_mul] at this;omega
theorem sY {g:Nat} {t:List Int} {k:Int} {cs:List Int} (h:cM w g W sv szs k cs) (X:aI .i64 w aD t):
  aj x3 Ev [Γ g,aD] w λv w'=>v=na szs t cs/\Ext w w':=by
 refine aA func259 ?_;refine (xm h X).mono ?_;rintro _ U _ ⟨rfl,J⟩;obtain⟨⟨aJ,gs,Y,hm,ab⟩,_,I,ae⟩:=h.ext J;unfold jB na;cases hi:cq szs t 0 with
 |none=>
  rw[aK (v:=Δ 0) rfl,aK (v:=Δ 3) rfl];simp only[bB,ad];exact⟨λ_=>⟨trivial,J⟩,λh=>by simp at h⟩
 |some n=>
  obtain⟨af,V⟩:=xn I ae hi;rw[aK (v:=Δ n) rfl,aK (v:=Δ 0) rfl];simp only[bB,ad];refine⟨λh=>absurd rfl h,λ_=>?_⟩;rw[aw,aa cQ.p rfl,ac Ψ (Y.cell (o:=0+2) rfl),
   dZ af ax.u an.i Ψ ab.ls (y0 V)]
  refine⟨?_,J⟩;rw[u4,y0 V];rfl
def nb (szs t:List Int) (k c:Int) (cs:List Int):List Int:=match cq szs t 0 with
 |some n=>if cL c k then cs.set n.toNat c else cs
 |none=>cs
def xo (szs t:List Int) (k c:Int):Int:=match cq szs t 0 with
 |some _=>if cL c k then 0 else 3
 |none=>3
theorem xp {g X:Nat} {t:List Int} {k c:Int} {cs:List Int} (h:cM w g X sv szs k cs) (am:aI .i64 w aD t):
  aj x3 sC [Γ g,aD,Δ c] w λv w'=>v=Δ (xo szs t k c)/\af (λr=>r=X) w w'/\cM w' g X sv szs k (nb szs t k c cs):=by
 refine aA func91 ?_;refine (xm h am).mono ?_;rintro _ U _ ⟨rfl,J⟩;have h1:=h.ext J;obtain⟨⟨aJ,gs,W,hm,Y⟩,_,I,ab⟩:=h1;unfold jB xo nb;cases hi:cq szs t 0 with
 |none=>
  rw[aK (v:=Δ 0) rfl,aK (v:=Δ 3) rfl];simp only[bB,ad];exact⟨λ_=>⟨trivial,J.V _,h.ext J⟩,λh=>by simp at h⟩
 |some n=>
  obtain⟨aC,aE⟩:=xn I ab hi;rw[aK (v:=Δ n) rfl,aK (v:=Δ 0) rfl];simp only[bB,ad];refine⟨λh=>absurd rfl h,λ_=>?_⟩;rw[aw,aa cQ.p rfl,ac Ψ (W.cell (o:=0+1) rfl)];refine kq.mono ?_;rintro _ aF _ ⟨rfl,ae⟩;have ah:=(h.ext J).ext ae;by_cases ai:cL c k
  .simp only[ai,decide_true,bg,Y1,aQ,if_true];obtain⟨⟨aJ,gs,W,hm,Y⟩,⟨ao,ak⟩,I,ab⟩:=ah;have aG:=Y;obtain⟨aH,⟨rfl,aL⟩|⟨cap,full,rfl,ap,aq,au,av,al⟩⟩:=Y
   .omega
   .rw[aw,aa cQ.p rfl,ac Ψ (W.cell (o:=0+2) rfl),
     w4 (i:=n) ax.u an.i Ω Ω (λ_=>rfl)]
    refine bj an.i rfl rfl ap Ω ?_;intro aM ag aN ay;refine⟨trivial,((J.trans ae).V _).trans ag,⟨_,gs,W.V ag Ω,bb hm ag (λr az aB=>ak.1 (aB▸az)),?_⟩,⟨ao,ak⟩,I,by simp[ab]⟩;refine⟨Ξ,.inr ⟨cap,full.set (0+n.toNat*1) (Δ c),?_,ay,by simpa using aq,au,by simpa using av,?_⟩⟩
    .simp
    .simp only[X1,V1,T4] at al ⊢;rw[List.take_set,al,ints,ints,T0]
  .simp only[ai,decide_false,bg,X4,bO,if_false];exact⟨trivial,(J.trans ae).V _,ah⟩
def cg (b:Int):Bool:=decide (b=32\/b=9\/b=10\/b=13)
def bF (b:Int):Bool:=decide (33<=b/\b<=126)
def l2:Nat->List Int->List (List Int)×Bool
 |0,_=>([],true)
 |n+1,p=>
  match p.dropWhile cg with
  |[]=>([],true)
  |b::q=>
   if bF b then
    match (b::q).dropWhile bF with
    |[]=>([(b::q).takeWhile bF],true)
    |c::r=>if cg c then (((b::q).takeWhile bF)::(l2 n (c::r)).1,(l2 n (c::r)).2) else ([],false)
   else ([],false)
def lex (p:List Int):List (List Int)×Bool:=l2 (p.length+1) p
theorem nc (f:Int->Bool):∀ (l:List Int),(l.dropWhile f).length<=l.length
 |[]=>o8 _
 |x::l=>by
  rw[List.dropWhile_cons];split
  .exact X0 (nc f l) (S5 _)
  .exact o8 _
theorem qD {f:Int->Bool} {x:Int} (h:f x=true):((x::l).dropWhile f).length<=l.length:=by
 rw[List.dropWhile_cons,if_pos h];exact nc f l
theorem xq:∀ {n m:Nat} {p:List Int},p.length<n->p.length<m->l2 n p=l2 m p
 |n+1,m+1,p,W,hm=>by
  unfold l2;have h1:=nc cg p;cases U:p.dropWhile cg with
  |nil=>rfl
  |cons b q=>
   rw[U] at h1;simp only;by_cases I:bF b=true
   .rw[if_pos I,if_pos I];have J:=qD (l:=q) I;cases V:(b::q).dropWhile bF with
    |nil=>rfl
    |cons c r=>
     rw[V] at J;simp only[j5] at h1 J;simp only;rw[xq (n:=n) (m:=m) (p:=c::r) (by rw[j5];omega) (by rw[j5];omega)]
   .rw[if_neg I,if_neg I]
theorem iT (p:List Int):lex p=match p.dropWhile cg with
  |[]=>([],true)
  |b::q=>
   if bF b then
    match (b::q).dropWhile bF with
    |[]=>([(b::q).takeWhile bF],true)
    |c::r=>if cg c then (((b::q).takeWhile bF)::(lex (c::r)).1,(lex (c::r)).2) else ([],false)
   else ([],false):=by
 unfold lex
 conv=>lhs;unfold l2
 have h1:=nc cg p;cases U:p.dropWhile cg with
 |nil=>rfl
 |cons b q=>
  rw[U] at h1;simp only;by_cases I:bF b=true
  .rw[if_pos I,if_pos I];have J:=qD (l:=q) I;cases V:(b::q).dropWhile bF with
   |nil=>rfl
   |cons c r=>
    rw[V] at J;simp only[j5] at h1 J;simp only;rw[xq (n:=p.length) (m:=(c::r).length+1) (p:=c::r) (by rw[j5];omega) Ω]
  .rw[if_neg I,if_neg I]
theorem oy:∀ (n:Nat) (p:List Int),p.length<=n->(lex p).1.length<=p.length
 |n,p,X=>by
  rw[iT];have h1:=nc cg p;cases V:p.dropWhile cg with
  |nil=>simp
  |cons b q=>
   rw[V] at h1;simp only;by_cases I:bF b=true
   .rw[if_pos I];have J:=qD (l:=q) I;cases W:(b::q).dropWhile bF with
    |nil=>simp only[j5,List.length_nil] at h1 ⊢;omega
    |cons c r=>
     rw[W] at J;simp only[j5] at h1 J;simp only;by_cases U:cg c=true
     .rw[if_pos U]
      match n with
      |0=>omega
      |n+1=>
       have:=oy n (c::r) (by rw[j5];omega);simp only[j5] at this ⊢;omega
     .rw[if_neg U];simp
   .rw[if_neg I];simp
theorem qE:∀ (n:Nat) (p:List Int),p.length<=n-> ∀w∈(lex p).1,w≠[]/\(∀b∈w,bF b=true)/\w.length<=p.length
 |n,p,ab,w,hw=>by
  rw[iT] at hw;have h1:=nc cg p;cases J:p.dropWhile cg with
  |nil=>rw[J] at hw;simp at hw
  |cons b q=>
   rw[J] at h1 hw;simp only at hw;have Y:(b::q).length<=p.length:=h1;by_cases I:bF b=true
   .rw[if_pos I] at hw;have U:=qD (l:=q) I;have V:(b::q).takeWhile bF≠[]/\(∀x∈(b::q).takeWhile bF,bF x=true)/\((b::q).takeWhile bF).length<=p.length:=
     ⟨by rw[List.takeWhile_cons,if_pos I];simp,λx aa=>List.all_takeWhile (l:=b::q) (p:=bF) |> List.all_eq_true.1 |> λh=>h x aa,X0 (List.takeWhile_sublist _).length_le Y⟩
    cases W:(b::q).dropWhile bF with
    |nil=>
     rw[W] at hw;simp only[l9] at hw;subst hw;exact V
    |cons c r=>
     rw[W] at U hw;simp only[j5] at h1 U;simp only at hw;by_cases X:cg c=true
     .rw[if_pos X] at hw;rcases U9.1 hw with rfl|hw
      .exact V
      .match n with
       |0=>omega
       |n+1=>
        have:=qE n (c::r) (by rw[j5];omega) w hw;exact⟨this.1,this.2.1,X0 this.2.2 (by rw[j5];omega)⟩
     .rw[if_neg X] at hw;simp at hw
   .rw[if_neg I] at hw;simp at hw
def av:Int:=4611686018427387904
def ft (b:Int):Bool:=decide (48<=b/\b<=57)
def eD (n b:Int):Int:=min av (10*n+(b-48))
def iU:List Int->Option Int
 |[]=>ν
 |l=>if l.all ft then σ (l.foldl eD 0) else ν
def fu:List Int->Option Int
 |45::l=>(iU l).map λn=>-n
 |l=>iU l
theorem Fp {n b:Int} (J:0<=n) (I:ft b=true):0<=eD n b/\eD n b<=av:=by
 have I:=of_decide_eq_true I;unfold eD av;omega
theorem qF:∀ {l:List Int} {n:Int},l.all ft=true->0<=n/\n<=av->0<=l.foldl eD n/\l.foldl eD n<=av
 |[],n,_,I=>I
 |b::l,n,h,I=>by
  rw[List.all_cons,U1] at h;exact qF (l:=l) h.2 (Fp I.1 h.1)
structure aG where
 toks:List (List Int)
 told:Int
 big:Bool
 shared:List (List Int×List (List Int×Int))
deriving DecidableEq
def dv (s:aG):Option (List Int×aG):=match s.toks with
 |[]=>ν
 |w::l=>σ (w,{s with toks:=l})
def ba (lo hi:Int) (s:aG):Option (Int×aG):=match dv s with
 |none=>ν
 |some (w,s)=>match fu w with
  |none=>ν
  |some n=>if lo<=n/\n<=hi then σ (n,s) else ν
def a1 (b:Bool) (s:aG):aG:={s with big:=s.big||b}
def cz {α:Type} (f:List α->aG->Option (α×aG)):Nat->List α->aG->Option (List α×aG)
 |0,acc,s=>σ (acc,s)
 |n+1,acc,s=>match f acc s with
  |none=>ν
  |some (a,s)=>cz f n (acc++[a]) s
def eE (n:Int) (I:Nat) (s:aG):Option (List Int×aG):=cz (λacc s=>match ba 0 (n-1) s with
 |none=>ν
 |some (v,s)=>if v∈acc then ν else σ (v,s)) I [] s
def hB:List Int->List Int->aG->Option (List Int×aG)
 |[],acc,s=>σ (acc,s)
 |k::l,acc,s=>match ba 0 (k-1) s with
  |none=>ν
  |some (v,s)=>hB l (acc++[v]) s
def dw (sizes:List Int) (acc:List (List Int×Int)) (s:aG):Option ((List Int×Int)×aG):=match hB sizes [] s with
 |none=>ν
 |some (t,s)=>match ba 0 av s with
  |none=>ν
  |some (c,s)=>if t∈acc.map (·.1) then ν else σ ((t,c),s)
def dx (sizes:List Int) (s:aG):Option (List (List Int×Int)×aG):=match ba (-av) av s with
 |none=>ν
 |some (n,s)=>
  if n<0 then match s.shared[(-n-1).toNat]? with
   |none=>ν
   |some (z,l)=>if z=sizes then σ (l,s) else ν
  else cz (dw sizes) n.toNat [] (a1 (decide (16384<min (s.told+n) av)) {s with told:=min (s.told+n) av})
def c6 (sizes:List Int):Bool:=decide (4096<aL (sizes.map λk=>min k 4097))
structure cd where
 scope:List Int
 sizes:List Int
 other:Int
 lines:List (List Int×Int)
deriving DecidableEq
def cS (all:List Int) (s:aG):Option (cd×aG):=match ba (-av) av s with
 |none=>ν
 |some (a,s)=>match eE all.length a.natAbs s with
  |none=>ν
  |some (scope,s)=>
   let sizes:=scope.map λv=>all.getD v.toNat 0
   match ba 0 av (a1 (decide (6<a.natAbs)||c6 sizes) s) with
   |none=>ν
   |some (other,s)=>match dx sizes s with
    |none=>ν
    |some (lines,s)=>σ (⟨scope,sizes,other,lines⟩,if a<0 then {s with shared:=s.shared++[(sizes,lines)]} else s)
def fd (most:Int) (_:List Int) (s:aG):Option (Int×aG):=match ba 1 most s with
 |none=>ν
 |some (z,s)=>σ (z,a1 (decide (32<z)) s)
structure bY where
 name:List Int
 k:Int
 sizes:List Int
 funs:List cd
deriving DecidableEq
def gL (s:aG):Option (bY×aG):=match dv s with
 |none=>ν
 |some (name,s)=>match ba 1 av (a1 (decide (64<name.length)) s) with
  |none=>ν
  |some (n,s)=>match ba 1 av (a1 (decide (64<n)) s) with
   |none=>ν
   |some (most,s)=>match ba 0 av s with
    |none=>ν
    |some (count,s)=>match ba 1 av (a1 (decide (256<count)) s) with
     |none=>ν
     |some (k,s)=>match cz (fd most) n.toNat [] (a1 (decide (2147483648<k)) s) with
      |none=>ν
      |some (sizes,s)=>match cz (λ_ s=>cS sizes s) count.toNat [] s with
       |none=>ν
       |some (funs,s)=>σ (⟨name,k,sizes,funs⟩,s)
def fK (p:List Int):Option bY:=if 65536<p.length then ν else match gL ⟨(lex p).1,0,false,[]⟩ with
 |none=>ν
 |some (f,s)=>if s.toks=[]/\(lex p).2=true/\s.big=false then σ f else ν
def k8 (n:Int) (I:Bool) (v:Int):Prop:=0<=n/\n<=4611686018427387909/\(I=true->v=av)/\(I=false->v=min av n)
theorem Fq {n b v:Int} {I:Bool} (h:k8 n I v) (X:48<=b/\b<=57):
  k8 (if I=true\/461168601842738790<n then n else 10*n+(b-48)) (I||decide (461168601842738790<n)) (eD v b):=by
 obtain⟨h1,U,V,W⟩:=h;unfold eD k8 av at*;cases I with
 |true=>
  have:=V rfl;rw[if_pos (.inl rfl)];exact⟨h1,U,λ_=>Ω,λh=>by cases h⟩
 |false=>
  have:=W rfl;by_cases J:461168601842738790<n
  .rw[if_pos (.inr J),decide_eq_true J];exact⟨h1,U,λ_=>Ω,λh=>by cases h⟩
  .rw[if_neg (by simp[J]),decide_eq_false J];exact⟨Ω,Ω,(λh=>by cases h),λ_=>Ω⟩
theorem Fr:k8 0 false 0:=by unfold k8 av;exact⟨Ω,Ω,(λh=>by cases h),λ_=>Ω⟩
theorem Fs {n v:Int} {I:Bool} (h:k8 n I v):v=if I=true\/4611686018427387904<n then 4611686018427387904 else n:=by
 obtain⟨h1,W,U,V⟩:=h;unfold av at*;cases I with
 |true=>rw[if_pos (.inl rfl)];exact U rfl
 |false=>
  have:=V rfl;by_cases J:4611686018427387904<n
  .rw[if_pos (.inr J)];omega
  .rw[if_neg (by simp[J])];omega
end Go.Proofs.YtgbkinibgjmodaaGreatDoor
