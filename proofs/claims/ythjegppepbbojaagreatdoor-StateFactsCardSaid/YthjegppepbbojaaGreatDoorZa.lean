/- own texts, made small by a tool (wip/ holds them as they were written): no statement of the seat. -/
import Derived.RangeFuncNested
import Derived.RangeFuncLeaves
import Derived.OrdersIn
import Derived.KernelRfl
import Derived.Deep.Upon
import Derived.RangeFuncBound
import Derived.Deep.MidRow
import Derived.Laws.Cover3
import Derived.Laws.Pointers
import Derived.Laws.StructEq
import Derived.Laws.Tables
import Derived.Below
import Derived.Laws.MakeOwn
import Derived.Lib.Overlaps
import Derived.Lib.AppendZerosOnto
import Derived.Lib.SliceRun
import Derived.OpenShut
import Derived.Lib.ConvBytes
import Derived.Laws.BytesArg
import Derived.Laws.Concat
import Derived.MapKept
import Derived.Carry
import Derived.WideKeyArr
import Derived.WideKeyMaps
import Derived.Laws.IdiomRangeMap
import Derived.Shelf.SlSortCmp.NoneTotal
import Derived.Shelf.SlSortCmp.WholeK
import Derived.Ground.SlsfProg
import Derived.WideKeyEntry
import Derived.WalkKit
import Derived.Test.YthjegppepbbojaaGreatDoorProg
import Derived.Test.YthjegppepbbojaaGreatDoorChecked
set_option linter.unusedVariables false
set_option linter.unusedSimpArgs false
set_option linter.unnecessarySimpa false
open Array renaming getElem?_eq_some_iff→Z1,getElem?_toList→R4
open BitVec renaming ofInt→T4
open Bool renaming not_true→Y6,not_false→W6,and_eq_true→U8,or_eq_false_iff→R3
open Decidable renaming not_not→X9
open Go renaming Value→y0,World→x2,TypeId→o4,IntKind→o6,Builtin→j5,Program→V2,Oper→T7,Operand→S7
open Go.Addr renaming add_mid→T3
open Go.Builtin renaming append_→j4,len_→X0
open Go.Instr renaming loadAt→x7,fieldAt→x8,storeAt→o7,indexAt→l7,extract→Y0,buildSlice→Y1,sliceAt→V5,alloc→S8
open Go.IntKind renaming i64→X2,u64→T0
open Go.Proofs.Tryz renaming prog→x3
open Go.Result renaming andThen→V1
open Go.Sem renaming run_bind→W9,run_pure→V7
open Go.Sort renaming Holds→S9
open Go.Value renaming int→U1
open Int renaming toNat_natCast→j0
open List renaming getElem?_eq_some_iff→x4,mem_of_getElem?→x5,getElem?_eq_getElem→x6,getElem?_map→u4,length_map→u5,getD_eq_getElem?_getD→u9,length_append→r8,take_add_one→r9,length_take→o5,replicate→o8,take_length→o9,take_of_length_le→n0,mem_append→l5,mem_singleton→l9,map_append→j9,length_cons→Z5,mem_map→Z6,eq_nil_of_length_eq_zero→Z8,getElem?_append_left→Y3,getElem?_append_right→Y5,getElem?_take_of_lt→Y7,append_nil→X6,length_set→W0,ext_getElem?→W5,length_eq_one_iff→W7,range→V0,getElem?_set_ne→V3,drop_eq_getElem_cons→V4,getElem?_set_self→U5,mem_of_mem_take→U9,mem_cons→T1,map_cons→T2,set_append_right→T6,map_set→T8,getElem_mem→S3,length_drop→Q2
open Nat renaming le_refl→n9,mul_le_mul_right→X1,zero_le→X7,le_trans→X8,zero_add→V8,sub_self→V9,add_mul→U7,beq→S0,mul_one→S2,le_succ→R6,add_assoc→Q0
open Ne renaming symm→S6
open Option renaming toList_some→j6,isNone_some→Z7,map_some→Y4,map→U6,getD_some→S1
open Option.some renaming injEq→Y8
open Prod.mk renaming injEq→T5
set_option maxHeartbeats 16000000
open Option renaming some→σ,none→ν
abbrev Λ:=List Int
namespace Go
theorem Ω{p:Prop}(h:p:=by omega):p:=h
theorem Ψ{p:Prop}(h:p:=by kernel_rfl):p:=h
theorem Φ{p:Prop}(h:p:=by decide):p:=h
theorem Ξ{p:Prop}(h:p:=by simp):p:=h
theorem Θ{p:Prop}(h:p:=by simp;omega):p:=h
abbrev Γ(n:Nat):Value:=.pointer (some ⟨n,0,none⟩)
abbrev Δ:Int→Value:=Value.int .i64
end Go
variable {a y:Int}{c w w':x2}{S:Nat->Prop}{J V X h j m n o:Nat}{aF s1 sv v z:y0}{args cs vs xs:List y0}{K:y0->Prop}{l szs:Λ}{D:List Nat}{k:o6}{W e t:o4}{cx cy:Bool}
namespace Go.Vc
open Go Go.RowKit
def fw:Obj->Bool
 | .loop _=>false
 | .deferred _=>false
 | .mapIter ..=>false
 |_=>true
def book:Obj->Bool
 | .loop _=>true
 | .deferred _=>true
 |_=>false
theorem Dc {o:Obj} (h:book o=true):fw o=false:=by cases o<;>first|rfl|cases h
def qH:Obj->Bool
 | .mapIter ..=>true
 |_=>false
theorem Dd {o:Obj} (h:qH o=true):fw o=false:=by cases o<;>first|rfl|cases h
structure Ext (w w':x2):Prop where
 size:w.heap.size<=w'.heap.size
 bc:∀ (r:Nat) (o:Obj),w.heap[r]? =σ o->fw o=true->w'.heap[r]? =σ o
theorem Ext.refl (w:x2):Ext w w:=⟨n9 _,λ_ _ h _=>h⟩
theorem Ext.trans {a b:x2} (h:Ext a b) (k:Ext b c):Ext a c:=
 ⟨X8 h.size k.size,λr o U J=>k.bc r o (h.bc r o U J) J⟩
structure ae (S:Nat->Prop) (w w':x2):Prop where
 size:w.heap.size<=w'.heap.size
 bc:∀ (r:Nat) (o:Obj),w.heap[r]? =σ o->fw o=true->¬S r->w'.heap[r]? =σ o
theorem Ext.ab (S:Nat->Prop) (h:Ext w w'):ae S w w':=⟨h.size,λr o U J _=>h.bc r o U J⟩
theorem ae.ext (h:ae S w w') (V:∀r,r<w.heap.size->¬S r):Ext w w':=
 ⟨h.size,λr o U J=>h.bc r o U J (V r (Z1.1 U).1)⟩
theorem ae.refl (S:Nat->Prop) (w:x2):ae S w w:=⟨n9 _,λ_ _ h _ _=>h⟩
theorem ae.trans {a b:x2} (h:ae S a b) (k:ae S b c):ae S a c:=
 ⟨X8 h.size k.size,λr o V J U=>k.bc r o (h.bc r o V J U) J U⟩
theorem ae.mono {T:Nat->Prop} {a b:x2} (h:ae S a b) (V:∀r,r<a.heap.size->S r->T r):ae T a b:=
 ⟨h.size,λr o U J W=>h.bc r o U J λX=>W (V r (Z1.1 U).1 X)⟩
theorem Ext.then {a b:x2} (h:Ext a b) (k:ae S b c) (V:∀r,r<a.heap.size->¬S r):Ext a c:=
 ⟨X8 h.size k.size,λr o U J=>k.bc r o (h.bc r o U J) J (V r (Z1.1 U).1)⟩
def jr (w w':x2):Prop:=w'.tape=w.tape/\w.drawn<=w'.drawn
theorem jr.jV (h:w'.tape=w.tape:=by rfl) (k:w'.drawn=w.drawn:=by rfl):jr w w':=⟨h,Nat.le_of_eq k.symm⟩
theorem jr.trans {a b:x2} (k:jr b c) (h:jr a b):jr a c:=⟨k.1.trans h.1,X8 h.2 k.2⟩
structure cY (w w':x2):Prop where
 os:w'.os=w.os
 tape:jr w w'
 output:w'.output=w.output
 size:w.heap.size<=w'.heap.size
 bc:∀ (r:Nat) (o:Obj),w.heap[r]? =σ o->fw o=false->w'.heap[r]? =σ o
structure cp (n:Nat) (w w':x2):Prop where
 os:w'.os=w.os
 tape:jr w w'
 output:w'.output=w.output
 size:w.heap.size<=w'.heap.size
 bc:∀ (r:Nat) (o:Obj),w.heap[r]? =σ o->book o=true->w'.heap[r]? =σ o
 old:∀ (r:Nat) (o:Obj),r<n->w.heap[r]? =σ o->fw o=false->w'.heap[r]? =σ o
theorem cY.b (h:cY w w'):cp n w w':=⟨h.os,h.tape,h.output,h.size,λr o U J=>h.bc r o U (Dc J),λr o _ U J=>h.bc r o U J⟩
theorem cp.refl (n:Nat) (w:x2):cp n w w:=⟨rfl,.jV,rfl,n9 _,λ_ _ h _=>h,λ_ _ _ h _=>h⟩
theorem cp.trans {a b:x2} (h:cp n a b) (k:cp n b c):cp n a c:=
 ⟨k.os.trans h.os,k.tape.trans h.tape,k.output.trans h.output,X8 h.size k.size,λr o U J=>k.bc r o (h.bc r o U J) J,λr o V U J=>k.old r o V (h.old r o V U J) J⟩
theorem cp.step {a b:x2} (h:cp n a b) (k:cp m b c) (hm:a.heap.size<=m):cp n a c:=
 ⟨k.os.trans h.os,k.tape.trans h.tape,k.output.trans h.output,X8 h.size k.size,λr o U J=>k.bc r o (h.bc r o U J) J,
  λr o V U J=>k.old r o (Nat.lt_of_lt_of_le (Z1.1 U).1 hm) (h.old r o V U J) J⟩
theorem cp.dc (h:cp n w w') (V:w.heap.size<=n):cY w w':=
 ⟨h.os,h.tape,h.output,h.size,λr o U J=>h.old r o (Nat.lt_of_lt_of_le (Z1.1 U).1 V) U J⟩
def eP (w w':x2):Prop:=∀ (r:Nat) (o:Obj),w.heap[r]? =σ o->qH o=true->w'.heap[r]? =σ o
theorem eP.refl (w:x2):eP w w:=λ_ _ h _=>h
theorem eP.trans {a b:x2} (h:eP a b) (k:eP b c):eP a c:=λr o U J=>k r o (h r o U J) J
theorem cY.ly (h:cY w w'):eP w w':=λr o U J=>h.bc r o U (Dd J)
abbrev ff:=Bool×Nat
theorem cY.refl (w:x2):cY w w:=⟨rfl,.jV,rfl,n9 _,λ_ _ h _=>h⟩
theorem cY.trans {a b:x2} (h:cY a b) (k:cY b c):cY a c:=
 ⟨k.os.trans h.os,k.tape.trans h.tape,k.output.trans h.output,X8 h.size k.size,λr o U J=>k.bc r o (h.bc r o U J) J⟩
theorem qI (w:x2) (n:Nat):Ext w {w with drawn:=n}:=⟨n9 _,λ_ _ h _=>h⟩
theorem o3 (w:x2) (n:Nat) (h:w.drawn<=n):cY w {w with drawn:=n}:=⟨rfl,⟨rfl,h⟩,rfl,n9 _,λ_ _ h _=>h⟩
theorem pa (w:x2) (o:Obj):Ext w {w with heap:=w.heap.push o}:=
 ⟨Ξ,λr o' h _=>by
  have J:=(Z1.1 h).1;simp only[Array.getElem?_push];rw[if_neg Ω];exact h⟩
theorem pb (w:x2) (o:Obj):cY w {w with heap:=w.heap.push o}:=
 ⟨rfl,.jV,rfl,Ξ,λr o' h _=>by
  have J:=(Z1.1 h).1;simp only[Array.getElem?_push];rw[if_neg Ω];exact h⟩
inductive ep where
 |v (x:y0)
 |b (c:Bool)
 |u
def ep.val:ep->y0
 | .v x=>x
 | .b c=>.bool c
 | .u=>undef
def ep.ofConst:y0->ep
 | .bool c=>.b c
 |x=>.v x
theorem ep.De (x:y0):(ep.ofConst x).val=x:=by cases x<;>rfl
abbrev Env:=List (Nat×ep)
def look:Env->Nat->Option ep
 |[],_=>ν
 |(s,x)::r,t=>bif S0 s t then σ x else look r t
def ez (e:Env):S7->Option ep
 | .tmp t=>look e t
 | .const x=>σ (ep.ofConst x)
 | .global g=>σ (.v (Γ g))
 | .func f=>σ (.v (.func (.func f) #[] #[]))
def cS (e:Env) (x:S7):y0:=
 match ez e x with
 |some y=>y.val
 |none=>undef
def known (e:Env):List S7->Bool
 |[]=>true
 |x::r=>(ez e x).isSome&&known e r
def S9 (N:Nat) (e:Env) (a:Act):Prop:=
 a.tmps.size=N/\ ∀t x,look e t=σ x->a.tmps.getD t undef=x.val
theorem S9.ez {N:Nat} {e:Env} {a:Act} (h:S9 N e a) {x:S7} {y:ep} (J:Vc.ez e x=σ y):a.eval x=y.val:=by
 cases x with
 |tmp t=>exact h.2 t y J
 |const v=>simp[Vc.ez] at J;subst J;simp[Act.eval,ep.De]
 |global g=>simp[Vc.ez] at J;subst J;rfl
 |func f=>simp[Vc.ez] at J;subst J;rfl
theorem S9.eval {N:Nat} {e:Env} {a:Act} (h:S9 N e a) {x:S7} (U:(Vc.ez e x).isSome=true):a.eval x=cS e x:=by
 obtain⟨y,J⟩:=Option.isSome_iff_exists.1 U;rw[h.ez J];simp[cS,J]
theorem s3 {e:Env}:∀ {l:List S7},known e l=true-> ∀x∈l,(ez e x).isSome=true
 |[],_,_,J=>by cases J
 |y::r,h,x,J=>by
  simp only[known,U8] at h;cases J with
  |head=>exact h.1
  |tail _ J=>exact s3 h.2 x J
def dN (e:Env) (d:Option Tmp) (x:ep):Env:=
 match d with
 |some t=>(t,x)::e
 |none=>e
def iR (N:Nat) (d:Option Tmp):Bool:=
 match d with
 |some t=>Nat.blt t N
 |none=>true
theorem S9.put {N:Nat} {e:Env} {a:Act} (h:S9 N e a) {d:Option Tmp} (W:iR N d=true) {x:ep} (X:x.val=v):
  S9 N (dN e d x) (a.put d v):=by
 cases d with
 |none=>exact h
 |some t=>
  have Y:t<N:=by simpa[iR,Nat.blt_eq] using W
  refine⟨by simp[Act.put,h.1],λs y J=>?_⟩;simp only[dN,look] at J;cases U:S0 t s with
  |true=>
   have V:t=s:=Nat.eq_of_beq_eq_true U;subst V;simp only[U,cond_true,Y8] at J;subst J;simp[Act.put,h.1,Y,X]
  |false=>
   have V:t≠s:=Nat.ne_of_beq_eq_false U;simp only[U,cond_false] at J;have:=h.2 s y J;simp only[Act.put,Array.getD_eq_getD_getElem?] at this ⊢;rw[Array.getElem?_setIfInBounds_ne V];exact this
def eg (r:Option Nat):Fence:={Fence.wide with round:=r}
theorem s4 (r:Option Nat) (n:Nat):(eg r).depth.isSome=true->1<=n:=λh=>by simp[eg,Fence.wide] at h
theorem wB {r:Option Nat} {P:V2} {f:FuncId} {args:Array y0} {R:Ending->x2->Prop}
  (h:Calls P f args w R):CallsIn (eg r) n P f args w R:=by
 have:=(callsIn_wide (n:=n)).2 h;exact this
section
variable (P:V2)
def ay {α:Type} (s:Sem α) (w:x2) (K:α->x2->Prop):Prop:=∃v w',s.run P w= .ok v w'/\cY w w'/\K v w'
def qJ {α:Type} (free:ff) (s:Sem α) (w:x2) (K:α->x2->Prop):Prop:=∃v w',s.run P w= .ok v w'/\(free.1=false->cp free.2 w w')/\K v w'
def Split (x:y0) (A B:Prop):Prop:=∃c,x= .bool c/\(c=true->A)/\(c=false->B)
def aI:Bool->S7
 |true=>.const (.bool true)
 |false=>.tmp 0
def nD:S7->Bool
 | .const _=>true
 |_=>false
theorem Df (op:BinOp) (t:o4) (x y:S7) (a b:y0):eqGuard op t x y a b=eqGuard op t (aI (nD x)) (aI (nD y)) a b:=by
 cases x<;>cases y<;>rfl
def aA (op:BinOp) (t:o4) (cx cy:Bool) (a b:y0):Sem y0:=do eqGuard op t (aI cx) (aI cy) a b;binOp op t a b
def qK (s:Sem Next):Sem y0:=do
 match <-s with
 | .value v=>pure v
 |_=>stuck "no value"
def bd (x:y0):Sem y0:=qK (execOp (λ_=>x) {dst:=ν,op:=.nilCheck (.tmp 0),type:=0,pos:= "",after:=#[],guard:=ν})
def b3 (J:S7->y0):List S7->List y0
 |[]=>[]
 |x::r=>J x::b3 J r
theorem qL (J:S7->y0):∀l,b3 J l=l.map J
 |[]=>rfl
 |x::r=>by simp[b3,qL J r]
theorem s5 (J:S7->y0) (l:Array S7):(b3 J l.toList).toArray=l.map J:=by
 apply Array.toList_inj.1;simp[qL]
def partsOf (J:S7->y0):List (Nat×S7)->List (Nat×y0)
 |[]=>[]
 |x::r=>(x.1,J x.2)::partsOf J r
theorem wC (J:S7->y0):∀l,partsOf J l=l.map λ(i,x)=>(i,J x)
 |[]=>rfl
 |x::r=>by simp[partsOf,wC J r]
theorem Dg (J:S7->y0) (l:Array (Nat×S7)):(partsOf J l.toList).toArray=l.map λ(i,x)=>(i,J x):=by
 apply Array.toList_inj.1;simp[wC]
def opsOf:Op->List S7
 | .alloc _| .ready _| .waits _=>[]
 | .move x| .assign x| .box _ x| .load _ x| .nilCheck x| .unOp _ _ x| .convert _ _ x| .sliceToArrayPointer _ x| .makeInterface _ x
 | .makeChan _ x| .fieldAddr _ x _| .field _ x _| .range _ x| .next x _| .entry x| .typeAssert x _ _ _| .extract x _| .panic x| .recv _ x _=>[x]
 | .pick c a b=>[c,a,b]
 | .build _ J| .buildSlice _ _ J=>J.toList.map (·.2)
 | .store _ a v| .binOp _ _ a v _| .makeSlice _ a v| .indexAddr _ a v| .index _ a v| .lookup _ a v _| .mapEntry _ a v| .send a v=>[a,v]
 | .makeFunc _ first U=>first.toList++U.toList
 | .makeMap _ r=>match r with
  |some x=>[x]
  |none=>[]
 | .slice _ x l h m=>x::((match l with
  |some y=>[y]
  |none=>[])++((match h with
  |some y=>[y]
  |none=>[])++(match m with
  |some y=>[y]
  |none=>[])))
 | .mapUpdate _ m k v| .entryStore _ m k v| .insert _ m k v=>[m,k,v]
 | .call c=>match c.callee with
  | .value f=>f::c.args.toList
  | .invoke r _=>r::c.args.toList
  | .builtin _=>c.args.toList
 | .go _| .defer _| .select ..=>[]
theorem Dh {op:Op} (h1:∀c,op≠ .go c) (U:∀c,op≠ .defer c) (V:∀cs b,op≠ .select cs b):∀x∈op.operands,x∈opsOf op:=by
 intro x J;cases op<;>simp only[Op.operands,opsOf] at J ⊢<;>try (first|(simp at J;done)|(simp at J ⊢;exact J))
 case go c=>exact absurd rfl (h1 c)
 case defer c=>exact absurd rfl (U c)
 case select cs b=>exact absurd rfl (V cs b)
 case makeMap t r=>cases r<;>simp at J ⊢<;>exact J
 case slice t y l h m=>cases l<;>cases h<;>cases m<;>simpa[or_assoc] using J
 case call c=>cases W:c.callee<;>simpa[Call.operands,W] using J
def pc (J:S7->y0):Op->Option (Sem y0)
 | .pick c a b=>σ (do pure (if <-asBool (J c) then J a else J b))
 | .alloc V=>σ (S8 V true (.tuple #[]))
 | .box V x=>σ (Instr.box V (J x))
 | .build t parts=>σ (Instr.build t (partsOf J parts.toList).toArray)
 | .buildSlice t len parts=>σ (Y1 t len (partsOf J parts.toList).toArray)
 | .load t a=>σ (x7 t (J a))
 | .nilCheck x=>σ (bd (J x))
 | .binOp op fY x y _=>σ (aA op fY (nD x) (nD y) (J x) (J y))
 | .unOp op _ x=>σ (Op.unary op (J x))
 | .convert src dst x=>σ (convert src dst (J x))
 | .makeInterface fY x=>σ (Instr.makeInterface fY (J x))
 | .makeFunc fn first W=>σ (Instr.makeFunc fn (b3 J first.toList).toArray (b3 J W.toList).toArray)
 | .makeMap t r=>σ (Instr.makeMap t (r.map J))
 | .makeSlice t l c=>σ (Instr.makeSlice t (J l) (J c))
 | .slice t x lo hi mx=>σ (V5 t (J x) (lo.map J) (hi.map J) (mx.map J))
 | .fieldAddr s x f=>σ (x8 s (J x) f)
 | .field fY x f=>σ (Instr.field fY (J x) f)
 | .indexAddr t x U=>σ (l7 t (J x) (J U))
 | .index fY x U=>σ (Instr.index fY (J x) (J U))
 | .lookup fY x U ok=>σ (Instr.lookup fY (J x) (J U) ok)
 | .mapEntry t m k=>σ (Instr.mapEntry t (J m) (J k))
 | .range fY x=>σ (Instr.range fY (J x))
 | .entry X=>σ (Instr.entry (J X))
 | .typeAssert x fY Y ok=>σ (Instr.typeAssert (J x) fY Y ok)
 | .extract t U=>σ (Y0 (J t) U)
 |_=>ν
def s6 (J:S7->y0):Op->Option (Sem Unit)
 | .store t a x=>σ (o7 t (J a) (J x))
 | .mapUpdate t m k x=>σ (Instr.mapUpdate t (J m) (J k) (J x))
 | .insert t m k x=>σ (Instr.mapUpdate t (J m) (J k) (J x))
 | .entryStore t m s x=>σ (Instr.entryStore t (J m) (J s) (J x))
 |_=>ν
def nE (b:j5) (ats:Array o4) (J:o4) (args:Array y0):Option (Sem y0):=
 match b with
 | .append=>σ (j4 ats J args)
 | .cap=>σ (j5.cap_ ats J args)
 | .clear=>σ (j5.clear_ ats J args)
 | .copy=>σ (j5.copy_ ats J args)
 | .delete=>σ (j5.delete_ ats J args)
 | .len=>σ (X0 ats J args)
 | .max=>σ (j5.max_ ats J args)
 | .min=>σ (j5.min_ ats J args)
 |_=>ν
theorem Di {s:Sem Next} (h:(qK s).run P w= .ok v w'):s.run P w= .ok (.value v) w':=by
 unfold qK at h;rw[W9] at h;cases J:s.run P w with
 |halt x V=>rw[J] at h;simp[V1] at h
 |ok x V=>
  rw[J] at h;cases x<;>simp_all [V1,stuck,V7]
theorem Dj (x:y0) (b:Bool) (t:o4):Instr.next x b 0=Instr.next x b t:=rfl
theorem s7 {W:S7->y0} {o:T7} {s:Sem y0} (h:pc W o.op=σ s) (J:s.run P w= .ok v w'):
  (execOp W o).run P w= .ok (.value v) w':=by
 cases U:o.op with
 |nilCheck x=>
  rw[U] at h;cases h;have:=Di P J;unfold execOp at this ⊢;simpa[U] using this
 |pick c x y=>
  rw[U] at h;cases h;unfold execOp;simp only[U,W9,V7] at J ⊢;cases X:(asBool (W c)).run P w with
  |halt x V=>rw[X] at J;simp[V1] at J
  |ok x V=>rw[X] at J;simp only[V1,Result.ok.injEq] at J ⊢;simp[J]
 |binOp op fY x y Y=>
  rw[U] at h;cases h;unfold execOp;simp only[U];unfold aA at J;rw[<-Df] at J;simp only[W9,V7] at J ⊢;rw[J];rfl
 |_=>
  rw[U] at h
  first
   |(cases h;done)
   |(cases h;simp only[s5,Dg] at J;unfold execOp;simp only[U,W9,J,V1,V7])
   |(cases h;unfold execOp;simp only[U,W9,J,V1,V7])
theorem Dk {J:S7->y0} {o:T7} {s:Sem Unit} (h:s6 J o.op=σ s) {v:Unit} (V:s.run P w= .ok v w'):
  (execOp J o).run P w= .ok .skip w':=by
 cases U:o.op with
 |_=>
  rw[U] at h
  first
   |(cases h;done)
   |(cases h;unfold execOp;simp only[U,W9,V,V1,V7])
def Enters (f:FuncId):Prop:=∀args w,(callFunc f args).run P w= .ok (.enter f args) w
inductive ai (f:FuncId) (args:List y0) (w:x2) (K:y0->x2->Prop):Prop
 |code (h1:Enters P f) (h2:Calls P f args.toArray w λe w'=>∃v,e= .returned v/\cY w w'/\K v w')
 |ext (v:y0) (w':x2) (h1:(callFunc f args.toArray).run P w= .ok (.value v) w') (h2:cY w w') (h3:K v w')
inductive gu (f:FuncId) (args:List y0) (w:x2) (K:y0->x2->Prop):Prop
 |code (h1:Enters P f) (h2:Calls P f args.toArray w λe w'=>∃v,e= .returned v/\K v w')
 |ext (v:y0) (w':x2) (h1:(callFunc f args.toArray).run P w= .ok (.value v) w') (h3:K v w')
theorem gu.calls {f:FuncId} {K:y0->x2->Prop} (h:gu P f args w K) (J:Enters P f):Calls P f args.toArray w λe w'=>∃v,e= .returned v/\K v w':=by
 cases h with
 |code _ h=>exact h
 |ext v w' h1=>rw[J] at h1;cases h1
def iS (l:Nat) (args:List y0) (w:x2) (K:y0->x2->Prop):Prop:=
 YieldAt Fence.wide 0 P l args.toArray w λe w'=>∃v,e= .returned v/\K v w'
theorem iS.mono {P:V2} {l:Nat} {K J:y0->x2->Prop} (h:iS P l args w K) (U:∀v w',K v w'->J v w'):iS P l args w J:=by
 obtain⟨fn,tmps,V,body,W,X⟩:=h;exact⟨fn,tmps,V,body,W,RoundIn.mono X λ_ w' ⟨v,h1,Y⟩=>⟨v,h1,U v w' Y⟩⟩
def qM (free:Bool) (f:y0) (args:List y0) (w:x2) (K:y0->x2->Prop):Prop:=
 match f with
 | .func (.func g) first cap=>bif free then gu P g (first.toList++args++cap.toList) w K else ai P g (first.toList++args++cap.toList) w K
 | .func (.yield l) first _=>bif free then free=true/\iS P l (first.toList++args) w K else iS P l (first.toList++args) w λv w'=>cY w w'/\K v w'
 |_=>False
def U (s:Sem y0) (w:x2) (K:y0->Prop):Prop:=∃v,(∀w',Ext w w'->s.run P w'= .ok v w')/\K v
def Dl:List (Nat×Nat):=[(9,22),(22,22)]
def Dm (s d:Nat):Bool:=Dl.any λp=>S0 p.1 s&&S0 p.2 d
def ir (o:T7):Bool:=
 match o.op with
 | .convert s d _=>!Dm s d
 | .move _| .assign _| .pick .. | .load .. | .nilCheck _| .binOp .. | .unOp .. | .makeInterface .. | .makeFunc .. | .slice .. | .fieldAddr .. | .field ..
 | .indexAddr .. | .index .. | .lookup .. | .extract .. | .build .. | .typeAssert ..=>true
 | .call c=>
  match c.callee with
  | .builtin .len| .builtin .cap| .builtin .min| .builtin .max=>true
  |_=>false
 |_=>false
def bw (s:Sem y0) (v:y0) (w':x2):Prop:=∀J,Ext w' J->s.run P J= .ok v J
def kJ (o:T7) (e:Env) (w:x2) (K:Env->(x2->Prop)->Prop):Prop:=
 bif known e (opsOf o.op) then
  match o.op with
  | .move x| .assign x=>
   match ez e x with
   |some y=>K (dN e o.dst y) (λ_=>True)
   |none=>False
  | .pick c a b=>
   match ez e c with
   |some (.b true)=>(match ez e a with|some y=>K (dN e o.dst y) (λ_=>True)|none=>False)
   |some (.b false)=>(match ez e b with|some y=>K (dN e o.dst y) (λ_=>True)|none=>False)
   |some (.v x)=>Split x (K (dN e o.dst (.v (cS e a))) (λ_=>True)) (K (dN e o.dst (.v (cS e b))) (λ_=>True))
   |some .u=>False
   |none=>False
  | .call c=>
   match c.callee with
   | .builtin b=>
    match nE b c.argTypes o.type (b3 (cS e) c.args.toList).toArray with
    |some s=>U P s w λv=>K (dN e o.dst (.v v)) (bw P s v)
    |none=>False
   |_=>False
  |op=>
   match pc (cS e) op with
   |some s=>U P s w λv=>K (dN e o.dst (.v v)) (bw P s v)
   |none=>False
 else False
def s8 (free:ff) (o:T7) (e:Env) (w:x2) (K:Env->x2->Prop):Prop:=
 bif known e (opsOf o.op) then
  match o.op with
  | .call c=>
   match c.callee with
   | .builtin b=>
    match nE b c.argTypes o.type (b3 (cS e) c.args.toList).toArray with
    |some s=>ay P s w λv w'=>K (dN e o.dst (.v v)) w'
    |none=>False
   | .value (.func f)=>
    bif free.1 then gu P f (b3 (cS e) c.args.toList) w λv w'=>K (dN e o.dst (.v v)) w'
    else ai P f (b3 (cS e) c.args.toList) w λv w'=>K (dN e o.dst (.v v)) w'
   | .value x=>qM P free.1 (cS e x) (b3 (cS e) c.args.toList) w λv w'=>K (dN e o.dst (.v v)) w'
   | .invoke _ _=>False
  | .next x str=>qJ P free (Instr.next (cS e x) str 0) w λv w'=>K (dN e o.dst (.v v)) w'
  |op=>
   match pc (cS e) op with
   |some s=>ay P s w λv w'=>K (dN e o.dst (.v v)) w'
   |none=>
    match s6 (cS e) op with
    |some s=>ay P s w λ_ w'=>K (dN e o.dst (.v undef)) w'
    |none=>False
 else False
def nF (free:ff) (o:T7) (e:Env) (w:x2) (K:Env->x2->Prop):Prop:=
 bif ir o then kJ P o e w (λJ _=>K J w) else s8 P free o e w K
theorem Enters.of {f:FuncId} {fn:Func} {c:Code} (J:P.funcs[f]? =σ fn) (U:fn.body=σ c) (V:(fn.name == "runtime.NumGoroutine")=false):Enters P f:=by
 intro args w;have W:fn.name≠ "runtime.NumGoroutine":=by simpa using V
 unfold callFunc;simp[W9,program,Sem.run,V1,J,W,U,V7]
variable {P}
variable {N:Nat} {r:Option Nat} {o:T7} {e:Env} {a:Act} {w:x2}
theorem js (U:S9 N e a) (hk:known e (opsOf o.op)=true) (J:∀cs b,o.op≠ .select cs b) (V:∀c,o.op≠ .go c:=by simp_all) (W:∀c,o.op≠ .defer c:=by simp_all):
  execOp a.eval o=execOp (cS e) o:=
 execOp_congr o J λx X=>U.eval (s3 hk x (Dh V W J x X))
theorem pd {next:Act->x2->Prop} {Q:Exit->Act->x2->Prop} (V:S9 N e a) (hk:known e (opsOf o.op)=true) (J:∀cs b,o.op≠ .select cs b)
  (U:∀c,o.op≠ .defer c) {v:y0} {w':x2} (W:(execOp (cS e) o).run P w= .ok (.value v) w') (h:next (a.put o.dst v) w') (X:∀c,o.op≠ .go c:=by simp_all):o.wpIn (eg r) 0 P a w next Q:=by
 refine⟨λ_ _=>trivial,?_⟩;rw[T7.semAt_eq _ _ _ U,js V hk J X U,W,T7.uponIn_value];exact h
theorem Dn {next:Act->x2->Prop} {Q:Exit->Act->x2->Prop} (V:S9 N e a) (hk:known e (opsOf o.op)=true) (J:∀cs b,o.op≠ .select cs b)
  (U:∀c,o.op≠ .defer c) {w':x2} (W:(execOp (cS e) o).run P w= .ok .skip w') (h:next (a.put o.dst undef) w') (X:∀c,o.op≠ .go c:=by simp_all):o.wpIn (eg r) 0 P a w next Q:=by
 refine⟨λ_ _=>trivial,?_⟩;rw[T7.semAt_eq _ _ _ U,js V hk J X U,W,T7.uponIn_skip];exact h
def e3 (N:Nat) (free:ff) (K:Env->x2->Prop) (o:T7) (a:Act) (w:x2) (a':Act) (w':x2):Prop:=
 ∃J v,K J w'/\S9 N J a'/\a'=a.put o.dst v/\(free.1=false->cp free.2 w w')
theorem e3.of {free:ff} {K:Env->x2->Prop} {x:ep} (J:K (dN e o.dst x) w') (U:S9 N e a) (V:iR N o.dst=true) (W:x.val=v)
  (X:free.1=false->cp free.2 w w'):e3 N free K o a w (a.put o.dst v) w':=⟨_,v,J,U.put V W,rfl,X⟩
theorem wD {free:ff} {K:Env->x2->Prop} {Q:Exit->Act->x2->Prop} {f:FuncId} {args:Array y0} (U:S9 N e a) (V:iR N o.dst=true)
  (h:Calls P f args w λJ w'=>∃v,J= .returned v/\(free.1=false->cp free.2 w w')/\K (dN e o.dst (.v v)) w'):
  o.uponIn (eg r) 0 P a (e3 N free K o a w) Q (.ok (.enter f args) w):=by
 rw[T7.uponIn_enter];refine⟨s4 _ _,CallsIn.mono (wB h) ?_⟩;rintro J w' ⟨v,rfl,W,X⟩;exact e3.of X U V rfl W
theorem kK {x:S7} {y:ep} (h:ez e x=σ y):cS e x=y.val:=by simp[cS,h]
theorem wE {l:List S7} {x:S7} (hk:known e l=true) (J:x∈l):∃y,ez e x=σ y:=Option.isSome_iff_exists.1 (s3 hk x J)
theorem wF {K:Env->(x2->Prop)->Prop} (h:kJ P o e w K) (aa:S9 N e a) (ai:iR N o.dst=true):
  ∃v,∃st:x2->Prop,(∀w',Ext w w'->(execOp a.eval o).run P w'= .ok (.value v) w')/\(∃ab,K ab st/\S9 N ab (a.put o.dst v))/\(∀c,o.op≠ .defer c)/\
   (∀w',st w'-> ∀V,Ext w' V->(execOp a.eval o).run P V= .ok (.value v) V):=by
 unfold kJ at h;cases hk:known e (opsOf o.op) with
 |false=>rw[hk] at h;exact h.elim
 |true=>
  rw[hk] at h;simp only[cond_true] at h;have put:∀ {x:ep} {v:y0} {st:x2->Prop},K (dN e o.dst x) st->x.val=v-> ∃ab,K ab st/\S9 N ab (a.put o.dst v):=λh1 ac=>⟨_,h1,aa.put ai ac⟩;cases U:o.op with
  |move x=>
   rw[U] at h;simp only at h;cases X:ez e x with
   |none=>rw[X] at h;exact h.elim
   |some y=>
    rw[X] at h;have all:∀w':x2,(execOp a.eval o).run P w'= .ok (.value y.val) w':=λw'=>by
     rw[js aa hk (by simp[U])];unfold execOp;simp only[U,V7,kK X]
    exact⟨y.val,_,λw' _=>all w',put h rfl,Ξ,λ_ _ V _=>all V⟩
  |assign x=>
   rw[U] at h;simp only at h;cases X:ez e x with
   |none=>rw[X] at h;exact h.elim
   |some y=>
    rw[X] at h;have all:∀w':x2,(execOp a.eval o).run P w'= .ok (.value y.val) w':=λw'=>by
     rw[js aa hk (by simp[U])];unfold execOp;simp only[U,V7,kK X]
    exact⟨y.val,_,λw' _=>all w',put h rfl,Ξ,λ_ _ V _=>all V⟩
  |pick c x y=>
   rw[U] at h;simp only at h;have ae:=hk;rw[U] at ae;obtain⟨am,X⟩:=wE ae (x:=x) (by simp[opsOf]);obtain⟨an,ah⟩:=wE ae (x:=y) (by simp[opsOf]);have ad:∀ (t:Bool) (w':x2),cS e c= .bool t->(execOp a.eval o).run P w'= .ok (.value (if t=true then cS e x else cS e y)) w':=by
    intro t w' af;rw[js aa hk (by simp[U])];unfold execOp;simp[U,af,asBool,V7]
   cases W:ez e c with
   |none=>rw[W] at h;exact h.elim
   |some aj=>
    rw[W] at h;cases aj with
    |b t=>
     cases t with
     |true=>
      simp only[X] at h;exact⟨_,_,λw' _=>ad true w' (kK W),put h (by simp[kK X]),Ξ,λ_ _ w' _=>ad true w' (kK W)⟩
     |false=>
      simp only[ah] at h;exact⟨_,_,λw' _=>ad false w' (kK W),put h (by simp[kK ah]),Ξ,λ_ _ w' _=>ad false w' (kK W)⟩
    |v z=>
     obtain⟨t,ak,af,al⟩:=h;have Y:=λw'=>ad t w' (by rw[kK W];exact ak);cases t with
     |true=>exact⟨_,_,λw' _=>Y w',put (af rfl) rfl,Ξ,λ_ _ w' _=>Y w'⟩
     |false=>exact⟨_,_,λw' _=>Y w',put (al rfl) rfl,Ξ,λ_ _ w' _=>Y w'⟩
    |u=>exact h.elim
  |call c=>
   rw[U] at h;simp only at h;cases W:c.callee with
   |builtin b=>
    rw[W] at h;simp only at h;rw[s5] at h;cases J:nE b c.argTypes o.type (c.args.map (cS e)) with
    |none=>rw[J] at h;exact h.elim
    |some s=>
     rw[J] at h;obtain⟨v,Y,ag⟩:=h;have all:∀w':x2,s.run P w'= .ok v w'->(execOp a.eval o).run P w'= .ok (.value v) w':=λw' Y=>by
      rw[js aa hk (by simp[U])];unfold execOp;cases b<;>simp only[nE] at J<;>first|(cases J;done)|(cases J;simp[U,W,resolve,invoke,builtin,Y,V1])
     exact⟨v,_,λw' hw=>all w' (Y w' hw),put ag rfl,Ξ,λw' h1 V ac=>all V (h1 V ac)⟩
   |value x=>rw[W] at h;exact h.elim
   |invoke x m=>rw[W] at h;exact h.elim
  |_=>
   rw[U] at h
   first
    |(simp only[pc] at h;done)
    |(obtain⟨v,Y,ag⟩:=h
      refine⟨v,_,λw' hw=>?_,put ag rfl,Ξ,λw' h1 V ac=>?_⟩
      .rw[js aa hk (by simp[U])];exact s7 P (by rw[U];rfl) (Y w' hw)
      .rw[js aa hk (by simp[U])];exact s7 P (by rw[U];rfl) (h1 V ac))
theorem Do {free:ff} {K:Env->x2->Prop} {Q:Exit->Act->x2->Prop} (h:s8 P free o e w K) (V:S9 N e a) (ab:iR N o.dst=true):
  o.wpIn (eg r) 0 P a w (e3 N free K o a w) Q:=by
 unfold s8 at h;cases hk:known e (opsOf o.op) with
 |false=>rw[hk] at h;exact h.elim
 |true=>
  rw[hk] at h;simp only[cond_true] at h;cases U:o.op with
  |call c=>
   rw[U] at h;simp only at h;cases ac:c.callee with
   |builtin b=>
    rw[ac] at h;simp only at h;rw[s5] at h;cases J:nE b c.argTypes o.type (c.args.map (cS e)) with
    |none=>rw[J] at h;exact h.elim
    |some s=>
     rw[J] at h;obtain⟨v,w',W,Y,aa⟩:=h;refine pd V hk (by simp[U]) (by simp[U]) (v:=v) (w':=w') ?_ (e3.of aa V ab rfl λ_=>Y.b);unfold execOp;cases b<;>simp only[nE] at J<;>first|(cases J;done)|(cases J;simp[U,ac,resolve,invoke,builtin,W,V1])
   |value x=>
    rw[ac] at h;have step:∀ (d:Deferred) (y:y0),cS e x=y->Deferred.ofValue y (c.args.map (cS e))=pure d->
      (invoke d.target d.args).run P w=(execOp (cS e) o).run P w:=by
     intro d y X am;unfold execOp;simp only[U,ac,resolve,X,am,W9,V7,V1]
    have af:∀ (g:FuncId) (first cap:Array y0),cS e x= .func (.func g) first cap->
      (execOp (cS e) o).run P w=(callFunc g (first.toList++b3 (cS e) c.args.toList++cap.toList).toArray).run P w:=by
     intro g first cap X
     rw[<-step {target:=.fn (.func g) cap,args:=first++c.args.map (cS e)} _ X rfl];simp only[invoke];have ag:first++c.args.map (cS e)++cap=(first.toList++b3 (cS e) c.args.toList++cap.toList).toArray:=by apply Array.toList_inj.1;simp[qL]
     rw[ag]
    have enter:∀ (g:FuncId) (first cap:Array y0),cS e x= .func (.func g) first cap->Enters P g->
      (execOp (cS e) o).run P w= .ok (.enter g (first.toList++b3 (cS e) c.args.toList++cap.toList).toArray) w:=by
     intro g first cap X ad
     rw[af g first cap X,ad]
    have go:∀ (g:FuncId) (first cap:Array y0),cS e x= .func (.func g) first cap->
      (bif free.1 then gu P g (first.toList++b3 (cS e) c.args.toList++cap.toList) w λv w'=>K (dN e o.dst (.v v)) w'
       else ai P g (first.toList++b3 (cS e) c.args.toList++cap.toList) w λv w'=>K (dN e o.dst (.v v)) w')->
      o.wpIn (eg r) 0 P a w (e3 N free K o a w) Q:=by
     intro g first cap X h
     obtain⟨fr,an⟩:=free;cases fr with
     |true=>
      rcases h with⟨ad,ah⟩|⟨v,w',W,aa⟩
      .refine⟨λ_ _=>trivial,?_⟩;rw[T7.semAt_eq _ _ _ (by simp[U]),js V hk (by simp[U])];rw[enter g first cap X ad];exact wD V ab (ah.mono λae w' ⟨v,h1,aj⟩=>⟨v,h1,(λh=>by cases h),aj⟩)
      .rw[<-af g first cap X] at W;exact pd V hk (by simp[U]) (by simp[U]) W (e3.of aa V ab rfl λh=>by cases h)
     |false=>
      rcases h with⟨ad,ah⟩|⟨v,w',W,Y,aa⟩
      .refine⟨λ_ _=>trivial,?_⟩;rw[T7.semAt_eq _ _ _ (by simp[U]),js V hk (by simp[U])];rw[enter g first cap X ad];exact wD V ab (ah.mono λae w' ⟨v,h1,Y,aj⟩=>⟨v,h1,λ_=>Y.b,aj⟩)
      .rw[<-af g first cap X] at W;exact pd V hk (by simp[U]) (by simp[U]) W (e3.of aa V ab rfl λ_=>Y.b)
    have ak:qM P free.1 (cS e x) (b3 (cS e) c.args.toList) w (λv w'=>K (dN e o.dst (.v v)) w')->
      o.wpIn (eg r) 0 P a w (e3 N free K o a w) Q:=by
     intro h;unfold qM at h;split at h
     .rename_i g first cap X
      exact go g first cap X h
     .rename_i l first cap X
      obtain⟨fn,tmps,al,body,ao,ap⟩:iS P l (first.toList++b3 (cS e) c.args.toList) w λv w'=>(free.1=false->cp free.2 w w')/\K (dN e o.dst (.v v)) w':=by
       obtain⟨fr,an⟩:=free;cases fr with
       |true=>exact iS.mono h.2 λv w' hk=>⟨(λh=>by cases h),hk⟩
       |false=>exact iS.mono h λv w' hk=>⟨λ_=>hk.1.b,hk.2⟩
      refine⟨λ_ _=>trivial,?_⟩;rw[T7.semAt_eq _ _ _ (by simp[U]),js V hk (by simp[U])];have:(execOp (cS e) o).run P w= .ok (.round l fn tmps al body) w:=by
       rw[<-step {target:=.fn (.yield l) cap,args:=first++c.args.map (cS e)} _ X rfl,<-ao];have ag:(first.toList++b3 (cS e) c.args.toList).toArray=first++c.args.map (cS e):=by apply Array.toList_inj.1;simp[qL]
       rw[ag];rfl
      rw[this,T7.uponIn_round];refine⟨s4 _ _,?_⟩;have aq:RoundIn (eg r) (0-1) P l fn tmps al body w λae w'=>∃v,ae= .returned v/\(free.1=false->cp free.2 w w')/\K (dN e o.dst (.v v)) w':=ap;refine RoundIn.mono aq ?_;rintro ae w' ⟨v,rfl,Y,aa⟩;exact e3.of aa V ab rfl Y
     .exact h.elim
    cases x with
    |func f=>exact go f #[] #[] rfl (by simpa using h)
    |tmp t=>exact ak h
    |const v=>exact ak h
    |global g=>exact ak h
   |invoke x m=>rw[ac] at h;exact h.elim
  |next x str=>
   rw[U] at h;obtain⟨v,w',W,Y,aa⟩:=h;refine pd V hk (by simp[U]) (by simp[U]) (v:=v) (w':=w') ?_ (e3.of aa V ab rfl Y);rw[Dj _ _ o.type] at W;unfold execOp;simp only[U,W9,W,V1,V7]
  |_=>
   rw[U] at h
   first
    |(simp only[pc,s6] at h;done)
    |(obtain⟨v,w',W,Y,aa⟩:=h
      exact pd V hk (by simp[U]) (by simp[U]) (s7 P (by rw[U];rfl) W) (e3.of aa V ab rfl λ_=>Y.b))
    |(obtain⟨v,w',W,Y,aa⟩:=h
      exact Dn V hk (by simp[U]) (by simp[U]) (Dk P (by rw[U];rfl) W) (e3.of aa V ab rfl λ_=>Y.b))
theorem qN {free:ff} {K:Env->x2->Prop} {Q:Exit->Act->x2->Prop} (h:nF P free o e w K) (U:S9 N e a) (V:iR N o.dst=true):
  o.wpIn (eg r) 0 P a w (e3 N free K o a w) Q:=by
 unfold nF at h;cases W:ir o with
 |false=>rw[W] at h;exact Do h U V
 |true=>
  rw[W] at h;have h:kJ P o e w (λJ _=>K J w):=h;obtain⟨v,st,X,⟨J,Y,aa⟩,ab,_⟩:=wF h U V;refine⟨λ_ _=>trivial,?_⟩;rw[T7.semAt_eq _ _ _ ab,X w (Ext.refl _),T7.uponIn_value];exact⟨J,v,Y,aa,rfl,λ_=>cp.refl _ _⟩
end
section
variable {P:V2}
def Still {α:Type} (P:V2) (s:Sem α):Prop:=∀w v V,s.run P w= .ok v V->V=w/\ ∀w',s.run P w'= .ok v w'
theorem Still.pure {α:Type} (a:α):Still P (Pure.pure a:Sem α):=λw v V h=>by
 rw[V7] at h;cases h;exact⟨rfl,λw'=>by rw[V7]⟩
theorem Still.bind {α β:Type} {s:Sem α} {f:α->Sem β} (J:Still P s) (W:∀a,Still P (f a)):Still P (s >>= f):=λw v V h=>by
 rw[W9] at h;cases U:s.run P w with
 |halt x aa=>rw[U] at h;simp[V1] at h
 |ok a aa=>
  rw[U] at h;obtain⟨rfl,X⟩:=J w a aa U;obtain⟨rfl,Y⟩:=W a _ v V h;exact⟨rfl,λw'=>by rw[W9,X w'];exact Y w'⟩
theorem Still.never {α:Type} {s:Sem α} (h:∀w v V,s.run P w≠ .ok v V):Still P s:=λw v V h'=>absurd h' (h w v V)
theorem Still.stuck {α:Type} (m:String):Still P (stuck m:Sem α):=.never λw v V h=>by simp[Go.stuck] at h
theorem Still.unsupported {α:Type} (m):Still P (unsupported m:Sem α):=.never λw v V h=>by simp[Go.unsupported] at h
theorem Still.program:Still P program:=λw v V h=>by cases h;exact⟨rfl,λ_=>rfl⟩
theorem Still.underlying (t:o4):Still P (underlying t):=Still.bind .program λp=>by
 cases p.underlying t with
 |some d=>exact Still.pure d
 |none=>exact Still.stuck _
theorem Still.typeInfo (t:o4):Still P (typeInfo t):=Still.bind .program λp=>by
 cases p.info? t with
 |some d=>exact Still.pure d
 |none=>exact Still.stuck _
theorem Still.sizeOf (t:o4):Still P (sizeOf t):=Still.bind (.typeInfo t) λ_=>Still.pure _
theorem Still.boundsPanic {α:Type} (k:o6) (x y:Int) (c:BoundsCode):Still P (boundsPanic k x y c:Sem α):=.never λw v V h=>by
 have J:∀ (s:Sem Bool) (w:x2) (v:α) (V:x2),(s >>= λb=>(runtimePanic (.bounds (X2.wrap x) y b c):Sem α)).run P w≠ .ok v V:=by
  intro s w v V h;rw[W9] at h;cases U:s.run P w with
  |halt x aa=>rw[U] at h;simp[V1] at h
  |ok a aa=>rw[U] at h;simp[V1,Go.runtimePanic,Go.goPanic] at h
 unfold Go.boundsPanic at h;dsimp only at h;split at h
 .exact J _ _ _ _ h
 .exact J _ _ _ _ h
theorem Still.asIntOf (v:y0):Still P (asIntOf v):=by
 unfold Go.asIntOf;split
 .exact Still.pure _
 .exact Still.unsupported _
 .exact Still.stuck _
theorem Still.sureAddr (v:y0):Still P (Instr.sureAddr v):=by
 unfold Instr.sureAddr;split
 .exact Still.pure _
 .exact Still.stuck _
theorem Still.extract (v:y0) (i:Nat):Still P (Y0 v i):=by
 unfold Y0;split
 .split
  .exact Still.pure _
  .exact Still.stuck _
 .exact Still.stuck _
theorem Still.indexAt (t:o4) (x i:y0):Still P (l7 t x i):=by
 have tail:∀ (t:o4) (k:o6) (i:Int) (base:Option Addr) (len:Nat) (J:o4),Still P (do
   let U:=len<=1&&(match <-Go.underlying t with| .array ..=>true|_=>false)
   match base with
   |some a=>
    if 0<=i/\i<len then Pure.pure (y0.pointer (σ (a.add (i.toNat*(<-Go.sizeOf J)))))
    else if U then Go.unsupported (.noEntry "op/indexAddr.an index out of range at an array of length 0 or 1 (ledger 616)")
    else Go.boundsPanic k i len .index
   |none=>Go.boundsPanic k i 0 .index):=by
  intro t k i base len J;refine .bind (.underlying t) λd=>?_;cases base with
  |none=>exact Still.boundsPanic _ _ _ _
  |some a=>
   dsimp only;split
   .exact .bind (.sizeOf J) λ_=>.pure _
   .split<;>split<;>first|exact Still.unsupported _|exact Still.boundsPanic _ _ _ _
 unfold l7;refine .bind (.asIntOf i) λV=>?_;refine .bind (.underlying t) λd=>?_;split
 .refine .bind (.sureAddr _) λb=>?_;refine .bind (.pure _) λy=>?_;exact tail _ _ _ _ _ _
 .refine .bind (.pure _) λy=>?_;exact tail _ _ _ _ _ _
 .refine .bind (.stuck _) λy=>?_;exact tail _ _ _ _ _ _
end
section
variable (P:V2)
def qO (free:ff) (ops:Array T7) (o:T7) (e:Env) (w:x2) (K:Env->x2->Prop):Prop:=
 match o.guard with
 |none=>nF P free o e w K
 |some (j,b)=>
  match (ops[j]?).bind (·.dst) with
  |none=>False
  |some s=>
   match look e s with
   |some (.b c)=>bif xor c b then K (dN e o.dst .u) w else nF P free o e w K
   |some (.v x)=>
    Split x (bif b then nF P free o ((s,.b true)::e) w K else K (dN ((s,.b true)::e) o.dst .u) w)
     (bif b then K (dN ((s,.b false)::e) o.dst .u) w else nF P free o ((s,.b false)::e) w K)
   |some .u=>K (dN e o.dst .u) w
   |none=>False
def nG (free:ff) (ops:Array T7):List T7->Env->x2->(Env->x2->Prop)->Prop
 |[],e,w,K=>K e w
 |o::l,e,w,K=>qO P free ops o e w λJ w'=>nG free ops l J w' K
def s9 (ops:Array T7) (o:T7) (e:Env) (w:x2) (K:Env->(x2->Prop)->Prop):Prop:=
 match o.guard with
 |none=>kJ P o e w K
 |some (j,b)=>
  match (ops[j]?).bind (·.dst) with
  |none=>False
  |some s=>
   match look e s with
   |some (.b c)=>bif xor c b then K (dN e o.dst .u) (λ_=>True) else kJ P o e w K
   |some (.v x)=>
    Split x (bif b then kJ P o ((s,.b true)::e) w K else K (dN ((s,.b true)::e) o.dst .u) (λ_=>True))
     (bif b then K (dN ((s,.b false)::e) o.dst .u) (λ_=>True) else kJ P o ((s,.b false)::e) w K)
   |some .u=>K (dN e o.dst .u) (λ_=>True)
   |none=>False
def kL (o:T7):Bool:=
 match o.op with
 | .move _| .assign _| .extract .. | .indexAddr ..=>true
 |_=>false
def lz (ops:Array T7):List Nat->Option Nat
 |[]=>ν
 |i::r=>match ops[i]? with
  |some o=>bif ir o then σ i else lz ops r
  |none=>lz ops r
def ta (p:Nat->Prop):List Nat->Prop
 |[]=>True
 |[i]=>p i
 |i::r=>p i/\ta p r
def jW (bs:Array Nat) (j k:Nat):Bool:=!(S0 k j)&&(!((bs.getD j 0).testBit k)&& !((bs.getD k 0).testBit j))
def pe (same:Bool) (q:Nat) (w:x2) (st:x2->Prop) (J:List (x2×List (Nat×(x2->Prop)))):List (x2×List (Nat×(x2->Prop))):=
 match same,J with
 |true,g::r=>(g.1,(q,st)::g.2)::r
 |_,J=>(w,[(q,st)])::J
def pf (bs:Array Nat) (j:Nat):List (Nat×(x2->Prop))->Bool
 |[]=>false
 |x::r=>jW bs j x.1||pf bs j r
def nH (bs:Array Nat) (j:Nat) (w':x2):List (Nat×(x2->Prop))->Prop
 |[]=>True
 |x::r=>bif jW bs j x.1 then x.2 w'/\nH bs j w' r else nH bs j w' r
def mf (bs:Array Nat) (j:Nat) (w':x2) (C:Prop):List (x2×List (Nat×(x2->Prop)))->Prop
 |[]=>C
 |g::r=>bif pf bs j g.2 then (Ext g.1 w'\/nH bs j w' g.2)/\mf bs j w' C r else mf bs j w' C r
def lA (free:ff) (ops:Array T7) (bs:Array Nat):Nat->Array Bool->Bool->List (x2×List (Nat×(x2->Prop)))->Env->x2->(Env->x2->Prop)->Prop
 |0,J,_,_,e,w,K=>match Region.ready .any ops J with|[]=>K e w|_=>False
 |fuel+1,J,same,U,e,w,K=>
  match Region.ready .any ops J with
  |[]=>K e w
  |i::r=>
   match lz ops (i::r) with
   |some q=>
    bif Region.free .any ops J q then
     match ops[q]? with
     |some o=>s9 P ops o e w λV st=>
       bif kL o then lA free ops bs fuel (J.setIfInBounds q true) same U V w K
       else lA free ops bs fuel (J.setIfInBounds q true) true (pe same q w st U) V w K
     |none=>False
    else False
   |none=>
    ta (λj=>match ops[j]? with
     |some o=>qO P free ops o e w λV w'=>mf bs j w' (lA free ops bs fuel (J.setIfInBounds j true) false U V w' K) U
     |none=>False) (i::r)
def tb (free:ff) (ops:Array T7) (e:Env) (w:x2) (K:Env->x2->Prop):Prop:=
 bif Region.noSelect ops then lA P free ops (Region.before ops) ops.size (Array.replicate ops.size false) false [] e w K else False
end
section
variable {P:V2} {N:Nat} {r:Option Nat} {free:ff} {ops:Array T7}
theorem Dp {e:Env} {a:Act} (V:S9 N e a) {s:Nat} {c:Bool} (W:(ops[j]?).bind (·.dst)=σ s) {x:ep} (J:look e s=σ x) (X:x.val= .bool c):
  yielded ops a.tmps j=σ c:=by
 have h:=V.2 s x J;rw[X] at h;have Y:a.tmps[s]? =σ (.bool c):=by
  rw[Array.getD_eq_getD_getElem?] at h;cases U:a.tmps[s]? with
  |none=>rw[U] at h;simp[undef] at h
  |some y=>rw[U] at h;simpa using h
 simp[yielded,W,Y]
theorem qP {e:Env} {a:Act} (U:S9 N e a) {o:T7} {s:Nat} {b c:Bool} (V:o.guard=σ (j,b)) (W:(ops[j]?).bind (·.dst)=σ s) {x:ep}
  (J:look e s=σ x) (X:x.val= .bool c):Region.wanted o (yielded ops a.tmps)= !(xor c b):=by
 simp only[Region.wanted,V,Dp U W J X];cases c<;>cases b<;>rfl
theorem wG {e:Env} {a:Act} (V:S9 N e a) {o:T7} {s:Nat} {b:Bool} (W:o.guard=σ (j,b)) (X:(ops[j]?).bind (·.dst)=σ s)
  (J:look e s=σ .u):Region.wanted o (yielded ops a.tmps)=false:=by
 have h:=V.2 s .u J;have Y:yielded ops a.tmps j=ν:=by
  rw[Array.getD_eq_getD_getElem?] at h;unfold yielded;rw[X];cases U:a.tmps[s]? with
  |none=>simp[U]
  |some y=>
   rw[U] at h;simp only[S1,ep.val] at h;subst h;simp[U,undef]
 simp[Region.wanted,W,Y]
theorem S9.lit {e:Env} {a:Act} (V:S9 N e a) {s:Nat} {x:ep} {c:Bool} (J:look e s=σ x) (X:x.val= .bool c):S9 N ((s,.b c)::e) a:=by
 refine⟨V.1,λt y U=>?_⟩;simp only[look] at U;cases W:S0 s t with
 |true=>
  have:s=t:=Nat.eq_of_beq_eq_true W;subst this;simp only[W,cond_true,Y8] at U;subst U;rw[V.2 s x J,X];rfl
 |false=>simp only[W,cond_false] at U;exact V.2 t y U
theorem wH {o:T7} {e:Env} {a:Act} {K:Env->x2->Prop} {Q:Exit->Act->x2->Prop} (h:qO P free ops o e w K) (U:S9 N e a) (V:iR N o.dst=true):
  (Region.wanted o (yielded ops a.tmps)=true/\o.wpIn (eg r) 0 P a w (e3 N free K o a w) Q)\/
  (Region.wanted o (yielded ops a.tmps)=false/\e3 N free K o a w (a.put o.dst undef) w):=by
 unfold qO at h;cases W:o.guard with
 |none=>rw[W] at h;exact .inl ⟨by simp[Region.wanted,W],qN h U V⟩
 |some ad=>
  obtain⟨j,b⟩:=ad;rw[W] at h;simp only at h;cases X:(ops[j]?).bind (·.dst) with
  |none=>rw[X] at h;exact h.elim
  |some s=>
   rw[X] at h;simp only at h;cases J:look e s with
   |none=>rw[J] at h;exact h.elim
   |some x=>
    rw[J] at h;cases x with
    |b c=>
     simp only at h;have hw:=qP U W X J (c:=c) rfl;cases ac:xor c b with
     |true=>
      rw[ac] at h hw;exact .inr ⟨hw,e3.of h U V rfl λ_=>cp.refl _ _⟩
     |false=>
      rw[ac] at h hw;exact .inl ⟨hw,qN h U V⟩
    |v y=>
     simp only at h;obtain⟨c,rfl,Y,aa⟩:=h;have hw:=qP U W X J (c:=c) rfl;have ab:=U.lit J (c:=c) rfl;cases c with
     |true=>
      have Y:=Y rfl;cases b with
      |true=>exact .inl ⟨hw,qN Y ab V⟩
      |false=>exact .inr ⟨hw,e3.of Y ab V rfl λ_=>cp.refl _ _⟩
     |false=>
      have aa:=aa rfl;cases b with
      |true=>exact .inr ⟨hw,e3.of aa ab V rfl λ_=>cp.refl _ _⟩
      |false=>exact .inl ⟨hw,qN aa ab V⟩
    |u=>exact .inr ⟨wG U W X J,e3.of h U V rfl λ_=>cp.refl _ _⟩
def fZ (D:List Nat) (a a':Act):Prop:=a'.defers=a.defers/\ ∀t,t∉D->a'.tmps.getD t undef=a.tmps.getD t undef
theorem fZ.refl (D:List Nat) (a:Act):fZ D a a:=⟨rfl,λ_ _=>rfl⟩
theorem fZ.trans {a b c:Act} (h:fZ D a b) (k:fZ D b c):fZ D a c:=⟨k.1.trans h.1,λt J=>(k.2 t J).trans (h.2 t J)⟩
theorem fZ.put (a:Act) {d:Option Tmp} (v:y0) (J:∀t,d=σ t->t∈D):fZ D a (a.put d v):=by
 cases d with
 |none=>exact fZ.refl _ _
 |some s=>
  refine⟨rfl,λt U=>?_⟩;have V:s≠t:=λh=>U (h▸J s rfl);simp only[Act.put,Array.getD_eq_getD_getElem?];rw[Array.getElem?_setIfInBounds_ne V]
def lB (N:Nat) (free:ff) (K:Env->x2->Prop) (D:List Nat) (a:Act) (w:x2) (a':Act) (w':x2):Prop:=
 ∃J,K J w'/\S9 N J a'/\fZ D a a'/\(free.1=false->cp free.2 w w')
theorem lB.step {K:Env->x2->Prop} {a J a':Act} {V:x2} (h:lB N free K D J V a' w') (hk:fZ D a J) (W:free.1=false->cp free.2 w V):
  lB N free K D a w a' w':=by
 obtain⟨X,h1,Y,aa,ab⟩:=h;exact⟨X,h1,Y,hk.trans aa,λU=>(W U).trans (ab U)⟩
def mg (N:Nat) (l:List T7):Bool:=l.all λo=>iR N o.dst
theorem Dq {K:Env->x2->Prop} {Q:Exit->Act->x2->Prop} (ad:∀o∈ops.toList,∀t,o.dst=σ t->t∈D) (aa:mg N ops.toList=true):
  ∀ (l:List T7) (k:Nat) (e:Env) (a:Act) (w:x2),(∀j,l[j]? =ops[k+j]?)->nG P free ops l e w K->S9 N e a->
   (∀a' w',lB N free K D a w a' w'->Q .normal a' w')->wpOpsIn (eg r) 0 P ops Q (List.range' k l.length) a w:=by
 intro l;induction l with
 |nil=>
  intro k e a w _ h J U;exact U a w ⟨e,h,J,fZ.refl _ _,λ_=>cp.refl _ _⟩
 |cons o l ae=>
  intro k e a w ab h J U;have W:=ab 0;simp only[List.getElem?_cons_zero,Nat.add_zero] at W;have ac:o∈ops.toList:=by
   have:=W.symm;rw[<-R4] at this;exact x5 this
  have af:iR N o.dst=true:=by
   simp only[mg,List.all_eq_true] at aa;exact aa o ac
  have ag:∀j,l[j]? =ops[k+1+j]?:=λj=>by
   have:=ab (j+1);rw[List.getElem?_cons_succ] at this;rw[this];congr 1;omega
  have next:∀X V,e3 N free (λah w'=>nG P free ops l ah w' K) o a w X V->wpOpsIn (eg r) 0 P ops Q (List.range' (k+1) l.length) X V:=by
   rintro X V ⟨ai,v,aj,ak,rfl,al⟩;refine ae (k+1) ai _ V ag aj ak λa' w' am=>U a' w' (am.step (fZ.put a v λt an=>ad o ac t an) al)
  simp only[nG] at h;show wpOpsIn (eg r) 0 P ops Q (k::List.range' (k+1) l.length) a w;unfold wpOpsIn;rw[<-W];simp only;rcases wH (r:=r) (Q:=Q) h J af with⟨hw,Y⟩|⟨hw,Y⟩
  .rw[if_pos hw];exact T7.wpIn_mono next Y
  .rw[hw];exact⟨λ_ _=>trivial,next _ _ Y⟩
theorem Dr {K:Env->x2->Prop} {Q:Exit->Act->x2->Prop} {id:Nat} {e:Env} {a:Act} (J:∀o∈ops.toList,∀t,o.dst=σ t->t∈D)
  (U:mg N ops.toList=true) (h:nG P free ops ops.toList e w K) (V:S9 N e a) (W:∀a' w',lB N free K D a w a' w'->Q .normal a' w'):
  (Code.region id ops false).wpIn (eg r) 0 P Q a w:=by
 refine wpIn_region ?_;have:=Dq (r:=r) J U ops.toList 0 e a w (λj=>Ξ) h V W;rw[List.range_eq_range'];simpa using this
end
section
variable {P:V2} {N:Nat} {r:Option Nat} {free:ff} {ops:Array T7} {Q:Exit->Act->x2->Prop}
theorem Ds (U:Option Nat) (o:T7) (J:∀cs b,o.op≠ .select cs b) (a:Act) (d:Option Tmp) (v:y0) (h:∀t,d=σ t->t∉o.looksAt ops):
  o.semAt U (a.put d v).eval=o.semAt U a.eval:=by
 have he:=execOp_put o J a d v h;unfold T7.semAt;split
 .rename_i l c V;have:resolve (a.put d v).eval c o.type=resolve a.eval c o.type:=resolve_congr c o.type λx W=>Act.eval_put λt X Y=>h t X (by
   subst Y;refine List.mem_append_left _ (List.mem_filterMap.2 ⟨.tmp t,?_,rfl⟩);rw[V];simpa[Op.operands] using W)
  rw[this]
 .exact he
def lC (o:T7) (w0:x2) (st:x2->Prop) (w':x2):Prop:=kL o=true\/Ext w0 w'\/ ∃V,st V/\Ext V w'
theorem lC.ext {o:T7} {w0:x2} {st:x2->Prop} (h:lC o w0 st w) (k:Ext w w'):lC o w0 st w':=by
 rcases h with h|h|⟨V,h1,J⟩
 .exact .inl h
 .exact .inr (.inl (h.trans k))
 .exact .inr (.inr ⟨V,h1,J.trans k⟩)
theorem Dt {o:T7} (hm:kL o=true) {U:S7->y0} (h:(execOp U o).run P w= .ok (.value v) w):(execOp U o).run P w'= .ok (.value v) w':=by
 unfold kL at hm;split at hm
 .rename_i x J;unfold execOp at h ⊢;simp only[J,V7,Result.ok.injEq,and_true] at h ⊢;exact h
 .rename_i x J;unfold execOp at h ⊢;simp only[J,V7,Result.ok.injEq,and_true] at h ⊢;exact h
 .rename_i x i J;unfold execOp at h ⊢;simp only[J] at h ⊢;exact ((Still.bind (Still.extract _ _) λ_=>Still.pure _) _ _ _ h).2 _
 .rename_i t x i J;unfold execOp at h ⊢;simp only[J] at h ⊢;exact ((Still.bind (Still.indexAt _ _ _) λ_=>Still.pure _) _ _ _ h).2 _
 .cases hm
def hB (P:V2) (ops:Array T7) (o:T7) (v:y0) (a:Act) (w0:x2->Prop):Prop:=
 (Region.wanted o (yielded ops a.tmps)=true/\(∀c,o.op≠ .defer c)/\ ∀w',w0 w'->(execOp a.eval o).run P w'= .ok (.value v) w')\/
 (Region.wanted o (yielded ops a.tmps)=false/\v=undef)
theorem hB.put {o U:T7} {a:Act} {w0:x2->Prop} (V:hB P ops o v a w0) (J:∀cs b,o.op≠ .select cs b) (h:∀t,U.dst=σ t->t∉o.looksAt ops) (u:y0):
  hB P ops o v (a.put U.dst u) w0:=by
 unfold hB at*;rw[execOp_put o J a U.dst u h,wanted_put o a U.dst u h];exact V
theorem hB.go {i:Nat} {J:T7} {a:Act} {w0:x2->Prop} (hi:ops[i]? =σ J) (U:hB P ops J v a w0) (hw:w0 w) {K:Act->x2->Prop} (h:K (a.put J.dst v) w):
  wpOpIn (eg r) 0 P ops Q i K a w:=by
 unfold wpOpIn;simp only[hi];rcases U with⟨h1,V,W⟩|⟨h1,rfl⟩
 .rw[if_pos h1];refine⟨λ_ _=>trivial,?_⟩;rw[T7.semAt_eq _ _ _ V,W w hw,T7.uponIn_value];exact h
 .rw[h1];exact⟨λ_ _=>trivial,h⟩
theorem Du {J V:T7} (aa:ops[j]? =σ V) (ab:J.apart ops V=true) (ac:∀cs b,J.op≠ .select cs b) (ad:∀cs b,V.op≠ .select cs b)
  (X:∀c a w,¬Q (.panic c) a w) {K:Act->x2->Prop} {a:Act} {w:x2} {w0:x2->Prop} (U:hB P ops J v a w0) (h:wpOpIn (eg r) 0 P ops Q j K (a.put J.dst v) w):
  wpOpIn (eg r) 0 P ops Q j (λa' w'=>hB P ops J v a' w0/\K (a'.put J.dst v) w') a w:=by
 obtain⟨h1,W,ae⟩:=T7.apart_spec ab;have bc:∀ (a:Act),hB P ops J v a w0-> ∀u,hB P ops J v (a.put V.dst u) w0:=λa U u=>U.put ac ae u;have af:∀d,hB P ops J v {a with defers:=d::a.defers} w0:=λd=>U;unfold wpOpIn at*;simp only[aa] at*;rw[wanted_put V a J.dst v h1] at h;split
 .rename_i hw;simp only[hw,if_true] at h;obtain⟨_,h⟩:=h;refine⟨λ_ _=>trivial,?_⟩;rw[Ds _ V ad a J.dst v h1] at h;generalize (V.semAt (eg r).round a.eval).run P w=res at*;cases res with
  |ok n w'=>
   cases n<;>simp only[T7.uponIn] at h ⊢
   case value u=>exact⟨bc a U u,by rw[<-Act.put_comm a v u W];exact h⟩
   case skip=>exact⟨bc a U _,by rw[<-Act.put_comm a v undef W];exact h⟩
   case defer d=>
    refine⟨bc _ (af d) _,?_⟩;rw[<-Act.put_comm _ v undef W,<-Act.put_defers];exact h
   case enter f args=>
    refine⟨h.1,CallsIn.mono h.2 λe Y he=>?_⟩;cases e with
    |returned u=>exact⟨bc a U u,by rw[<-Act.put_comm a v u W];exact he⟩
    |panicked c=>exact absurd he (X _ _ _)
    |outgrown=>exact he
   case row row args=>exact⟨h.1,RowsIn.mono h.2 λu Y he=>⟨bc a U u,by rw[<-Act.put_comm a v u W];exact he⟩⟩
   case round l f tmps ag body=>
    refine⟨h.1,RoundIn.mono h.2 λe Y he=>?_⟩;cases e with
    |returned u=>exact⟨bc a U u,by rw[<-Act.put_comm a v u W];exact he⟩
    |panicked c=>exact absurd he (X _ _ _)
    |outgrown=>exact he
  |halt x w'=>
   cases x<;>simp only[T7.uponIn] at h ⊢
   case panic u=>exact absurd h (X _ _ _)
 .rename_i hw;simp only[hw] at h;exact⟨λ_ _=>trivial,bc a U _,by rw[<-Act.put_comm a v undef W];exact h.2⟩
def kM (ops:Array T7) (bs:Array Nat):Bool:=
 (V0 ops.size).all λj=>(V0 ops.size).all λk=>!((bs.getD j 0).testBit k)||
  (match ops[j]? with
   |some o=>o.after.any λe=>Region.binds .any e&&Nat.blt e.on j&&(S0 e.on k||(bs.getD e.on 0).testBit k)
   |none=>false)
def Down (ops:Array T7) (J:Array Bool):Prop:=
 ∀ (x:Nat) (o:T7),ops[x]? =σ o->J.getD x false=true-> ∀e∈o.after,Region.binds .any e=true->J.getD e.on false=true
theorem wI {bs:Array Nat} (U:kM ops bs=true) {k:Nat} (W:j<ops.size) (hk:k<ops.size) (h:(bs.getD j 0).testBit k=true):
  ∃o,ops[j]? =σ o/\ ∃e∈o.after,Region.binds .any e=true/\e.on<j/\(e.on=k\/(bs.getD e.on 0).testBit k=true):=by
 simp only[kM,List.all_eq_true,List.mem_range] at U;have:=U j W k hk;rw[h] at this;simp only[Y6,Bool.false_or] at this;cases V:ops[j]? with
 |none=>rw[V] at this;cases this
 |some o=>
  rw[V] at this;obtain⟨e,he,J⟩:=Array.any_eq_true'.1 this;simp only[U8,Nat.blt_eq,Bool.or_eq_true] at J;exact⟨o,rfl,e,he,J.1.1,J.1.2,J.2.imp (λh=>Nat.eq_of_beq_eq_true h) id⟩
theorem Dv {bs:Array Nat} {J:Array Bool} (V:kM ops bs=true) (W:Down ops J):∀ (j k:Nat),j<ops.size->k<ops.size->J.getD j false=true->
  (bs.getD j 0).testBit k=true->J.getD k false=true:=by
 intro j;induction j using Nat.strongRecOn with
 |_ j X=>
  intro k Y hk aa h;obtain⟨o,ab,e,he,ac,ad,h⟩:=wI V Y hk h;have U:=W j o ab aa e he ac;rcases h with rfl|h
  .exact U
  .exact X e.on ad k Ω hk U h
theorem wJ {bs:Array Nat} {J:Array Bool} (U:kM ops bs=true) (Y:Down ops J) {k:Nat} (hk:k<ops.size) (aa:j∈Region.ready .any ops J)
  (h:(bs.getD j 0).testBit k=true):J.getD k false=true:=by
 obtain⟨_,o,V,ab⟩:=mem_ready.1 aa;have ac:=(Z1.1 V).1;obtain⟨o',W,e,he,ad,ae,h⟩:=wI U ac hk h;rw[V] at W;cases W;have X:=ab e he ad;rcases h with rfl|h
 .exact X
 .exact Dv U Y e.on k Ω hk X h
theorem Down.set {J:Array Bool} (aa:Down ops J) {i:Nat} (ab:i∈Region.ready .any ops J):Down ops (J.setIfInBounds i true):=by
 intro x o U V e he W;by_cases X:x=i
 .subst X;obtain⟨_,o',Y,ac⟩:=mem_ready.1 ab;rw[U] at Y;cases Y;exact getD_set_true (ac e he W)
 .rw[getD_set_ne false (S6 X)] at V;exact getD_set_true (aa x o U V e he W)
theorem tc {J:Array Bool} {k:Nat} (h:J.getD k true=false):J.getD k false=false:=by
 rcases Nat.lt_or_ge k J.size with h'|h'
 .simpa[h'] using h
 .simp[Array.getElem?_eq_none h'] at h
def lD (ops:Array T7) (i:Nat):Bool:=match ops[i]? with
 |some o=>ir o
 |none=>false
def lE (bs:Array Nat) (J:List (x2×List (Nat×(x2->Prop)))) (j:Nat) (w':x2):Prop:=∀g∈J,∀x∈g.2,jW bs j x.1=true->Ext g.1 w'\/x.2 w'
theorem td {bs:Array Nat} {j:Nat} {w':x2}:∀ {l:List (Nat×(x2->Prop))},nH bs j w' l-> ∀x∈l,jW bs j x.1=true->x.2 w'
 |[],_,_,h,_=>by cases h
 |y::l,h,x,J,hu=>by
  unfold nH at h;cases U:jW bs j y.1 with
  |true=>
   rw[U] at h;cases J with
   |head=>exact h.1
   |tail _ J=>exact td h.2 x J hu
  |false=>
   rw[U] at h;cases J with
   |head=>rw[U] at hu;cases hu
   |tail _ J=>exact td (show nH bs j w' l from h) x J hu
theorem wK {bs:Array Nat} {j:Nat}:∀ {l:List (Nat×(x2->Prop))},pf bs j l=false-> ∀x∈l,jW bs j x.1=false
 |[],_,_,h=>by cases h
 |y::l,h,x,J=>by
  simp only[pf,R3] at h;cases J with
  |head=>exact h.1
  |tail _ J=>exact wK h.2 x J
theorem te {bs:Array Nat} {j:Nat} {w':x2} {C:Prop}:∀ {Y:List (x2×List (Nat×(x2->Prop)))},mf bs j w' C Y->C/\lE bs Y j w'
 |[],h=>⟨h,λg aa=>by cases aa⟩
 |g::r,h=>by
  unfold mf at h;cases hu:pf bs j g.2 with
  |true=>
   rw[hu] at h;obtain⟨h1,W⟩:=te h.2;refine⟨h1,λX J x V U=>?_⟩;cases J with
   |head=>exact h.1.imp id λh=>td h x V U
   |tail _ J=>exact W X J x V U
  |false=>
   rw[hu] at h;obtain⟨h1,W⟩:=te (show mf bs j w' C r from h);refine⟨h1,λX J x V U=>?_⟩;cases J with
   |head=>rw[wK hu x V] at U;cases U
   |tail _ J=>exact W X J x V U
def tf (ops:Array T7) (bs:Array Nat) (J:List (x2×List (Nat×(x2->Prop)))) (j:Nat) (w w':x2):Prop:=(lD ops j=true->Ext w w')/\(lD ops j=false->lE bs J j w')
def hY (r:Option Nat) (P:V2) (ops:Array T7) (bs:Array Nat) (Q:Exit->Act->x2->Prop):Nat->Array Bool->List (x2×List (Nat×(x2->Prop)))->Act->x2->Prop
 |0,J,_,a,w=>Region.ready .any ops J=[]/\Q .normal a w
 |fuel+1,J,U,a,w=>(Region.ready .any ops J=[]->Q .normal a w)/\
  ∀i∈Region.ready .any ops J,wpOpIn (eg r) 0 P ops Q i (λa' w'=>tf ops bs U i w w'/\hY r P ops bs Q fuel (J.setIfInBounds i true) U a' w') a w
theorem hY.any {bs:Array Nat}:∀ (fuel:Nat) (J:Array Bool) (U:List (x2×List (Nat×(x2->Prop)))) (a:Act) (w:x2),hY r P ops bs Q fuel J U a w->wpAnyIn (eg r) 0 P .any ops Q fuel J a w
 |0,_,_,_,_,h=>h
 |fuel+1,_,_,_,_,h=>⟨h.1,λi hi=>wpOpIn_mono (λa' w' h'=>hY.any fuel _ _ a' w' h'.2) (h.2 i hi)⟩
theorem Dw {bs:Array Nat} {J:Array Bool} (U:kM ops bs=true) (V:Down ops J) {i:Nat} {Y:T7} (hi:ops[i]? =σ Y)
  (W:i∈Region.ready .any ops J) (X:j∈Region.ready .any ops J) (aa:j≠i):jW bs j i=true:=by
 have ab:=(Z1.1 hi).1;obtain⟨ac,ag,ad,_⟩:=mem_ready.1 X;have ae:=(Z1.1 ad).1;have af:=(mem_ready.1 W).1;simp only[jW,U8,Bool.not_eq_true'];refine⟨?_,?_,?_⟩
 .cases h:S0 i j with
  |true=>exact absurd (Nat.eq_of_beq_eq_true h).symm aa
  |false=>rfl
 .cases h:(bs.getD j 0).testBit i with
  |true=>have:=wJ U V ab X h;rw[tc af] at this;cases this
  |false=>rfl
 .cases h:(bs.getD i 0).testBit j with
  |true=>have:=wJ U V ae W h;rw[tc ac] at this;cases this
  |false=>rfl
theorem hY.take {bs:Array Nat} (ap:kM ops bs=true) (aq:Region.noSelect ops=true) (au:∀c a w,¬Q (.panic c) a w) {i:Nat} {U:T7} (hi:ops[i]? =σ U) (av:ir U=true)
  {w0:x2} {ab ev':List (x2×List (Nat×(x2->Prop)))} (ag:∀j w',lE bs ev' j w'->lE bs ab j w') {st:x2->Prop} (aw:kL U=false-> ∀j w',jW bs j i=true->lE bs ev' j w'->Ext w0 w'\/st w'):
  ∀ (fuel:Nat) (J:Array Bool) (a:Act) (w:x2),Down ops J->
   (∀j Y,ops[j]? =σ Y->j≠i->J.getD j true=false->(∀e∈Y.after,Region.binds .any e=true->e.on≠i)->U.apart ops Y=true)->
   i∈Region.ready .any ops J->hB P ops U v a (lC U w0 st)->lC U w0 st w->
   hY r P ops bs Q fuel (J.setIfInBounds i true) ev' (a.put U.dst v) w->hY r P ops bs Q (fuel+1) J ab a w:=by
 have ah:=Region.noSelect_spec aq;have ax:lD ops i=true:=by simp[lD,hi,av]
 have hf:∀ (fuel:Nat) (J:Array Bool) (a:Act) (w:x2),hY r P ops bs Q fuel J ev' a w->hY r P ops bs Q fuel J ab a w:=by
  intro fuel;induction fuel with
  |zero=>intro J a w h;exact h
  |succ fuel ad=>intro J a w h;exact⟨h.1,λj W=>wpOpIn_mono (λa' w' h'=>⟨⟨h'.1.1,λae=>ag _ _ (h'.1.2 ae)⟩,ad _ a' w' h'.2⟩) (h.2 j W)⟩
 have ai:∀w,tf ops bs ab i w w:=λw=>⟨λ_=>Ext.refl _,λh=>by rw[ax] at h;cases h⟩;intro fuel;induction fuel with
 |zero=>
  intro J a w _ _ X ac hw H;refine⟨λh=>(by rw[h] at X;cases X),λj W=>?_⟩;by_cases V:j=i
  .subst V;exact ac.go hi hw ⟨ai w,hf _ _ _ _ H⟩
  .have:=ready_mono W V;rw[H.1] at this;cases this
 |succ fuel ad=>
  intro J a w aj ak X ac hw H;refine⟨λh=>(by rw[h] at X;cases X),λj W=>?_⟩;by_cases V:j=i
  .subst V;exact ac.go hi hw ⟨ai w,hf _ _ _ _ H⟩
  .have h1:=H.2 j (ready_mono W V);have hu:=Dw ap aj hi X W V;obtain⟨al,Y,af,ay⟩:=mem_ready.1 W;have az:∀e∈Y.after,Region.binds .any e=true->e.on≠i:=λe he aA aB=>by
    have h1:=ay e he aA;rw[aB,tc (mem_ready.1 X).1] at h1;cases h1
   have aC:=Du af (ak j Y af V al az) (λcs b=>ah i U cs b hi) (λcs b=>ah j Y cs b af) au ac h1;have aD:∀k ok,ops[k]? =σ ok->k≠i->(J.setIfInBounds j true).getD k true=false->
     (∀e∈ok.after,Region.binds .any e=true->e.on≠i)->U.apart ops ok=true:=λk ok hk aE am aF=>by
    refine ak k ok hk aE ?_ aF;by_cases an:j=k
    .subst an;exact al
    .rw[getD_set_ne true an] at am;exact am
   refine wpOpIn_mono (λa' w' aa=>⟨⟨aa.2.1.1,λae=>ag _ _ (aa.2.1.2 ae)⟩,ad (J.setIfInBounds j true) a' w' (aj.set W) aD (ready_mono X (S6 V)) aa.1 ?_ ?_⟩) aC
   .cases hm:kL U with
    |true=>exact .inl hm
    |false=>
     cases ao:lD ops j with
     |true=>exact hw.ext (aa.2.1.1 ao)
     |false=>exact .inr ((aw hm j w' hu (aa.2.1.2 ao)).imp id λh=>⟨w',h,Ext.refl _⟩)
   .rw[Array.setIfInBounds_comm _ _ V];exact aa.2.2
theorem wL {p:Nat->Prop}:∀ {l:List Nat},ta p l-> ∀i∈l,p i
 |[],_,_,h=>by cases h
 |[i],h,j,J=>by cases J with
  |head=>exact h
  |tail _ h=>cases h
 |i::k::l,h,j,J=>by
  obtain⟨h1,U⟩:=h;cases J with
  |head=>exact h1
  |tail _ J=>exact wL U j J
theorem tg:∀ {l:List Nat} {q:Nat},lz ops l=σ q->q∈l/\ ∃o,ops[q]? =σ o/\ir o=true
 |[],q,h=>by cases h
 |i::l,q,h=>by
  simp only[lz] at h;cases J:ops[i]? with
  |none=>rw[J] at h;obtain⟨h1,U⟩:=tg h;exact⟨.tail _ h1,U⟩
  |some o=>
   rw[J] at h;simp only at h;cases V:ir o with
   |true=>rw[V] at h;simp only[cond_true,Y8] at h;subst h;exact⟨.head _,o,J,V⟩
   |false=>rw[V] at h;obtain⟨h1,U⟩:=tg h;exact⟨.tail _ h1,U⟩
theorem Dx {o:T7} {e:Env} {a:Act} {K:Env->(x2->Prop)->Prop} (h:s9 P ops o e w K) (U:S9 N e a) (af:iR N o.dst=true):
  ∃v st,hB P ops o v a (lC o w st)/\ ∃W,K W st/\S9 N W (a.put o.dst v):=by
 unfold s9 at h;have aa:∀ {e:Env},S9 N e a->kJ P o e w K->Region.wanted o (yielded ops a.tmps)=true-> ∃v st,hB P ops o v a (lC o w st)/\ ∃W,K W st/\S9 N W (a.put o.dst v):=λU h hw=>by
  obtain⟨v,st,h1,ag,ah,ai⟩:=wF h U af;exact⟨v,st,.inl ⟨hw,ah,λw' ab=>ab.elim (λhm=>Dt hm (h1 w (Ext.refl w))) λh=>h.elim (h1 w') λ⟨V,aj,ak⟩=>ai V aj w' ak⟩,ag⟩
 have skip:∀ {e:Env},S9 N e a->K (dN e o.dst .u) (λ_=>True)->Region.wanted o (yielded ops a.tmps)=false-> ∃v st,hB P ops o v a (lC o w st)/\ ∃W,K W st/\S9 N W (a.put o.dst v):=λU h hw=>
  ⟨undef,_,.inr ⟨hw,rfl⟩,_,h,U.put af rfl⟩
 cases X:o.guard with
 |none=>rw[X] at h;exact aa U h (by simp[Region.wanted,X])
 |some al=>
  obtain⟨j,b⟩:=al;rw[X] at h;simp only at h;cases Y:(ops[j]?).bind (·.dst) with
  |none=>rw[Y] at h;exact h.elim
  |some s=>
   rw[Y] at h;simp only at h;cases J:look e s with
   |none=>rw[J] at h;exact h.elim
   |some x=>
    rw[J] at h;cases x with
    |b c=>
     simp only at h;have hw:=qP U X Y J (c:=c) rfl;cases ab:xor c b with
     |true=>rw[ab] at h hw;exact skip U h hw
     |false=>rw[ab] at h hw;exact aa U h hw
    |v y=>
     simp only at h;obtain⟨c,rfl,ac,ad⟩:=h;have hw:=qP U X Y J (c:=c) rfl;have ae:=U.lit J (c:=c) rfl;cases c with
     |true=>
      have ac:=ac rfl;cases b with
      |true=>exact aa ae ac hw
      |false=>exact skip ae ac hw
     |false=>
      have ad:=ad rfl;cases b with
      |true=>exact skip ae ad hw
      |false=>exact aa ae ad hw
    |u=>exact skip U h (wG U X Y J)
theorem th:∀ {l:List Nat},lz ops l=ν-> ∀j∈l,lD ops j=false
 |[],_,_,h=>by cases h
 |i::l,h,j,J=>by
  simp only[lz] at h;cases U:ops[i]? with
  |none=>
   rw[U] at h;cases J with
   |head=>simp[lD,U]
   |tail _ J=>exact th h j J
  |some o=>
   rw[U] at h;simp only at h;cases V:ir o with
   |true=>rw[V] at h;cases h
   |false=>
    rw[V] at h;cases J with
    |head=>simp[lD,U,V]
    |tail _ J=>exact th h j J
theorem Dy {bs:Array Nat} {same:Bool} {q:Nat} {st:x2->Prop} {U:List (x2×List (Nat×(x2->Prop)))} (J:same=true-> ∃ks r,U=(w,ks)::r):
  (∀j w',lE bs (pe same q w st U) j w'->lE bs U j w')/\(∀j w',jW bs j q=true->lE bs (pe same q w st U) j w'->Ext w w'\/st w')/\ ∃ks r,pe same q w st U=(w,ks)::r:=by
 cases same with
 |true=>
  obtain⟨ks,r,rfl⟩:=J rfl;refine⟨λj w' h g V x W hu=>?_,λj w' hu h=>h (w,(q,st)::ks) (.head _) (q,st) (.head _) hu,_,_,rfl⟩;cases V with
  |head=>exact h (w,(q,st)::ks) (.head _) x (.tail _ W) hu
  |tail _ V=>exact h g (.tail _ V) x W hu
 |false=>
  refine⟨λj w' h g V x W hu=>h g (.tail _ V) x W hu,λj w' hu h=>h (w,[(q,st)]) (.head _) (q,st) (.head _) hu,_,_,rfl⟩
theorem Dz {K:Env->x2->Prop} {bs:Array Nat} (aq:kM ops bs=true) (au:Region.noSelect ops=true) (av:∀c a w,¬Q (.panic c) a w)
  (ak:∀o∈ops.toList,∀t,o.dst=σ t->t∈D) (aw:mg N ops.toList=true):
  ∀ (fuel:Nat) (U:Array Bool) (same:Bool) (W:List (x2×List (Nat×(x2->Prop)))) (e:Env) (a:Act) (w:x2),Down ops U->(same=true-> ∃ks r,W=(w,ks)::r)->
   lA P free ops bs fuel U same W e w K->S9 N e a->
   (∀a' w',lB N free K D a w a' w'->Q .normal a' w')->hY r P ops bs Q fuel U W a w:=by
 have af:∀ {j:Nat} {o:T7},ops[j]? =σ o->o∈ops.toList:=λh=>by
  rw[<-R4] at h;exact x5 h
 have ok:∀ {j:Nat} {o:T7},ops[j]? =σ o->iR N o.dst=true:=λh=>by
  simp only[mg,List.all_eq_true] at aw;exact aw _ (af h)
 intro fuel;induction fuel with
 |zero=>
  intro U same W e a w ab al h ad ac;unfold lA at h;cases Y:Region.ready .any ops U with
  |nil=>rw[Y] at h;exact⟨Y,ac a w ⟨e,h,ad,fZ.refl _ _,λ_=>cp.refl _ _⟩⟩
  |cons i l=>rw[Y] at h;exact h.elim
 |succ fuel am=>
  intro U same W e a w ab al h ad ac;unfold lA at h;cases Y:Region.ready .any ops U with
  |nil=>
   rw[Y] at h;refine⟨λ_=>ac a w ⟨e,h,ad,fZ.refl _ _,λ_=>cp.refl _ _⟩,λi hi=>?_⟩;rw[Y] at hi;cases hi
  |cons i l=>
   rw[Y] at h;simp only at h;cases ag:lz ops (i::l) with
   |some q=>
    rw[ag] at h;simp only at h;obtain⟨aC,o,J,ax⟩:=tg ag;cases ah:Region.free .any ops U q with
    |false=>rw[ah] at h;exact h.elim
    |true=>
     rw[ah,J] at h;simp only[cond_true] at h;obtain⟨v,st,ay,ai,aa,az⟩:=Dx h ad (ok J);have aj:q∈Region.ready .any ops U:=by rw[Y];exact aC
     cases hm:kL o with
     |true=>
      rw[hm] at aa;refine hY.take aq au av J ax (w0:=w) (ev':=W) (λ_ _ h=>h) (λh=>by rw[hm] at h;cases h) fuel U a w ab (Region.free_spec J ah) aj ay (.inr (.inl (Ext.refl _))) ?_;exact am _ same W ai _ w (ab.set aj) al aa az λa' w' X=>ac a' w' (X.step (fZ.put a v λt ae=>ak o (af J) t ae) λ_=>cp.refl _ _)
     |false=>
      rw[hm] at aa;obtain⟨h1,aD,aE⟩:=Dy (bs:=bs) (q:=q) (st:=st) al;refine hY.take aq au av J ax (w0:=w) (ev':=pe same q w st W) h1 (λ_=>aD) fuel U a w ab (Region.free_spec J ah) aj ay (.inr (.inl (Ext.refl _))) ?_;exact am _ true _ ai _ w (ab.set aj) (λ_=>aE) aa az λa' w' X=>ac a' w' (X.step (fZ.put a v λt ae=>ak o (af J) t ae) λ_=>cp.refl _ _)
   |none=>
    rw[ag] at h;simp only at h;refine⟨(λaA=>by rw[Y] at aA;cases aA),λj aB=>?_⟩;have an:=aB;rw[Y] at an;have aF:=th ag j an;have X:=wL h j an;cases J:ops[j]? with
    |none=>rw[J] at X;exact X.elim
    |some o=>
     rw[J] at X;simp only at X;unfold wpOpIn;simp only[J];have next:∀ao V,e3 N free (λai w'=>mf bs j w' (lA P free ops bs fuel (U.setIfInBounds j true) false W ai w' K) W) o a w ao V->
       tf ops bs W j w V/\hY r P ops bs Q fuel (U.setIfInBounds j true) W ao V:=by
      rintro ao V ⟨aG,v,aa,aH,rfl,aI⟩;obtain⟨aa,aJ⟩:=te aa;exact⟨⟨λh=>(by rw[aF] at h;cases h),λ_=>aJ⟩,
       am _ false W aG _ V (ab.set aB) (λh=>by cases h) aa aH λa' w' X=>ac a' w' (X.step (fZ.put a v λt ae=>ak o (af J) t ae) aI)⟩
     rcases wH (r:=r) (Q:=Q) X ad (ok J) with⟨hw,ap⟩|⟨hw,ap⟩
     .rw[if_pos hw];exact T7.wpIn_mono next ap
     .rw[hw];exact⟨λ_ _=>trivial,next _ _ ap⟩
theorem DA (hm:P.follows .mixedOrders=true) {K:Env->x2->Prop} {id:Nat} {e:Env} {a:Act} (V:kM ops (Region.before ops)=true) (W:∀c a w,¬Q (.panic c) a w)
  (X:∀o∈ops.toList,∀t,o.dst=σ t->t∈D) (Y:mg N ops.toList=true)
  (h:∀w',Ext w w'->Ext w' w->cY w w'->tb P free ops e w' K) (aa:S9 N e a) (ab:∀a' w',lB N free K D a w a' w'->Q .normal a' w'):
  (Code.region id ops true).wpIn (eg r) 0 P Q a w:=by
 refine wpIn_region_any hm ?_;have h:=h {w with drawn:=w.drawn+1} (qI w _) ⟨n9 _,λ_ _ h _=>h⟩ (o3 w _ (R6 _));unfold tb at h;cases J:Region.noSelect ops with
 |false=>rw[J] at h;exact h.elim
 |true=>
  rw[J] at h;refine hY.any _ _ _ _ _ (Dz V J W X Y ops.size _ false [] e a _ ?_ (λh=>by cases h) h aa λa' w' ac=>ab a' w' (ac.step (fZ.refl _ _) λ_=>(o3 w _ (R6 _)).b));intro x o _ U;rcases Nat.lt_or_ge x ops.size with h'|h'
  .simp[h'] at U
  .simp[h'] at U
end
def iu (t:Nat):List Nat->Bool
 |[]=>false
 |s::r=>bif S0 s t then true else iu t r
theorem ti {t:Nat}:∀ {l:List Nat},iu t l=true↔t∈l
 |[]=>by simp[iu]
 |s::r=>by
  simp only[iu];cases h:S0 s t with
  |true=>simp[Nat.eq_of_beq_eq_true h]
  |false=>
   have:=Nat.ne_of_beq_eq_false h;simp[ti (l:=r),S6 this]
def mh:List T7->List Nat
 |[]=>[]
 |o::l=>match o.dst with
  |some d=>d::mh l
  |none=>mh l
def tmpsOf:List S7->List Nat
 |[]=>[]
 | .tmp t::l=>t::tmpsOf l
 |_::l=>tmpsOf l
def DB (ops:Array T7) (o:T7):List Nat:=
 match o.guard with
 |some (j,_)=>match (ops[j]?).bind (·.dst) with
  |some s=>[s]
  |none=>[]
 |none=>[]
def qQ (D:List Nat):List Nat->List Nat
 |[]=>[]
 |t::r=>bif iu t D then qQ D r else t::qQ D r
def tj (D:List Nat):List Nat->List Nat
 |[]=>[]
 |t::r=>bif iu t D then t::tj D r else tj D r
def wM (ops:Array T7):List T7->List Nat->List Nat
 |[],_=>[]
 |o::l,D=>qQ D (tmpsOf (opsOf o.op)++DB ops o)++wM ops l (match o.dst with
  |some d=>d::D
  |none=>D)
def dp:Code->List Nat
 | .region _ ops _=>mh ops.toList
 | .seq a b=>dp a++dp b
 | .cond _ a b=>dp a++dp b
 | .block _ c=>dp c
 | .loop c=>dp c
 | .scope c=>dp c
 |_=>[]
def iT (id:Nat):Code->Nat
 | .seq a b=>iT id a+iT id b
 | .cond _ a b=>iT id a+iT id b
 | .block _ c=>iT id c
 | .loop c=>iT id c
 | .scope c=>iT id c
 | .exit i=>bif S0 i id then 1 else 0
 | .rangeFunc _ _ _ b=>iT id b
 |_=>0
def DC (ops:Array T7):Bool:=
 let bs:=Region.before ops;let J:=λ(i:Nat)=>match ops[i]? with|some o=>!(ir o)|none=>false
 (V0 ops.size).any λj=>J j&&((V0 j).any λi=>J i&&(!((bs.getD j 0).testBit i)&& !((bs.getD i 0).testBit j)))
def jX:Code->Nat
 | .region _ ops J=>bif (J&&DC ops)||ops.any (·.guard.isSome) then 2 else 1
 | .seq a b=>bif S0 (jX a) 0 then 0 else jX b
 | .cond _ a b=>jX a+jX b
 | .block id c=>jX c+iT id c
 | .loop _=>0
 | .scope c=>jX c
 | .exit _=>0
 | .goto _=>0
 | .ret=>0
 | .refuse _=>0
 |_=>1
def kN:Code->List Nat
 | .region _ ops _=>mh ops.toList
 | .seq a b=>kN a++kN b
 | .cond _ a b=>bif S0 (jX a) 0 then kN b else bif S0 (jX b) 0 then kN a else tj (kN a) (kN b)
 | .block id c=>bif S0 (iT id c) 0 then kN c else[]
 | .scope c=>kN c
 |_=>[]
def reads:Code->List Nat
 | .region _ ops _=>wM ops ops.toList []
 | .seq a b=>reads a++qQ (kN a) (reads b)
 | .cond c a b=>tmpsOf [c]++(reads a++reads b)
 | .block _ c=>reads c
 | .loop c=>reads c
 | .scope c=>reads c
 | .rangeFunc f _ a b=>tmpsOf [f]++(reads a++reads b)
 |_=>[]
def jt:Code->Bool
 | .seq a b=>jt a||jt b
 | .cond _ a b=>jt a||jt b
 | .block _ c=>jt c
 | .loop c=>jt c
 | .scope c=>jt c
 | .rangeFunc ..=>true
 |_=>false
def wf (N:Nat):Code->Bool
 | .region _ ops J=>mg N ops.toList&&(!J||kM ops (Region.before ops))
 | .seq a b=>wf N a&&wf N b
 | .cond _ a b=>wf N a&&wf N b
 | .block _ c=>wf N c
 | .loop c=>wf N c
 | .scope c=>wf N c
 | .rangeFunc _ U a b=>(U.toList.all λt=>Nat.blt t N)&&(wf N a&&wf N b)
 |_=>true
def mi:Nat->Type->Type
 |0,β=>β
 |n+1,β=>y0->mi n β
def app {β:Type}:(n:Nat)->mi n β->List y0->β
 |0,f,_=>f
 |n+1,f,[]=>app n (f undef) []
 |n+1,f,v::r=>app n (f v) r
def lam {β:Type}:(n:Nat)->(List y0->β)->mi n β
 |0,f=>f []
 |n+1,f=>λv=>lam n λr=>f (v::r)
def qR:(n:Nat)->mi n Prop->Prop
 |0,p=>p
 |n+1,p=>∀v,qR n (p v)
theorem qS {β:Type}:∀ (n:Nat) (f:List y0->β) (vs:List y0),vs.length=n->app n (lam n f) vs=f vs
 |0,f,[],_=>rfl
 |n+1,f,v::r,h=>by
  simp only[app,lam];exact qS n _ r (by simpa using h)
theorem qT:∀ (n:Nat) (p:mi n Prop) (vs:List y0),qR n p->app n p vs
 |0,_,_,h=>h
 |n+1,_,[],h=>qT n _ [] (h undef)
 |n+1,_,v::r,h=>qT n _ r (h v)
def DD (n:Nat) (vs:List y0) (w:x2) (B:List y0->x2->(List y0->x2->Prop)->Prop):Prop:=
 ∃ (I:mi n (x2->Prop)) (J:mi n (x2->Nat)),app n I vs w/\
  qR n (lam n λus=>∀w',app n I us w'->B us w' λU V=>app n I U V/\app n J U V<app n J us w')
def DE (w:x2) (B:x2->(x2->Prop)->Prop):Prop:=
 ∃ (I:x2->Prop) (J:x2->Nat),I w/\ ∀w',I w'->B w' λU=>I U/\J U<J w'
def b0 (a:y0) (w:x2) (B:y0->x2->(y0->x2->Prop)->Prop):Prop:=
 ∃ (I:y0->x2->Prop) (J:y0->x2->Nat),I a w/\ ∀a w',I a w'->B a w' λa' U=>I a' U/\J a' U<J a w'
def bA (a b:y0) (w:x2) (B:y0->y0->x2->(y0->y0->x2->Prop)->Prop):Prop:=
 ∃ (I:y0->y0->x2->Prop) (J:y0->y0->x2->Nat),I a b w/\ ∀a b w',I a b w'->B a b w' λa' U V=>I a' U V/\J a' U V<J a b w'
def lF (a b c:y0) (w:x2) (B:y0->y0->y0->x2->(y0->y0->y0->x2->Prop)->Prop):Prop:=
 ∃ (I:y0->y0->y0->x2->Prop) (J:y0->y0->y0->x2->Nat),I a b c w/\
  ∀a b c w',I a b c w'->B a b c w' λa' U V W=>I a' U V W/\J a' U V W<J a b c w'
def qU (a b c d:y0) (w:x2) (B:y0->y0->y0->y0->x2->(y0->y0->y0->y0->x2->Prop)->Prop):Prop:=
 ∃ (I:y0->y0->y0->y0->x2->Prop) (J:y0->y0->y0->y0->x2->Nat),I a b c d w/\
  ∀a b c d w',I a b c d w'->B a b c d w' λa' U V W X=>I a' U V W X/\J a' U V W X<J a b c d w'
def nI (a b c d e:y0) (w:x2) (B:y0->y0->y0->y0->y0->x2->(y0->y0->y0->y0->y0->x2->Prop)->Prop):Prop:=
 ∃ (I:y0->y0->y0->y0->y0->x2->Prop) (J:y0->y0->y0->y0->y0->x2->Nat),I a b c d e w/\ ∀a b c d e w',I a b c d e w'->B a b c d e w' λa' U V W X Y=>I a' U V W X Y/\J a' U V W X Y<J a b c d e w'
def DF (a b c d e f:y0) (w:x2) (B:y0->y0->y0->y0->y0->y0->x2->(y0->y0->y0->y0->y0->y0->x2->Prop)->Prop):Prop:=
 ∃ (I:y0->y0->y0->y0->y0->y0->x2->Prop) (J:y0->y0->y0->y0->y0->y0->x2->Nat),I a b c d e f w/\ ∀a b c d e f w',I a b c d e f w'->B a b c d e f w' λa' U V W X Y aa=>I a' U V W X Y aa/\J a' U V W X Y aa<J a b c d e f w'
def bJ {α:Type} (J:α) (B:α->Prop):Prop:=B J
def wN (w:x2) (K:x2->Prop):Prop:=∀w',Ext w w'->Ext w' w->K w'
def Over (w:x2) (K:x2->Prop):Prop:=∀w',Ext w w'->Ext w' w->eP w w'->K w'
def cK (w:x2) (K:x2->Prop):Prop:=∀w',Ext w w'->Ext w' w->cY w w'->K w'
def ju (e:Env):List Nat->Option (List y0)
 |[]=>σ []
 |t::r=>match look e t with
  |some x=>match ju e r with
   |some vs=>σ (x.val::vs)
   |none=>ν
  |none=>ν
def iv:List Nat->List y0->Env->Env
 |t::r,v::vs,e=>(t,.v v)::iv r vs e
 |_,_,e=>e
def kO (D:List Nat):Env->Env
 |[]=>[]
 |(t,x)::r=>bif iu t D then kO D r else (t,x)::kO D r
def pg (N:Nat) (D R:List Nat):List Nat:=(V0 N).filter λt=>iu t D&&iu t R
def ph (N:Nat) (D R:List Nat) (e:Env):List Nat:=(V0 N).filter λt=>iu t D&&((look e t).isSome&&iu t R)
def iw:Code->Bool
 | .seq a b=>iw a||iw b
 | .cond _ a b=>iw a||iw b
 | .block _ c=>iw c
 | .loop c=>iw c
 | .scope c=>iw c
 | .rangeFunc _ _ a b=>iw a||iw b
 | .ret=>true
 |_=>false
def DG (i:Nat) (l:List Nat):List Nat:=bif iu i l then l else i::l
def qV:List Nat->List Nat->List Nat
 |[],l=>l
 |i::r,l=>DG i (qV r l)
def tk (i:Nat):List Nat->List Nat
 |[]=>[]
 |j::r=>bif S0 i j then tk i r else j::tk i r
def iU:Code->List Nat
 | .seq a b=>qV (iU a) (iU b)
 | .cond _ a b=>qV (iU a) (iU b)
 | .block id c=>tk id (iU c)
 | .loop c=>iU c
 | .scope c=>iU c
 | .rangeFunc _ _ a b=>qV (iU a) (iU b)
 | .exit i=>[i]
 |_=>[]
def mj:List (Nat×(x2->Prop))->Nat->x2->Prop
 |[],_,_=>False
 |(j,k)::r,i,w=>(i=j/\k w)\/mj r i w
def tl (K:Nat->x2->Prop):List Nat->List (Nat×(x2->Prop))
 |[]=>[]
 |i::r=>(i,λw=>K i w)::tl K r
theorem wO {K:Nat->x2->Prop}:∀ {l:List Nat} {i:Nat} {w:x2},mj (tl K l) i w->K i w
 |[],_,_,h=>h.elim
 |j::r,i,w,h=>by
  rcases h with⟨rfl,h⟩|h
  .exact h
  .exact wO h
section
variable (P:V2)
def nJ {U:Type} (G:Bool) (g:FuncId) (cap:List y0) (ac:U) (ad:U->Prop) (ae:U->List y0->U->x2->Prop) (Y:x2->Prop):Prop:=
 Enters P g/\ ∀ (l:Nat) (J W:U->x2->Prop) (w:x2),
  (∀k V aa,Ext V aa->cp w.heap.size V aa->J k V->J k aa)->(∀k V aa,Ext V aa->cp w.heap.size V aa->W k V->W k aa)->
  (∀k ab vs w',Y w'->ae k vs ab w'->J k w'->iS P l vs w' λv X=>(v= .bool true/\Y X/\J ab X/\(G=true->cY w' X))\/(v= .bool false/\W k X))->
  Y w->J ac w->gu P g (.func (.yield l) #[] #[]::cap) w λ_ w'=>(∃k,ad k/\J k w')\/ ∃k,W k w'
def tn (G:Bool) (g:FuncId) (cap:List y0) (n:Nat) (Y:Nat->List y0->x2->Prop) (X:x2->Prop):Prop:=
 Enters P g/\ ∀ (l:Nat) (J U:Nat->x2->Prop) (w:x2),
  (∀k V aa,Ext V aa->cp w.heap.size V aa->J k V->J k aa)->(∀k V aa,Ext V aa->cp w.heap.size V aa->U k V->U k aa)->
  (∀k vs w',k<n->X w'->Y k vs w'->J k w'->iS P l vs w' λv W=>(v= .bool true/\X W/\J (k+1) W/\(G=true->cY w' W))\/(v= .bool false/\U k W))->
  X w->J 0 w->gu P g (.func (.yield l) #[] #[]::cap) w λ_ w'=>J n w'\/ ∃k,k<n/\U k w'
def qW {W:Type} (o G:Bool) (g:FuncId) (cap:List y0) (ac:W) (ad:W->Prop) (af:W->List y0->W->x2->Prop) (Y:x2->Prop):Prop:=
 Enters P g/\ ∀ (l:Nat) (J X:Nat->W->x2->Prop) (w:x2),
  (∀m k V aa,ae (λr=>o=true/\w.heap.size<=r/\r<m) V aa->cp w.heap.size V aa->J m k V->J m k aa)->
  (∀m k V aa,ae (λr=>o=true/\w.heap.size<=r/\r<m) V aa->cp w.heap.size V aa->X m k V->X m k aa)->
  (∀m k ab vs w',w.heap.size<=m->m<=w'.heap.size->Y w'->af k vs ab w'->J m k w'->iS P l vs w' λv U=>
   (v= .bool true/\Y U/\J m ab U/\(G=true\/o=true->cY w' U)/\w'.heap.size<=U.heap.size/\(o=true->ae (λr=>r<w.heap.size\/m<=r) w' U))\/(o=false/\v= .bool false/\X m k U))->
  Y w->(∀m,J m ac w)->gu P g (.func (.yield l) #[] #[]::cap) w λ_ w'=>(∃m k,ad k/\J m k w')\/ ∃m k,X m k w'
abbrev ml (g:FuncId) (cap:List y0) (n:Nat) (J:Nat->List y0->x2->Prop) (U:x2->Prop):Prop:=tn P false g cap n J U
def DH (ag:y0) (ab:Nat) (w:x2) (B:List y0->x2->(Exit->x2->Prop)->Prop) (ah ai:x2->Prop) (aj:List (Nat×(x2->Prop))):Prop:=
 ∃ (J:Type) (o G:Bool) (g:FuncId) (cap:Array y0) (ad:J) (af:J->Prop) (ac:J->List y0->J->x2->Prop) (U:x2->Prop) (I:Nat->J->x2->Prop) (X:Nat->J->Exit->x2->Prop),
  ag= .func (.func g) #[] cap/\qW P o G g cap.toList ad af ac U/\(∀k vs Y w,ac k vs Y w->vs.length=ab)/\
  (∀w w',Ext w w'->U w->U w')/\(∀m k V aa,ae (λr=>o=true/\w.heap.size<=r/\r<m) V aa->I m k V->I m k aa)/\(∀m k ex V aa,ae (λr=>o=true/\w.heap.size<=r/\r<m) V aa->X m k ex V->X m k ex aa)/\
  U w/\(∀m,I m ad w)/\
  qR ab (lam ab λvs=>∀m k Y w',w.heap.size<=m->m<=w'.heap.size->U w'->ac k vs Y w'->I m k w'->B vs w' λex W=>match ex with
   | .normal=>U W/\I m Y W/\bif o then eP w' W/\ae (λr=>r<w.heap.size\/m<=r) w' W else (G=true->eP w' W)
   |ex=>bif o then False else X m k ex W)/\
  (∀m k w',af k->I m k w'->ah w')/\(∀m k w',X m k .ret w'->ai w')/\(∀m k i w',X m k (.exit i) w'->mj aj i w')
def nK (af:y0) (w:x2) (B:y0->x2->(Exit->x2->Prop)->Prop) (ag ah:x2->Prop) (ai:List (Nat×(x2->Prop))):Prop:=
 ∃ (J:Type) (o G:Bool) (g:FuncId) (cap:Array y0) (ac:J) (ad:J->Prop) (ab:J->List y0->J->x2->Prop) (U:x2->Prop) (I:Nat->J->x2->Prop) (X:Nat->J->Exit->x2->Prop),
  af= .func (.func g) #[] cap/\qW P o G g cap.toList ac ad ab U/\(∀k vs Y w,ab k vs Y w->vs.length=1)/\
  (∀w w',Ext w w'->U w->U w')/\(∀m k V aa,ae (λr=>o=true/\w.heap.size<=r/\r<m) V aa->I m k V->I m k aa)/\(∀m k ex V aa,ae (λr=>o=true/\w.heap.size<=r/\r<m) V aa->X m k ex V->X m k ex aa)/\
  U w/\(∀m,I m ac w)/\
  (∀a,∀m k Y w',w.heap.size<=m->m<=w'.heap.size->U w'->ab k [a] Y w'->I m k w'->B a w' λex W=>match ex with
   | .normal=>U W/\I m Y W/\bif o then eP w' W/\ae (λr=>r<w.heap.size\/m<=r) w' W else (G=true->eP w' W)
   |ex=>bif o then False else X m k ex W)/\
  (∀m k w',ad k->I m k w'->ag w')/\(∀m k w',X m k .ret w'->ah w')/\(∀m k i w',X m k (.exit i) w'->mj ai i w')
def lG (af:y0) (w:x2) (B:y0->y0->x2->(Exit->x2->Prop)->Prop) (ag ah:x2->Prop) (ai:List (Nat×(x2->Prop))):Prop:=
 ∃ (J:Type) (o G:Bool) (g:FuncId) (cap:Array y0) (ac:J) (ad:J->Prop) (ab:J->List y0->J->x2->Prop) (U:x2->Prop) (I:Nat->J->x2->Prop) (X:Nat->J->Exit->x2->Prop),
  af= .func (.func g) #[] cap/\qW P o G g cap.toList ac ad ab U/\(∀k vs Y w,ab k vs Y w->vs.length=2)/\
  (∀w w',Ext w w'->U w->U w')/\(∀m k V aa,ae (λr=>o=true/\w.heap.size<=r/\r<m) V aa->I m k V->I m k aa)/\(∀m k ex V aa,ae (λr=>o=true/\w.heap.size<=r/\r<m) V aa->X m k ex V->X m k ex aa)/\
  U w/\(∀m,I m ac w)/\
  (∀a b,∀m k Y w',w.heap.size<=m->m<=w'.heap.size->U w'->ab k [a,b] Y w'->I m k w'->B a b w' λex W=>match ex with
   | .normal=>U W/\I m Y W/\bif o then eP w' W/\ae (λr=>r<w.heap.size\/m<=r) w' W else (G=true->eP w' W)
   |ex=>bif o then False else X m k ex W)/\
  (∀m k w',ad k->I m k w'->ag w')/\(∀m k w',X m k .ret w'->ah w')/\(∀m k i w',X m k (.exit i) w'->mj ai i w')
theorem tn.s {P:V2} {G:Bool} {g:FuncId} {cap:List y0} {V:Nat->List y0->x2->Prop} {J:x2->Prop} (h:tn P G g cap n V J):
  nJ P G g cap 0 (λk=>k=n) (λk vs W w=>k<n/\W=k+1/\V k vs w) J:=by
 refine⟨h.1,λl X Y w aa ab ac hJ ad=>?_⟩;have:=h.2 l X (λk w=>Y k w) w aa ab (λk vs w' hk hae af ag=>ac k (k+1) vs w' hae ⟨hk,rfl,af⟩ ag) hJ ad;cases this with
 |code h1 ah=>exact .code h1 (ah.mono λ_ _ ⟨v,ai,U⟩=>⟨v,ai,U.elim (λh=>.inl ⟨n,rfl,h⟩) (λ⟨k,_,h⟩=>.inr ⟨k,h⟩)⟩)
 |ext v w' h1 U=>exact .ext v w' h1 (U.elim (λh=>.inl ⟨n,rfl,h⟩) (λ⟨k,_,h⟩=>.inr ⟨k,h⟩))
theorem nJ.x {P:V2} {Y:Type} {G:Bool} {g:FuncId} {cap:List y0} {ah:Y} {ai:Y->Prop} {aj:Y->List y0->Y->x2->Prop} {ac:x2->Prop} (h:nJ P G g cap ah ai aj ac):qW P false G g cap ah ai aj ac:=by
 refine⟨h.1,λl ak al w am an ao hac ap=>?_⟩;have:=h.2 l (λk w'=>w.heap.size<=w'.heap.size/\ak w.heap.size k w') (al w.heap.size) w (λk V aa ad ae J=>⟨X8 J.1 ad.size,am _ k V aa (ad.ab _) ae J.2⟩) (λk V aa ad ae J=>an _ k V aa (ad.ab _) ae J)
  (λk aq vs w' hau av J=>iS.mono (ao _ k aq vs w' (n9 _) J.1 hau av J.2) λv ay aw=>aw.imp (λ⟨h1,U,af,W,X,_⟩=>⟨h1,U,⟨X8 J.1 X,af⟩,λax=>W (.inl ax)⟩) λ⟨_,h1,U⟩=>⟨h1,U⟩) hac ⟨n9 _,ap _⟩
 cases this with
 |code h1 U=>exact .code h1 (U.mono λ_ _ ⟨v,af,W⟩=>⟨v,af,W.imp (λ⟨k,X,ag⟩=>⟨_,k,X,ag.2⟩) (λ⟨k,h⟩=>⟨_,k,h⟩)⟩)
 |ext v w' h1 W=>exact .ext v w' h1 (W.imp (λ⟨k,X,ag⟩=>⟨_,k,X,ag.2⟩) (λ⟨k,h⟩=>⟨_,k,h⟩))
theorem nK.old {P:V2} {af:y0} {B:y0->x2->(Exit->x2->Prop)->Prop} {ag ah:x2->Prop} {ai:List (Nat×(x2->Prop))}
 (h:∃ (U:Type) (G:Bool) (g:FuncId) (cap:Array y0) (ab:U) (ac:U->Prop) (Y:U->List y0->U->x2->Prop) (J:x2->Prop) (I:U->x2->Prop) (W:U->Exit->x2->Prop),
  af= .func (.func g) #[] cap/\nJ P G g cap.toList ab ac Y J/\(∀k vs X w,Y k vs X w->vs.length=1)/\
  (∀w w',Ext w w'->J w->J w')/\(∀k w w',Ext w w'->I k w->I k w')/\(∀k ex w w',Ext w w'->W k ex w->W k ex w')/\
  J w/\I ab w/\
  (∀a,∀k X w',J w'->Y k [a] X w'->I k w'->B a w' λex ad=>match ex with
   | .normal=>J ad/\I X ad/\(G=true->eP w' ad)
   |ex=>W k ex ad)/\
  (∀k w',ac k->I k w'->ag w')/\(∀k w',W k .ret w'->ah w')/\(∀k i w',W k (.exit i) w'->mj ai i w')):nK P af w B ag ah ai:=by
 obtain⟨U,G,g,cap,ab,ac,Y,J,I,W,h1,aj,ak,al,am,an,ao,ap,aq,au,av,aw⟩:=h;exact⟨U,false,G,g,cap,ab,ac,Y,J,λ_=>I,λ_=>W,h1,aj.x,ak,al,λ_ k V aa ae=>am k V aa (ae.ext λ_ _ h=>nomatch h.1),λ_ k ex V aa ae=>an k ex V aa (ae.ext λ_ _ h=>nomatch h.1),ao,λ_=>ap,
  λa _ k X w' _ _ hJ ax ay=>aq a k X w' hJ ax ay,λ_=>au,λ_=>av,λ_=>aw⟩
theorem lG.old {P:V2} {af:y0} {B:y0->y0->x2->(Exit->x2->Prop)->Prop} {ag ah:x2->Prop} {ai:List (Nat×(x2->Prop))}
 (h:∃ (U:Type) (G:Bool) (g:FuncId) (cap:Array y0) (ab:U) (ac:U->Prop) (Y:U->List y0->U->x2->Prop) (J:x2->Prop) (I:U->x2->Prop) (W:U->Exit->x2->Prop),
  af= .func (.func g) #[] cap/\nJ P G g cap.toList ab ac Y J/\(∀k vs X w,Y k vs X w->vs.length=2)/\
  (∀w w',Ext w w'->J w->J w')/\(∀k w w',Ext w w'->I k w->I k w')/\(∀k ex w w',Ext w w'->W k ex w->W k ex w')/\
  J w/\I ab w/\
  (∀a b,∀k X w',J w'->Y k [a,b] X w'->I k w'->B a b w' λex ad=>match ex with
   | .normal=>J ad/\I X ad/\(G=true->eP w' ad)
   |ex=>W k ex ad)/\
  (∀k w',ac k->I k w'->ag w')/\(∀k w',W k .ret w'->ah w')/\(∀k i w',W k (.exit i) w'->mj ai i w')):lG P af w B ag ah ai:=by
 obtain⟨U,G,g,cap,ab,ac,Y,J,I,W,h1,aj,ak,al,am,an,ao,ap,aq,au,av,aw⟩:=h;exact⟨U,false,G,g,cap,ab,ac,Y,J,λ_=>I,λ_=>W,h1,aj.x,ak,al,λ_ k V aa ae=>am k V aa (ae.ext λ_ _ h=>nomatch h.1),λ_ k ex V aa ae=>an k ex V aa (ae.ext λ_ _ h=>nomatch h.1),ao,λ_=>ap,
  λa b _ k X w' _ _ hJ ax ay=>aq a b k X w' hJ ax ay,λ_=>au,λ_=>av,λ_=>aw⟩
def er (N:Nat) (free:ff):Code->List Nat->Env->x2->(Exit->Env->x2->Prop)->Prop
 | .skip,_,e,w,K=>K .normal e w
 | .label _,_,e,w,K=>K .normal e w
 | .ret,_,e,w,K=>K .ret e w
 | .exit i,_,e,w,K=>K (.exit i) e w
 | .region _ ops W,_,e,w,K=>
  bif W then cK w λw'=>tb P free ops e w' (K .normal)
  else nG P free ops ops.toList e w (K .normal)
 | .seq x y,rd,e,w,K=>
  bif Nat.ble 2 (jX x) then
   bJ (lam (pg N (dp x) (reads y++rd)).length λvs=>λw'=>er N free y rd (iv (pg N (dp x) (reads y++rd)) vs (kO (dp x) e)) w' K)
    λX=>er N free x (reads y++rd) e w λex J w'=>match ex with
     | .normal=>match ju J (pg N (dp x) (reads y++rd)) with
      |some vs=>app (pg N (dp x) (reads y++rd)).length X vs w'
      |none=>False
     |ex=>K ex J w'
  else er N free x (reads y++rd) e w λex J w'=>match ex with
   | .normal=>er N free y rd J w' K
   |ex=>K ex J w'
 | .cond c x y,rd,e,w,K=>
  match ez e c with
  |some (.b true)=>er N free x rd e w K
  |some (.b false)=>er N free y rd e w K
  |some (.v v)=>Split v (er N free x rd e w K) (er N free y rd e w K)
  |some .u=>False
  |none=>False
 | .block id c,rd,e,w,K=>er N free c rd e w λex J w'=>match ex with
  | .exit i=>bif S0 i id then K .normal J w' else K (.exit i) J w'
  |ex=>K ex J w'
 | .loop c,rd,e,w,K=>
  match ju e (ph N (dp c) (reads c++rd) e) with
  |some vs=>
   DD (ph N (dp c) (reads c++rd) e).length vs w λus w' k=>
    er N free c (reads c++rd) (iv (ph N (dp c) (reads c++rd) e) us (kO (dp c) e)) w' λex J U=>match ex with
     | .normal=>match ju J (ph N (dp c) (reads c++rd) e) with
      |some Y=>k Y U
      |none=>False
     |ex=>K ex J U
  |none=>False
 | .scope c,rd,e,w,K=>er N free c rd e w K
 | .rangeFunc f V aa body,_,e,w,K=>
  bif free.1 then False else
  match ez e f with
  |some ab=>
   DH P ab.val V.size w
    (λvs w' k=>er N free aa (reads body) (iv V.toList.reverse vs.reverse e) w' λex J U=>match ex with
     | .normal=>Over U λac=>er N free body [] J ac λex _ ad=>k ex ad
     |_=>False)
    (λw'=>K .normal e w') (bif iw body then λw'=>K .ret e w' else λ_=>False) (tl (λi w'=>K (.exit i) e w') (iU body))
  |none=>False
 | .goto _,_,_,_,_=>False
 | .refuse _,_,_,_,_=>False
end
theorem qX {w0:x2} (h:cp n w0 w) {l:Nat} (X:w0.heap.size<=l) (o:Obj):cp n w0 (w.putObj l o):=
 ⟨h.os,h.tape,h.output,by simpa using h.size,λr x U J=>by
  have V:=(Z1.1 U).1;rw[x2.putObj_heap_other Ω];exact h.bc r x U J,λr x W U J=>by
  have V:=(Z1.1 U).1;rw[x2.putObj_heap_other Ω];exact h.old r x W U J⟩
theorem DI {w0:x2} (h:eP w0 w) {l:Nat} {U:Obj} (W:w.heap[l]? =σ U) (X:qH U=false) (o:Obj):eP w0 (w.putObj l o):=λr x Y J=>by
 have h1:=h r x Y J;by_cases V:r=l
 .subst V;rw[W] at h1;cases h1;rw[X] at J;cases J
 .rw[x2.putObj_heap_other V];exact h1
theorem pi {l:Nat} {V:Obj} (X:w.heap[l]? =σ V) (Y:fw V=false) (o:Obj):Ext w (w.putObj l o):=
 ⟨Ξ,λr x U J=>by
  by_cases W:r=l
  .subst W;rw[X] at U;cases U;rw[Y] at J;cases J
  .rw[x2.putObj_heap_other W];exact U⟩
theorem wP {l:Nat} {o:Obj} (W:fw o=false):Ext (w.putObj l o) w:=
 ⟨Ξ,λr x U J=>by
  by_cases V:r=l
  .subst V;rcases Nat.lt_or_ge r w.heap.size with h|h
   .rw[x2.putObj_heap_same h] at U;cases U;rw[W] at J;cases J
   .rw[Array.getElem?_eq_none (by simpa using h)] at U;cases U
  .rw[x2.putObj_heap_other V] at U;exact U⟩
theorem nL (w:x2) (o:Obj):Ext w (w.alloc o):=pa w o
theorem nM (w:x2) (o:Obj):cY w (w.alloc o):=pb w o
def jv (D:Nat):Deferred:={target:=.collected D,args:=#[]}
def kP (w:x2) (U:List Deferred):Prop:=∃J:List Nat,U=J.map jv/\J.Nodup/\ ∀D∈J,w.heap[D]? =σ (.deferred (σ []))
theorem kP.dc {J:List Deferred} (h:kP w J) (U:cp n w w'):kP w' J:=by
 obtain⟨V,h1,W,X⟩:=h;exact⟨V,h1,W,λD Y=>U.bc D _ (X D Y) rfl⟩
section
variable {P:V2} {N:Nat}
def DJ (w:x2) (U V:List Deferred):Prop:=∃J:List Nat,V=J.map jv++U/\ ∀D∈J,w.heap.size<=D
def ga (n:Nat) (w:x2) (U:List Deferred) (w':x2) (J:List Deferred):Prop:=cp n w w'/\kP w' J/\DJ w U J
theorem ga.refl {J:List Deferred} (h:kP w J):ga n w J w J:=⟨cp.refl _ _,h,[],rfl,λ_ h=>by cases h⟩
theorem ga.trans {V:x2} {J U W:List Deferred} (h:ga n w J V U) (k:ga n V U w' W):ga n w J w' W:=by
 obtain⟨X,ag,Y,a3,a4⟩:=h;obtain⟨aa,ab,ac,ad,ae⟩:=k;refine⟨X.trans aa,ab,ac++Y,by simp[ad,a3],λD af=>?_⟩;rcases l5.1 af with h|h
 .exact X8 X.size (ae D h)
 .exact a4 D h
theorem ga.same {J:List Deferred} (h:kP w J) (U:cp n w w'):ga n w J w' J:=⟨U,h.dc U,[],rfl,λ_ h=>by cases h⟩
def jY:Exit->Bool
 | .panic _=>false
 | .outgrown=>false
 | .goto _=>false
 |_=>true
def lH (N:Nat) (free:ff) (U:Bool) (K:Exit->Env->x2->Prop) (D:List Nat) (a:Act) (w:x2) (ex:Exit) (a':Act) (w':x2):Prop:=
 jY ex=true/\ ∃J,K ex J w'/\S9 N J a'/\(∀t,t∉D->a'.tmps.getD t undef=a.tmps.getD t undef)/\(U=true->a'.defers=a.defers)/\
  (free.1=false->ga free.2 w a.defers w' a'.defers)
theorem lH.step {free:ff} {U W:Bool} {K:Exit->Env->x2->Prop} {X:List Nat} {a J a':Act} {V:x2} {ex:Exit} (h:lH N free W K X J V ex a' w')
  (aa:∀t,t∈X->t∈D) (hk:∀t,t∉D->J.tmps.getD t undef=a.tmps.getD t undef) (ab:U=true->W=true) (ac:U=true->J.defers=a.defers)
  (ad:free.1=false->ga free.2 w a.defers V J.defers):lH N free U K D a w ex a' w':=by
 obtain⟨ae,af,h1,ag,ah,ai,aj⟩:=h;exact⟨ae,af,h1,ag,λt Y=>(ah t λh=>Y (aa t h)).trans (hk t Y),λh=>(ai (ab h)).trans (ac h),λh=>(ad h).trans (aj h)⟩
theorem qY {D:List Nat} {t:Nat} {x:ep}:∀ {e:Env},look (kO D e) t=σ x->look e t=σ x/\t∉D
 |[],h=>by cases h
 |(s,y)::r,h=>by
  simp only[kO] at h;cases hm:iu s D with
  |true=>
   rw[hm] at h;simp only[cond_true] at h;obtain⟨h1,U⟩:=qY h;refine⟨?_,U⟩;simp only[look];cases J:S0 s t with
   |true=>exact absurd (ti.1 hm) (by rw[Nat.eq_of_beq_eq_true J];exact U)
   |false=>exact h1
  |false=>
   rw[hm] at h;simp only[cond_false,look] at h ⊢;cases J:S0 s t with
   |true=>
    rw[J] at h;refine⟨h,λV=>?_⟩;rw[<-Nat.eq_of_beq_eq_true J] at V;rw[ti.2 V] at hm;cases hm
   |false=>
    rw[J] at h;exact qY h
theorem tp {a:Act} {e:Env}:∀ {S:List Nat} {vs:List y0},S9 N e a->(∀p∈S.zip vs,a.tmps.getD p.1 undef=p.2)->S9 N (iv S vs e) a
 |[],_,h,_=>by simpa[iv] using h
 |t::r,[],h,_=>by simpa[iv] using h
 |t::r,v::vs,h,V=>by
  have W:=tp (S:=r) (vs:=vs) h λp X=>V p (by simp[X]);refine⟨W.1,λs x J=>?_⟩;simp only[iv,look] at J;cases U:S0 t s with
  |true=>
   rw[U] at J;simp only[cond_true,Y8] at J;subst J;rw[<-Nat.eq_of_beq_eq_true U];exact V (t,v) Ξ
  |false=>rw[U] at J;exact W.2 s x J
theorem qZ {e:Env} {a:Act} (W:S9 N e a):∀ {S:List Nat} {vs:List y0},ju e S=σ vs->vs.length=S.length/\ ∀p∈S.zip vs,a.tmps.getD p.1 undef=p.2
 |[],vs,h=>by simp[ju] at h;subst h;simp
 |t::r,vs,h=>by
  simp only[ju] at h;cases U:look e t with
  |none=>rw[U] at h;cases h
  |some x=>
   rw[U] at h;simp only at h;cases V:ju e r with
   |none=>rw[V] at h;cases h
   |some us=>
    rw[V] at h;simp only[Y8] at h;subst h;obtain⟨h1,X⟩:=qZ W V;refine⟨by simp[h1],λp J=>?_⟩;simp only[List.zip_cons_cons,T1] at J;rcases J with rfl|J
    .exact W.2 t x U
    .exact X p J
theorem DK {a a':Act} {e J:Env} (U:S9 N e a) (V:S9 N J a') (hk:∀t,t∉D->a'.tmps.getD t undef=a.tmps.getD t undef):S9 N (kO D e) a':=
 ⟨V.1,λt x h=>by
  obtain⟨h1,W⟩:=qY h;rw[hk t W];exact U.2 t x h1⟩
theorem DL {o:T7} {t:Nat} (J:o.dst=σ t) (l:List T7) (hm:o∈l):t∈mh l:=by
 induction l with
 |nil=>cases hm
 |cons o' l U=>
  simp only[mh];rcases T1.1 hm with h|h
  .rw[<-h,J];simp
  .have:=U h;cases o'.dst with
   |none=>exact this
   |some d=>exact .tail _ this
theorem wQ {free:ff} {V:Bool} {K:Exit->Env->x2->Prop} {a a':Act} (W:free.1=false->kP w a.defers) (h:lB N free (K .normal) D a w a' w'):
  lH N free V K D a w .normal a' w':=by
 obtain⟨X,h1,Y,J,aa⟩:=h;exact⟨rfl,X,h1,Y,J.2,λ_=>J.1,λU=>by rw[J.1];exact ga.same (W U) (aa U)⟩
theorem wR:∀ (J:List Nat) (vs:List y0) (p:Nat) (v:y0) (e:Env),J.length=vs.length->iv (J++[p]) (vs++[v]) e=iv J vs ((p,.v v)::e)
 |[],[],_,_,_,_=>rfl
 |[],_::_,_,_,_,h=>by simp at h
 |_::_,[],_,_,_,h=>by simp at h
 |q::J,u::vs,p,v,e,h=>by
  simp only[List.cons_append,iv];rw[wR J vs p v e (by simpa using h)]
theorem wS:∀ (J:List Nat) (vs:List y0) (tm:Array y0) (e:Env),J.length=vs.length->(J.all λt=>Nat.blt t N)=true->S9 N e {tmps:=tm,defers:=[]}->
  S9 N (iv J.reverse vs.reverse e) {tmps:=(J.zip vs).foldl (λtm (p:Nat×y0)=>tm.setIfInBounds p.1 p.2) tm,defers:=[]}
 |[],[],_,_,_,_,h=>h
 |[],_::_,_,_,h,_,_=>by simp at h
 |_::_,[],_,_,h,_,_=>by simp at h
 |p::J,v::vs,tm,e,W,U,h=>by
  have V:J.length=vs.length:=by simpa using W
  simp only[List.all_cons,U8] at U;simp only[List.zip_cons_cons,List.foldl_cons,List.reverse_cons];rw[wR _ _ _ _ _ (by simpa using V)];exact wS J vs _ _ V U.2 (h.put (d:=σ p) (x:=.v v) (v:=v) U.1 rfl)
def ix (free:ff) (c:Code):Bool:=free.1|| !jt c
theorem wT:∀f a b:Bool,(f|| !(a||b))=true->(f|| !a)=true:=Φ
theorem wU:∀f a b:Bool,(f|| !(a||b))=true->(f|| !b)=true:=Φ
def exitCode:Exit->Option Code
 | .ret=>σ .ret
 | .exit id=>σ (.exit id)
 |_=>ν
end
section
variable {P:V2} {N:Nat}
def Sound (P:V2) (N:Nat) (c:Code):Prop:=
 ∀ (free:ff) (r:Option Nat) (rd:List Nat) (e:Env) (a:Act) (w:x2) (K:Exit->Env->x2->Prop) (Q:Exit->Act->x2->Prop),
  wf N c=true->(∀l,r=σ l->free.1=false/\ ∃J,w.heap[l]? =σ (.loop J))->(free.1=false->kP w a.defers)->
  er P N free c rd e w K->S9 N e a->(∀ex a' w',lH N free (ix free c) K (dp c) a w ex a' w'->Q ex a' w')->(∀U a w,¬Q (.panic U) a w)->
  c.wpIn (eg r) 0 P Q a w
theorem DM {x y:Code} (ay:Sound P N x) (az:Sound P N y):Sound P N (.seq x y):=by
 intro free r rd e a w K Q af al aA h am an ao;simp only[wf,U8] at af;have ap:∀t,t∈dp x->t∈dp (.seq x y):=λt X=>by simp[dp,X]
 have aB:∀t,t∈dp y->t∈dp (.seq x y):=λt X=>by simp[dp,X]
 have aq:ix free (.seq x y)=true->ix free x=true:=λh=>wT _ _ _ h;have aC:ix free (.seq x y)=true->ix free y=true:=λh=>wU _ _ _ h;refine wpIn_seq ?_;have au:∀ (J:Env) (U:Act) (V:x2),er P N free y rd J V K->S9 N J U->(∀t,t∉dp x->U.tmps.getD t undef=a.tmps.getD t undef)->
   (ix free (.seq x y)=true->U.defers=a.defers)->(free.1=false->ga free.2 w a.defers V U.defers)->y.wpIn (eg r) 0 P Q U V:=by
  intro J U V h1 Y hk ab W;refine az free r rd J U V K Q af.2 ?_ (λh=>(W h).2.1) h1 Y ?_ ao
  .intro l aD;obtain⟨av,aE,ae⟩:=al l aD;exact⟨av,aE,(W av).1.bc _ _ ae rfl⟩
  .intro ex a' w' ac;exact an ex a' w' (ac.step aB (λt X=>hk t λh=>X (ap t h)) aC ab W)
 have aw:∀ (aa:Exit->Env->x2->Prop),er P N free x (reads y++rd) e w aa->
   (∀J U V,lH N free (ix free x) aa (dp x) a w .normal U V->S9 N J U->aa .normal J V->(∀t,t∉dp x->U.tmps.getD t undef=a.tmps.getD t undef)->
    (ix free (.seq x y)=true->U.defers=a.defers)->(free.1=false->ga free.2 w a.defers V U.defers)->y.wpIn (eg r) 0 P Q U V)->
   (∀ex J V,ex≠ .normal->aa ex J V->K ex J V)->x.wpIn (eg r) 0 P (Exit.then (y.wpIn (eg r) 0 P Q) Q) a w:=by
  intro aa ad W aF;refine ay free r _ e a w aa _ af.1 al aA ad am ?_ ?_
  .intro ex U V ac;cases ex with
   |normal=>
    have aG:=ac;obtain⟨ae,J,h1,ag,ah,ai,aj⟩:=ac;exact W J U V aG ag h1 ah (λh=>ai (aq h)) aj
   |_=>
    obtain⟨ae,J,h1,ag,ah,ai,aj⟩:=ac;refine an _ U V ⟨ae,J,aF _ J V Ξ h1,ag,λt X=>ah t λh=>X (ap t h),λh=>ai (aq h),aj⟩
  .intro aH a w aI;exact ao aH a w aI
 simp only[er] at h;cases ax:Nat.ble 2 (jX x) with
 |false=>
  rw[ax] at h;refine aw _ h (λJ U V _ Y h1 hk ab W=>au J U V h1 Y hk ab W) ?_;intro ex J V ak h1;cases ex<;>first|exact absurd rfl ak|exact h1
 |true=>
  rw[ax] at h;refine aw _ h (λJ U V _ Y h1 hk ab W=>?_) ?_
  .simp only at h1;cases ad:ju J (pg N (dp x) (reads y++rd)) with
   |none=>rw[ad] at h1;exact h1.elim
   |some vs=>
    rw[ad] at h1;obtain⟨aJ,aK⟩:=qZ Y ad;simp only at h1;rw[qS _ _ _ aJ] at h1;exact au _ U V h1 (tp (DK am Y hk) aK) hk ab W
  .intro ex J V ak h1;cases ex<;>first|exact absurd rfl ak|exact h1
theorem DN {c:Code} (az:Sound P N c):Sound P N (.loop c):=by
 intro free r rd e a w K Q ap aA aB h ag aC aD;simp only[wf] at ap;simp only[er] at h;generalize aQ:ph N (dp c) (reads c++rd) e=S at h;cases ah:ju e S with
 |none=>rw[ah] at h;exact h.elim
 |some vs=>
  rw[ah] at h;simp only at h;obtain⟨I,aE,W,aF⟩:=h;obtain⟨aG,aH⟩:=qZ ag ah;let Inv:Act->x2->Prop:=λJ V=>∃us,us.length=S.length/\app S.length I us V/\(∀p∈S.zip us,J.tmps.getD p.1 undef=p.2)/\J.tmps.size=N/\
   (∀t,t∉dp c->J.tmps.getD t undef=a.tmps.getD t undef)/\(ix free c=true->J.defers=a.defers)/\(free.1=false->ga free.2 w a.defers V J.defers)
  let X:Act->List y0:=λJ=>S.map λt=>J.tmps.getD t undef;have aq:∀ (J:Act) (us:List y0),us.length=S.length->(∀p∈S.zip us,J.tmps.getD p.1 undef=p.2)->X J=us:=by
   intro J us Y ab;apply List.ext_getElem
   .simp[X,Y]
   .intro i h1 U;have hi:i<S.length:=by simpa[X] using h1
    have aI:(S[i],us[i])∈S.zip us:=by
     have:=S3 (l:=S.zip us) (n:=i) (by simp[List.length_zip,Y,hi]);simpa using this
    simpa[X] using ab _ aI
  refine wpIn_loop Inv (λJ V=>app S.length aE (X J) V) ⟨vs,aG,W,aH,ag.1,λ_ _=>rfl,λ_=>rfl,λac=>ga.refl (aB ac)⟩ ?_;rintro J V ⟨us,Y,aJ,ab,aK,hk,ac,ad⟩;have ae:=qT S.length _ us aF;rw[qS _ _ _ Y] at ae;have ae:=ae V aJ;have aL:S9 N (iv S us (kO (dp c) e)) J:=by
   refine tp (a:=J) (e:=kO (dp c) e) ⟨aK,λt x af=>?_⟩ ab;obtain⟨h1,U⟩:=qY af;rw[hk t U];exact ag.2 t x h1
  refine az free r _ _ J V _ _ ap ?_ (λh=>(ad h).2.1) ae aL ?_ ?_
  .intro l aM;obtain⟨au,aN,W⟩:=aA l aM;exact⟨au,aN,(ad au).1.bc _ _ W rfl⟩
  .intro ex ai aa aj;have av:∀t,t∉dp c->ai.tmps.getD t undef=a.tmps.getD t undef:=by
    obtain⟨_,_,_,_,ak,_,_⟩:=aj;exact λt af=>(ak t af).trans (hk t af)
   cases ex with
   |normal=>
    obtain⟨W,al,h1,U,ak,am,an⟩:=aj;simp only at h1;cases ao:ju al S with
    |none=>rw[ao] at h1;exact h1.elim
    |some aw=>
     rw[ao] at h1;obtain⟨ax,ay⟩:=qZ U ao;refine⟨⟨aw,ax,h1.1,ay,U.1,av,λh=>(am h).trans (ac h),λh=>(ad h).trans (an h)⟩,?_⟩;rw[aq J us Y ab,aq ai aw ax ay];exact h1.2
   |_=>
    obtain⟨W,al,h1,U,ak,am,an⟩:=aj;exact aC _ ai aa ⟨W,al,h1,U,av,λh=>(am h).trans (ac h),λh=>(ad h).trans (an h)⟩
  .intro aO a w aP;exact aD aO a w aP
theorem DO {o:Obj} (h:fw o=false):book o=true\/qH o=true:=by cases o<;>first|exact .inl rfl|exact .inr rfl|cases h
theorem DP {l:Nat} {W ac X:x2} {ad ae:Obj} (af:W.heap[l]? =σ ad) (U:cp n W ac) (V:cp n (ac.putObj l ae) X) (ag:l<X.heap.size) (hi:eP W X):cY W (X.putObj l ad):=
 ⟨V.os.trans U.os,jr.trans V.tape U.tape,V.output.trans U.output,by have h1:=U.size;have ah:=V.size;simp at ah ⊢;omega,λr x Y J=>by
  by_cases ab:r=l
  .subst ab;rw[af] at Y;cases Y;exact x2.putObj_heap_same ag
  .rw[x2.putObj_heap_other ab];rcases DO J with aa|aa
   .exact V.bc r x (by rw[x2.putObj_heap_other ab];exact U.bc r x Y aa) aa
   .exact hi r x Y aa⟩
theorem DQ {f:S7} {ai:Array Tmp} {aq body:Code} (bn:Sound P N aq) (aB:Sound P N body):Sound P N (.rangeFunc f ai aq body):=by
 intro free r rd e a w K Q aZ aC bo h ax bp cc;simp only[wf,U8] at aZ;obtain⟨bq,br,bt⟩:=aZ;simp only[er] at h;obtain⟨fr,b⟩:=free;cases fr with
 |true=>exact h.elim
 |false=>
  simp only[cond_false] at h;cases aJ:ez e f with
  |none=>rw[aJ] at h;exact h.elim
  |some cd=>
   rw[aJ] at h;obtain⟨a1,o,G,g,cap,ce,cg,ch,aK,I,aL,bu,⟨a2,bw⟩,bx,ha6,aD,aM,hbz,bA,bB,bC,bD,bE⟩:=h;have bF:∀m k ex w',jY ex=true->ex≠ .normal->aL m k ex w'->K ex e w':=by
    intro m k ex w' ay aN a7;cases ex with
    |normal=>exact absurd rfl aN
    |ret=>
     have:=bD m k w' a7;cases aC:iw body with
     |true=>rw[aC] at this;exact this
     |false=>rw[aC] at this;exact this.elim
    |exit i=>exact wO (bE m k i w' a7)
    |_=>cases ay
   have bG:a.eval f= .func (.func g) #[] cap:=by rw[ax.ez aJ];exact bu
   refine wpIn_rangeFunc ?_;intro fn _;obtain⟨D,mark,l,Y,V,bH,W,bI,aO,aj,bJ,aE⟩:∃ (D:Nat) (mark:List Deferred) (l:Nat) (Y:x2) (V:LoopState->Option Code->Loop),
     (Instr.enterLoop fn a.tmps ai aq body (eg r).round).run P w= .ok (l,mark) Y/\
     V=(λst bK=>{state:=st,pending:=bK,fn,tmps:=a.tmps,params:=ai,assign:=aq,body,defers:=D})/\
     Y.heap[l]? =σ (.loop (V .ready ν))/\(mark=[]\/(mark=[jv D]/\Y.heap[D]? =σ (.deferred (σ []))/\w.heap.size<=D/\D≠l))/\Ext w Y/\cp b w Y/\w.heap.size<=l:=by
    cases r with
    |none=>
     refine⟨w.heap.size,[jv w.heap.size],w.heap.size+1,_,_,run_enterLoop_outer _ _ _ _ _,rfl,?_,.inr ⟨rfl,?_,n9 _,Ω⟩,?_,?_,Ω⟩
     .have:=x2.alloc_heap_new (w.alloc (.deferred (σ []))) (.loop {state:=.ready,pending:=ν,fn,tmps:=a.tmps,params:=ai,assign:=aq,body,defers:=w.heap.size});rwa [x2.size_alloc] at this
     .exact (Below.heap_alloc _ _ _ Ξ).trans (x2.alloc_heap_new w _)
     .exact (nL w _).trans (nL _ _)
     .exact ((nM w _).trans (nM _ _)).b
    |some bL=>
     obtain⟨_,bM,af⟩:=aC bL rfl;exact⟨bM.defers,[],w.heap.size,_,_,run_enterLoop_inner af _ _ _ _ _,rfl,x2.alloc_heap_new w _,.inl rfl,nL _ _,(nM _ _).b,n9 _⟩
   let ak:x2->Prop:=λJ=>mark=[]\/(mark=[jv D]/\J.heap[D]? =σ (.deferred (σ []))/\w.heap.size<=D/\D≠l);have az:∀ {m:Nat} {A B:x2},cp m A B->ak A->ak B:=λag h=>h.imp id λ⟨h1,U,X⟩=>⟨h1,ag.bc _ _ U rfl,X⟩;have aF:∀ {A:x2} (o:Obj),ak A->ak (A.putObj l o):=λo h=>h.imp id λ⟨h1,U,X,ac⟩=>⟨h1,(x2.putObj_heap_other ac).trans U,X,ac⟩;let a8:Nat->a1->x2->Prop:=λm k J=>I m k J/\J.heap[l]? =σ (.loop (V .ready ν))/\cp b w J/\ak J;let ba:Nat->a1->x2->Prop:=λm k J=>∃ex c,jY ex=true/\exitCode ex=σ c/\aL m k ex J/\J.heap[l]? =σ (.loop (V .done (σ c)))/\cp b w J/\ak J;have own:∀ {m:Nat} {A B:x2},ae (λr=>o=true/\Y.heap.size<=r/\r<m) A B->ae (λr=>o=true/\w.heap.size<=r/\r<m) A B:=λh=>h.mono λr _ h=>⟨h.1,X8 aj.size h.2.1,h.2.2⟩;have aP:=bw l a8 ba Y (λm k A B he ag ⟨h1,U,X,ac⟩=>⟨aD m k A B (own he) h1,ag.bc _ _ U rfl,X.step ag aj.size,az ag ac⟩)
    (λm k A B he ag ⟨ex,c,af,h1,U,X,ac,aA⟩=>⟨ex,c,af,h1,aM m k ex A B (own he) U,ag.bc _ _ X rfl,ac.step ag aj.size,az ag aA⟩) ?round (ha6 _ _ aj hbz) λm=>⟨aD m _ _ _ (aj.ab _) (bA m),bI,bJ,aO⟩
   case round=>
    intro m k aQ vs J bN bO haK bb ⟨hi,aG,bP,bQ⟩;have aR:=bx k vs aQ J bb;have bd:=run_yield (P:=P) (args:=vs.toArray) aG (by rw[W];simp[aR]);rw[W] at bd;refine⟨fn,_,aq,body,bd,roundIn_of_wpIn trivial ?_⟩;have bR:(ai.zip vs.toArray).foldl (λtmps x=>match x with|(t,a)=>tmps.setIfInBounds t a) a.tmps=(ai.toList.zip vs).foldl (λtm (p:Nat×y0)=>tm.setIfInBounds p.1 p.2) a.tmps:=by
     rw[<-Array.foldl_toList,Array.toList_zip]
    have be:=wS (N:=N) ai.toList vs a.tmps e (by simp[aR]) bq (show S9 N e {tmps:=a.tmps,defers:=[]} from⟨ax.1,ax.2⟩);rw[<-bR] at be;have bS:J.heap[l]? =σ (.loop (V .ready ν)):=aG;refine bn (false,b) (σ l) _ _ _ J _ _ br (λl' aS=>⟨rfl,by cases aS;exact⟨_,aG⟩⟩) (λ_=>⟨[],rfl,List.nodup_nil,λD aO=>by cases aO⟩) (by have aB:=qT _ _ vs bB;rw[qS _ _ _ aR] at aB;exact aB m k aQ J (X8 aj.size bN) bO haK bb hi) be ?_ (λ_ _ _ h=>h);intro ex bf aa aT;obtain⟨af,ci,h1,U,X,ac,aA⟩:=aT;obtain⟨al,bT,_⟩:=aA rfl;cases ex with
    |normal=>
     have au:aa.heap[l]? =σ (.loop (V .ready ν)):=al.bc _ _ aG rfl;have bU:=(Z1.1 au).1;refine⟨_,run_beginRound au (by rw[W]),?_⟩;have bV:Ext aa (aa.putObj l (.loop {V .ready ν with state:=.busy})):=pi au rfl _;have bg:(aa.putObj l (.loop {V .ready ν with state:=.busy})).heap[l]? =σ (.loop {V .ready ν with state:=.busy}):=x2.putObj_heap_same bU;have bW:kP (aa.putObj l (.loop {V .ready ν with state:=.busy})) bf.defers:=by
      obtain⟨aH,av,aw,ah⟩:=bT;refine⟨aH,av,aw,λam an=>?_⟩;have:=ah am an;have aN:am≠l:=λhe=>by rw[he,au] at this;cases this
      rw[x2.putObj_heap_other aN];exact this
     have bh:cp b w (aa.putObj l (.loop {V .ready ν with state:=.busy})):=qX (bP.trans al) aE _;have bi:=aF (.loop {V .ready ν with state:=.busy}) (az al bQ);have bX:=h1 _ bV (wP rfl) (DI (eP.refl _) au rfl _);refine aB (false,b) (σ l) _ _ bf _ _ _ bt (λl' aS=>⟨rfl,by cases aS;exact⟨_,bg⟩⟩) (λ_=>bW) bX U ?_ (λ_ _ _ h=>h);intro bY cj ao aT;obtain⟨aU,ck,g1,cl,cm,cn,bZ⟩:=aT;obtain⟨ad,_,_⟩:=bZ rfl;have aV:ao.heap[l]? =σ (.loop {V .ready ν with state:=.busy}):=ad.bc _ _ bg rfl;have aW:=(Z1.1 aV).1;have bj:=λb0=>run_endRound (P:=P) b0 aV;have aI:∀ (o:Obj),Ext ao (ao.putObj l o):=λo=>pi aV rfl o;have bk:∀ (ex:Exit) (c:Code),jY ex=true->exitCode ex=σ c->(bif o then False else aL m k ex ao)->
       ∃v w',(Instr.endRound l (σ c)).run P ao= .ok v w'/\ ∃aX,Ending.returned v= .returned aX/\((aX= .bool true/\aK w'/\a8 m aQ w'/\(G=true\/o=true->cY J w')/\J.heap.size<=w'.heap.size/\(o=true->ae (λr=>r<Y.heap.size\/m<=r) J w'))\/(o=false/\aX= .bool false/\ba m k w')):=by
      intro ex c ay b1 bl;cases o with
      |true=>exact bl.elim
      |false=>
       refine⟨_,_,bj (σ c),_,rfl,.inr ⟨rfl,rfl,ex,c,ay,b1,aM m k ex _ _ ((aI _).ab _) bl,?_,qX (bh.trans ad) aE _,aF _ (az ad bi)⟩⟩;rw[x2.putObj_heap_same aW,W];rfl
     cases bY with
     |normal=>
      obtain⟨av,aw,ah⟩:=g1;have b2:G=true\/o=true->eP J ao:=by
       cases o with
       |true=>exact λ_=>ah.1
       |false=>exact λh=>ah (h.elim id λh=>nomatch h)
      have b3:o=true->ae (λr=>r<Y.heap.size\/m<=r) J ao:=by
       cases o with
       |true=>exact λ_=>ah.2.mono λr _ h=>h.imp (λh=>Nat.lt_of_lt_of_le h aj.size) id
       |false=>exact λh=>nomatch h
      refine⟨_,_,bj ν,_,rfl,.inl ⟨rfl,ha6 _ _ (aI _) av,⟨aD m _ _ _ ((aI _).ab _) aw,?_,qX (bh.trans ad) aE _,aF _ (az ad bi)⟩,λb4=>?_,?_,λb5=>(b3 b5).trans ((aI _).ab _)⟩⟩
      .rw[x2.putObj_heap_same aW,W];rfl
      .have:=DP bS al ad aW (b2 b4);subst W;exact this
      .have h1:=al.size;have U:=ad.size;simp at U ⊢;omega
     |ret=>exact bk .ret _ rfl rfl g1
     |exit id=>exact bk (.exit id) _ rfl rfl g1
     |goto t=>cases aU
     |panic b6=>cases aU
     |outgrown=>cases aU
    |_=>exact h1.elim
   have aP:=gu.calls P aP a2;refine⟨l,mark,Y,{target:=.fn (.func g) cap,args:=#[.func (.yield l) #[] #[]]},Y,g,#[.func (.yield l) #[] #[]]++cap,Y,bH,?_,λ_ _=>trivial,?_,s4 _ _,?_⟩
   .simp only[resolve,bG];simp[go_sem]
   .simp only[invoke];exact a2 _ _
   .have b7:(#[.func (.yield l) #[] #[]]++cap:Array y0)=(y0.func (.yield l) #[] #[]::cap.toList).toArray:=by apply Array.toList_inj.1;simp
    rw[b7];refine CallsIn.mono (wB aP) ?_;rintro cq aa ⟨v,rfl,b8⟩;have left:∀ (ap:Loop) (ex:Exit),jY ex=true->aa.heap[l]? =σ (.loop ap)->ap.state≠ .busy->cp b w aa->ak aa->K ex e (aa.putObj l (.loop {ap with state:=.exhausted}))->
      Q ex {a with defers:=mark++a.defers} (aa.putObj l (.loop {ap with state:=.exhausted})):=by
     intro ap ex ay au cr al bm b9;have ad:cp b w (aa.putObj l (.loop {ap with state:=.exhausted})):=qX al aE _;refine bp ex _ _ ⟨ay,e,b9,⟨ax.1,ax.2⟩,λ_ _=>rfl,(λh=>by simp[ix,jt] at h),λ_=>⟨ad,?_,?_⟩⟩
     case refine_2=>
      rcases bm with hm|⟨hm,_,ca,_⟩
      .exact⟨[],by simp[hm],λ_ h=>by cases h⟩
      .exact⟨[D],by simp[hm],λam an=>by simp at an;omega⟩
     obtain⟨aH,av,aw,ah⟩:=bo rfl;have aY:=aF (.loop {ap with state:=.exhausted}) bm;rcases aY with hm|⟨hm,aY,ca,_⟩
     .exact⟨aH,by simp[hm,av],aw,λam an=>ad.bc _ _ (ah am an) rfl⟩
     .refine⟨D::aH,by simp[hm,av],List.nodup_cons.2 ⟨λcb=>?_,aw⟩,λam an=>?_⟩
      .have:=(Z1.1 (ah D cb)).1;omega
      .rcases T1.1 an with h|h
       .rw[h];exact aY
       .exact ad.bc _ _ (ah am h) rfl
    rcases b8 with⟨m,k,hk,h1,U,X,ac⟩|⟨m,k,ex,c,af,h1,U,X,ac,aA⟩
    .refine⟨ν,_,by have:=run_endLoop (P:=P) U (by rw[W];simp);rw[W] at this;exact this,?_⟩;have:=left (V .ready ν) .normal rfl U (by rw[W];simp) X ac (bC m _ _ hk (aD m _ _ _ ((pi U rfl _).ab _) h1));rw[W] at this;exact this
    .refine⟨σ c,_,by have:=run_endLoop (P:=P) X (by rw[W];simp);rw[W] at this;exact this,?_⟩;have:=left (V .done (σ c)) ex af X (by rw[W];simp) ac aA (bF m k ex _ af (by intro he;rw[he] at h1;cases h1) (aM m _ _ _ _ ((pi X rfl _).ab _) U));rw[W] at this;cases ex with
     |normal=>cases h1
     |ret=>cases h1;exact wpIn_ret this
     |exit id=>cases h1;exact wpIn_exit this
     |goto t=>cases af
     |panic b6=>cases af
     |outgrown=>cases af
theorem q0 {b:Frame} {a:Act} {k:List Item} {cs:List Frame} {c:Code}:
  step P (lone (b.atR a (.code (.scope c)::k)) cs w)= .next (lone (b.atR a (.code c:: .inScope c::k)) cs w):=
 step_lone_go (by simp[stepG,stepG.exec,Frame.atR])
theorem DR {b:Frame} {a:Act} {k:List Item} {cs:List Frame} {c:Code}:
  step P (lone (b.atR a (.inScope c::k)) cs w)= .next (lone (b.atR a k) cs w):=
 step_lone_go (by simp[stepG,stepG.exec,Frame.atR])
theorem DS {F:Fence} {c:Code} {Q:Exit->Act->x2->Prop} {a:Act} (h:c.wpIn F n P (λex a' w'=>jY ex=true/\Q ex a' w') a w):
  (Code.scope c).wpIn F n P Q a w:=by
 intro b k cs ad V W;have J:(lone (b.atR a (.code (.scope c)::k)) cs w).fenced P F:=fenced_calm V W rfl;obtain⟨e,X,Y,⟨aa,ab⟩,U⟩:=h b (.inScope c::k) cs ad V W;have ac:∀id,exitTo id (.inScope c::k)=exitTo id k:=λid=>by simp[exitTo]
 cases e with
 |normal=>exact⟨.normal,X,Y,ab,.head J q0 (StepsIn.trans U (.one (fenced_calm V W rfl) DR))⟩
 |exit id=>
  exact⟨.exit id,X,Y,ab,λae hk=>.head J q0 (U.1 ae (by rw[ac];exact hk)),
   λaf hk=>let⟨ag,h1,ah⟩:=U.2 af (by rw[ac];exact hk);⟨ag,h1,.head J q0 ah⟩⟩
 |ret=>exact⟨_,X,Y,ab,.of_steps (.one J q0) U⟩
 |goto l=>cases aa
 |panic ai=>cases aa
 |outgrown=>cases aa
theorem sound (hm:P.follows .mixedOrders=true) (c:Code):Sound P N c:=by
 induction c with
 |skip=>exact λfree r rd e a w K Q _ _ U h J V _=>wpIn_skip (V _ _ _ ⟨rfl,e,h,J,λ_ _=>rfl,λ_=>rfl,λaa=>ga.refl (U aa)⟩)
 |label l=>exact λfree r rd e a w K Q _ _ U h J V _=>wpIn_label (V _ _ _ ⟨rfl,e,h,J,λ_ _=>rfl,λ_=>rfl,λaa=>ga.refl (U aa)⟩)
 |ret=>exact λfree r rd e a w K Q _ _ U h J V _=>wpIn_ret (V _ _ _ ⟨rfl,e,h,J,λ_ _=>rfl,λ_=>rfl,λaa=>ga.refl (U aa)⟩)
 |exit i=>exact λfree r rd e a w K Q _ _ U h J V _=>wpIn_exit (V _ _ _ ⟨rfl,e,h,J,λ_ _=>rfl,λ_=>rfl,λaa=>ga.refl (U aa)⟩)
 |goto l=>exact λfree r rd e a w K Q _ _ U h J V _=>h.elim
 |refuse s=>exact λfree r rd e a w K Q _ _ U h J V _=>h.elim
 |region id ops av=>
  intro free r rd e a w K Q W ab U h J V ac;simp only[wf,U8] at W;have ao:∀o∈ops.toList,∀t,o.dst=σ t->t∈mh ops.toList:=λo aw t af=>DL af _ aw;simp only[er] at h;cases av with
  |false=>exact Dr ao W.1 h J λa' w' X=>V _ _ _ (wQ U X)
  |true=>
   simp only[Y6,Bool.false_or] at W;exact DA hm W.2 ac ao W.1 (λw' h1 ad ae=>h w' h1 ad ae) J λa' w' X=>V _ _ _ (wQ U X)
 |seq x y aj ak=>exact DM aj ak
 |cond c x y aj ak=>
  intro free r rd e a w K Q W ab U h J V ac;simp only[wf,U8] at W;have ap:∀ex a' w',lH N free (ix free x) K (dp x) a w ex a' w'->Q ex a' w':=λex a' w' X=>V ex a' w' (by
   obtain⟨ai,ag,h1,ad,ae,ah,al⟩:=X;exact⟨ai,ag,h1,ad,λt af=>ae t λh=>af (by simp[dp,h]),(λh=>ah (wT _ _ _ h)),al⟩)
  have aq:∀ex a' w',lH N free (ix free y) K (dp y) a w ex a' w'->Q ex a' w':=λex a' w' X=>V ex a' w' (by
   obtain⟨ai,ag,h1,ad,ae,ah,al⟩:=X;exact⟨ai,ag,h1,ad,λt af=>ae t λh=>af (by simp[dp,h]),(λh=>ah (wU _ _ _ h)),al⟩)
  simp only[er] at h;cases Y:ez e c with
  |none=>rw[Y] at h;exact h.elim
  |some v=>
   rw[Y] at h;cases v with
   |b t=>
    cases t with
    |true=>exact wpIn_cond (t:=true) (J.ez Y) (aj free r rd e a w K Q W.1 ab U h J ap ac)
    |false=>exact wpIn_cond (t:=false) (J.ez Y) (ak free r rd e a w K Q W.2 ab U h J aq ac)
   |v z=>
    obtain⟨t,ax,af,aa⟩:=h;refine wpIn_cond (t:=t) ((J.ez Y).trans ax) ?_;cases t with
    |true=>exact aj free r rd e a w K Q W.1 ab U (af rfl) J ap ac
    |false=>exact ak free r rd e a w K Q W.2 ab U (aa rfl) J aq ac
   |u=>exact h.elim
 |block id c Y=>
  intro free r rd e a w K Q W ab U h J V ac;simp only[wf] at W;simp only[er] at h;refine wpIn_block (Y free r rd e a w _ _ W ab U h J ?_ λau a w am=>ac au a w am);intro ex a' w' X;obtain⟨ai,ag,h1,ad,ae,ah⟩:=X;cases ex with
  |exit i=>
   simp only[Exit.inBlock];simp only at h1;by_cases hi:i=id
   .rw[if_pos hi];rw[hi,Nat.beq_refl] at h1;exact V _ _ _ ⟨rfl,ag,h1,ad,ae,ah⟩
   .rw[if_neg hi];have:S0 i id=false:=by
     cases an:S0 i id with
     |true=>exact absurd (Nat.eq_of_beq_eq_true an) hi
     |false=>rfl
    rw[this] at h1;exact V _ _ _ ⟨rfl,ag,h1,ad,ae,ah⟩
  |_=>exact V _ _ _ ⟨ai,ag,h1,ad,ae,ah⟩
 |loop c Y=>exact DN Y
 |scope c Y=>
  intro free r rd e a w K Q W ab U h J V ac;exact DS (Y free r rd e a w K (λex a' w'=>jY ex=true/\Q ex a' w') W ab U h J (λex a' w' X=>⟨X.1,V ex a' w' X⟩) λau a w am=>by cases am.1)
 |rangeFunc f az aA body ay an=>exact DQ ay an
def jZ:Nat->List y0->Env
 |_,[]=>[]
 |i,v::r=>(i,.v v)::jZ (i+1) r
def mm (P:V2) (e:Env) (w:x2):List ResultVar->(List y0->Prop)->Prop
 |[],K=>K []
 | .tmp t::r,K=>match look e t with
  |some x=>mm P e w r λvs=>K (x.val::vs)
  |none=>False
 | .cell a t::r,K=>match look e a with
  |some x=>U P (do loadVar t (<-asAddr x.val)) w λv=>mm P e w r λvs=>K (v::vs)
  |none=>False
def q1:List y0->y0
 |[v]=>v
 |vs=>.tuple vs.toArray
def kQ (P:V2) (J:List ResultVar) (marks:Bool) (Q:y0->x2->Prop):Exit->Env->x2->Prop
 | .normal,e,w| .ret,e,w=>mm P e w J λvs=>bif marks then wN w λw'=>Q (q1 vs) w' else Q (q1 vs) w
 |_,_,_=>False
def lI:List ResultVar->List Nat
 |[]=>[]
 | .tmp t::r=>t::lI r
 | .cell a _::r=>a::lI r
theorem wV:∀ (vs:List y0) (i t:Nat) (x:ep),look (jZ i vs) t=σ x-> ∃j v,t=i+j/\vs[j]? =σ v/\x= .v v
 |[],_,_,_,h=>by cases h
 |v::r,i,t,x,h=>by
  simp only[jZ,look] at h;cases J:S0 i t with
  |true=>
   rw[J] at h;simp only[cond_true,Y8] at h;exact⟨0,v,by rw[Nat.eq_of_beq_eq_true J];rfl,rfl,h.symm⟩
  |false=>
   rw[J] at h;obtain⟨j,u,h1,U,V⟩:=wV r (i+1) t x h;exact⟨j+1,u,Ω,by simpa using U,V⟩
theorem tq (vs:List y0) (h:vs.length<=n):S9 n (jZ 0 vs) {tmps:=vs.toArray++Array.replicate (n-vs.toArray.size) undef,defers:=[]}:=by
 refine⟨Θ,λt x U=>?_⟩;obtain⟨j,v,h1,J,rfl⟩:=wV vs 0 t x U;have h1:t=j:=Ω
 subst h1;have V:t<vs.length:=(x4.1 J).1;rw[Array.getD_eq_getD_getElem?,Array.getElem?_append_left (by simpa using V)];simp[J,ep.val]
def q2 (tm:Array y0):ResultVar->Sem y0
 | .tmp t=>pure (tm.getD t undef)
 | .cell b t=>do loadVar t (<-asAddr (tm.getD b undef))
theorem DT (fn:Func) (tm:Array y0):results fn tm=(do let vs <-fn.results.mapM (q2 tm);pure (if h:vs.size=1 then vs[0] else .tuple vs)):=by
 unfold results;congr 2
theorem tr {e:Env} {a:Act} {w:x2} (U:S9 N e a):∀ (V:List ResultVar) (K:List y0->Prop),mm P e w V K->
  ∃vs,K vs/\vs.length=V.length/\ ∀w',Ext w w'->(V.mapM (q2 a.tmps)).run P w'= .ok vs w'
 |[],K,h=>⟨[],h,rfl,λw' _=>by simp[V7]⟩
 | .tmp t::r,K,h=>by
  simp only[mm] at h;cases J:look e t with
  |none=>rw[J] at h;exact h.elim
  |some x=>
   rw[J] at h;obtain⟨vs,h1,W,X⟩:=tr U r _ h;refine⟨x.val::vs,h1,by simp[W],λw' hw=>?_⟩;rw[List.mapM_cons];simp only[q2,W9,V7,V1,X w' hw,U.2 t x J]
 | .cell b t::r,K,h=>by
  simp only[mm] at h;cases J:look e b with
  |none=>rw[J] at h;exact h.elim
  |some x=>
   rw[J] at h;obtain⟨v,Y,h⟩:=h;obtain⟨vs,h1,W,X⟩:=tr U r _ h;refine⟨v::vs,h1,by simp[W],λw' hw=>?_⟩;rw[List.mapM_cons];have:=Y w' hw;rw[<-U.2 b x J] at this;rw[q2,W9,this];simp only[V1,W9,X w' hw,V7]
theorem ts {fn:Func} {e:Env} {a:Act} (U:S9 N e a) {K:List y0->Prop} (h:mm P e w fn.results.toList K):
  ∃vs,K vs/\ ∀w',Ext w w'->(results fn a.tmps).run P w'= .ok (q1 vs) w':=by
 obtain⟨vs,h1,V,J⟩:=tr U _ _ h;refine⟨vs,h1,λw' hw=>?_⟩;have J:=J w' hw;rw[DT,W9,Array.mapM_eq_mapM_toList,map_eq_pure_bind,W9,J];simp only[V1,V7];cases vs with
 |nil=>rfl
 |cons v r=>
  cases r with
  |nil=>rfl
  |cons u r=>simp[q1]
theorem wW {fn:Func} {tmps:Array y0} {R:Ending->x2->Prop}:∀ (J:List Nat) (w:x2),J.Nodup->(∀D∈J,w.heap[D]? =σ (.deferred (σ [])))->
  (∀w',Ext w w'->Ext w' w->w'.os=w.os->jr w w'->w'.output=w.output->w.heap.size=w'.heap.size->
   (∀r,r∉J->w'.heap[r]? =w.heap[r]?)-> ∃v,(results fn tmps).run P w'= .ok v w'/\R (.returned v) w')->
  LeavesInM Fence.wide 0 P fn tmps R (J.map jv) .returning w
 |[],w,_,_,h=>by
  obtain⟨v,h1,U⟩:=h w (Ext.refl _) (Ext.refl _) rfl .jV rfl rfl λ_ _=>rfl;exact⟨v,h1,U⟩
 |D::J,w,V,W,h=>by
  rw[List.nodup_cons] at V;have X:=W D (.head _);refine⟨Ξ,.inl ⟨D,_,rfl,run_takeDeferred X,?_⟩⟩;refine wW J _ V.2 (λab Y=>?_) λw' h1 U ac ad ae af ag=>?_
  .rw[x2.putObj_heap_other (λhe=>V.1 (by rw[<-he];exact Y))];exact W ab (.tail _ Y)
  .refine h w' ((pi X rfl _).trans h1) (U.trans (wP rfl)) ac ad ae (by simpa using af) λr aa=>?_;rw[ag r λhm=>aa (.tail _ hm),x2.putObj_heap_other λhe=>aa (by rw[he];exact .head _)]
theorem ai.enter (hm:P.follows .mixedOrders=true) {f:FuncId} {fn:Func} {c:Code} (ab:P.funcs[f]? =σ fn) (ac:fn.body=σ c) (aj:(fn.name == "runtime.NumGoroutine")=false)
  (ak:wf fn.ntmps c=true) {args:List y0} (al:Nat.ble args.length fn.ntmps=true) {w:x2} {Q:y0->x2->Prop}
  (h:er P fn.ntmps (false,w.heap.size) c (lI fn.results.toList) (jZ 0 args) w (kQ P fn.results.toList true Q)):ai P f args w Q:=by
 refine .code (Enters.of P ab ac aj) (callsIn_wide (n:=0).1 (callsIn_of_wp_marks ab ac trivial ?_));have am:=tq (n:=fn.ntmps) args (Nat.le_of_ble_eq_true al);refine wpIn_mono (Q:=λex a' w'=>jY ex=true/\bodyPostM Fence.wide 0 P fn (λe w'=>∃v,e= .returned v/\cY w w'/\Q v w') ex a' w') ?_ λ_ _ _ h=>h.2;refine sound hm c (false,w.heap.size) ν _ _ _ w _ _ ak (λl an=>by cases an) (λ_=>⟨[],rfl,List.nodup_nil,λD W=>by cases W⟩) h am ?_ (λ_ _ _ h=>by cases h.1)
 .intro ex a' w' ao;obtain⟨ap,aq,V,au,_,_,J⟩:=ao;obtain⟨U,⟨X,ad,av,W⟩,aw,ax,ay⟩:=J rfl;have az:∀D∈X,w.heap.size<=D:=by
   intro D aA;have h1:jv D∈aw.map jv:=by
    have:jv D∈X.map jv:=Z6.2 ⟨D,aA,rfl⟩;rw[<-ad,ax] at this;simpa using this
   obtain⟨ae,Y,aB⟩:=Z6.1 h1;have:ae=D:=by simpa[jv] using aB
   exact this▸ay ae Y
  have af:kQ P fn.results.toList true Q .ret aq w'->LeavesInM Fence.wide 0 P fn a'.tmps (λe ag=>∃v,e= .returned v/\cY w ag/\Q v ag) a'.defers .returning w':=by
   intro V;rw[ad];obtain⟨vs,h1,Y⟩:=ts (fn:=fn) au V;refine wW X w' av W λaa g1 aC aD aE aF aG aH=>⟨_,Y aa g1,_,rfl,?_,h1 aa g1 aC⟩;have U:=U.dc (n9 _);refine⟨aD.trans U.os,aE.trans U.tape,aF.trans U.output,by rw[<-aG];exact U.size,λr o ah aI=>?_⟩;have aJ:=(Z1.1 ah).1;rw[aH r λhm=>by have:=az r hm;omega];exact U.bc r o ah aI
  cases ex with
  |normal=>exact⟨rfl,af V⟩
  |ret=>exact⟨rfl,af V⟩
  |exit id=>exact V.elim
  |_=>cases ap
theorem ai.DU (hm:P.follows .mixedOrders=true) {f:FuncId} {fn:Func} {c:Code} (V:P.funcs[f]? =σ fn) (W:fn.body=σ c) (aa:(fn.name == "runtime.NumGoroutine")=false)
  (ab:wf fn.ntmps c=true) {args:List y0} (ac:Nat.ble args.length fn.ntmps=true) (aw:jt c=false) {w:x2} {Q:y0->x2->Prop}
  (h:er P fn.ntmps (false,w.heap.size) c (lI fn.results.toList) (jZ 0 args) w (kQ P fn.results.toList false Q)):ai P f args w Q:=by
 refine .code (Enters.of P V W aa) (callsIn_wide (n:=0).1 (callsIn_of_wp V W trivial ?_));have ad:=tq (n:=fn.ntmps) args (Nat.le_of_ble_eq_true ac);refine wpIn_mono (Q:=λex a' w'=>jY ex=true/\bodyPost P fn (λe w'=>∃v,e= .returned v/\cY w w'/\Q v w') ex a' w') ?_ λ_ _ _ h=>h.2;refine sound hm c (false,w.heap.size) ν _ _ _ w _ _ ab (λl ae=>by cases ae) (λ_=>⟨[],rfl,List.nodup_nil,λD af=>by cases af⟩) h ad ?_ (λ_ _ _ h=>by cases h.1);intro ex a' w' ag;obtain⟨ah,aj,U,ak,_,al,J⟩:=ag;have am:a'.defers=[]:=al (by simp[ix,aw]);have X:kQ P fn.results.toList false Q .ret aj w'->a'.defers=[]/\ ∃v,(results fn a'.tmps).run P w'= .ok v w'/\ ∃Y,Ending.returned v= .returned Y/\cY w w'/\Q Y w':=by
  intro U;obtain⟨vs,h1,an⟩:=ts (fn:=fn) ak U;exact⟨am,_,an w' (Ext.refl _),_,rfl,(J rfl).1.dc (n9 _),h1⟩
 cases ex with
 |normal=>exact⟨rfl,X U⟩
 |ret=>exact⟨rfl,X U⟩
 |exit id=>exact U.elim
 |_=>cases ah
theorem gu.enter (hm:P.follows .mixedOrders=true) {f:FuncId} {fn:Func} {c:Code} (V:P.funcs[f]? =σ fn) (W:fn.body=σ c) (aa:(fn.name == "runtime.NumGoroutine")=false)
  (ab:wf fn.ntmps c=true) {args:List y0} (ac:Nat.ble args.length fn.ntmps=true) {w:x2} {Q:y0->x2->Prop}
  (h:er P fn.ntmps (true,0) c (lI fn.results.toList) (jZ 0 args) w (kQ P fn.results.toList false Q)):gu P f args w Q:=by
 refine .code (Enters.of P V W aa) (callsIn_wide (n:=0).1 (callsIn_of_wp V W trivial ?_));have ad:=tq (n:=fn.ntmps) args (Nat.le_of_ble_eq_true ac);refine wpIn_mono (Q:=λex a' w'=>jY ex=true/\bodyPost P fn (λe w'=>∃v,e= .returned v/\Q v w') ex a' w') ?_ λ_ _ _ h=>h.2;refine sound hm c (true,0) ν _ _ _ w _ _ ab (λl ae=>by cases ae) (λh=>by cases h) h ad ?_ (λ_ _ _ h=>by cases h.1);intro ex a' w' af;obtain⟨ag,ah,U,ai,_,aj,J⟩:=af;have ak:a'.defers=[]:=aj rfl;have X:kQ P fn.results.toList false Q .ret ah w'->a'.defers=[]/\ ∃v,(results fn a'.tmps).run P w'= .ok v w'/\ ∃Y,Ending.returned v= .returned Y/\Q Y w':=by
  intro U;obtain⟨vs,h1,al⟩:=ts (fn:=fn) ai U;exact⟨ak,_,al w' (Ext.refl _),_,rfl,h1⟩
 cases ex with
 |normal=>exact⟨rfl,X U⟩
 |ret=>exact⟨rfl,X U⟩
 |exit id=>exact U.elim
 |_=>cases ag
end
def pj (l:List S7) (d:Nat):Nat:=
 match l with
 |[]=>d
 | .tmp t::r=>pj r (Nat.lor d (Nat.shiftLeft 1 t))
 |_::r=>pj r d
def nN:List T7->Nat->Option T7
 |[],_=>ν
 |o::_,0=>σ o
 |_::l,n+1=>nN l n
def wX (a b:Nat):Nat:=Nat.xor a (Nat.land a b)
def pk (m t:Nat):Bool:=S0 (Nat.land (Nat.shiftRight m t) 1) 1
def jw (m t:Nat):Nat:=Nat.lor m (Nat.shiftLeft 1 t)
def DV (ops:List T7) (o:T7):Nat:=
 match o.guard with
 |none=>0
 |some (j,_)=>match nN ops j with
  |some ⟨σ d,_,_,_,_,_⟩=>Nat.shiftLeft 1 d
  |_=>0
def q3:List T7->Nat->Nat
 |[],d=>d
 |⟨σ t,_,_,_,_,_⟩::l,d=>q3 l (jw d t)
 |_::l,d=>q3 l d
def wY (ops:List T7):List T7->Nat->Nat->Nat
 |[],_,r=>r
 |o::l,d,r=>wY ops l (match o.dst with|some t=>jw d t|none=>d) (Nat.lor r (wX (pj (opsOf o.op) (DV ops o)) d))
def q4:List Nat->Nat->Nat
 |[],_=>0
 |x::_,0=>x
 |_::l,n+1=>q4 l n
def wZ (e:Edge):Bool:=
 match e.ground with
 | .textOnly _=>false
 | .gcOnly _=>false
 |_=>true
def w1 (bs:List Nat):List Edge->Nat->Nat
 |[],s=>s
 |e::r,s=>w1 bs r (bif wZ e then Nat.lor (jw s e.on) (q4 bs e.on) else s)
def tt:List T7->List Nat->List Nat
 |[],bs=>bs
 |o::l,bs=>tt l (bs++[w1 bs o.after.toList 0])
def w2:List T7->Bool
 |[]=>false
 |⟨_,_,_,_,_,σ _⟩::_=>true
 |_::l=>w2 l
def tu (bs:List Nat) (j k:Nat):Bool:=!(S0 k j)&&(!(pk (q4 bs j) k)&& !(pk (q4 bs k) j))
def w3 (bs:List Nat) (j:Nat):Nat->List T7->Bool
 |_,[]=>false
 |i,o::l=>bif Nat.ble j i then false else (!(ir o)&&tu bs j i)||w3 bs j (Nat.succ i) l
def w4 (ops:List T7) (bs:List Nat):Nat->List T7->Bool
 |_,[]=>false
 |j,o::l=>(!(ir o)&&w3 bs j 0 ops)||w4 ops bs (Nat.succ j) l
def kR:Code->Nat
 | .region _ ops J=>bif (J&&w4 ops.toList (tt ops.toList []) 0 ops.toList)||w2 ops.toList then 2 else 1
 | .seq a b=>bif S0 (kR a) 0 then 0 else kR b
 | .cond _ a b=>Nat.add (kR a) (kR b)
 | .block id c=>Nat.add (kR c) (iT id c)
 | .loop _=>0
 | .scope c=>kR c
 | .exit _=>0
 | .goto _=>0
 | .ret=>0
 | .refuse _=>0
 |_=>1
def hC:Code->Nat
 | .region _ ops _=>q3 ops.toList 0
 | .seq a b=>Nat.lor (hC a) (hC b)
 | .cond _ a b=>Nat.lor (hC a) (hC b)
 | .block _ c=>hC c
 | .loop c=>hC c
 | .scope c=>hC c
 |_=>0
def kS:Code->Nat
 | .region _ ops _=>q3 ops.toList 0
 | .seq a b=>Nat.lor (kS a) (kS b)
 | .cond _ a b=>bif S0 (kR a) 0 then kS b else bif S0 (kR b) 0 then kS a else Nat.land (kS a) (kS b)
 | .block id c=>bif S0 (iT id c) 0 then kS c else 0
 | .scope c=>kS c
 |_=>0
def fI:Code->Nat
 | .region _ ops _=>wY ops.toList ops.toList 0 0
 | .seq a b=>Nat.lor (fI a) (wX (fI b) (kS a))
 | .cond c a b=>pj [c] (Nat.lor (fI a) (fI b))
 | .block _ c=>fI c
 | .loop c=>fI c
 | .scope c=>fI c
 | .rangeFunc f _ a b=>pj [f] (Nat.lor (fI a) (fI b))
 |_=>0
def lJ:Nat->Nat->Nat->List Nat
 |0,_,_=>[]
 |n+1,k,m=>bif S0 m 0 then[] else bif S0 (Nat.land m 1) 1 then k::lJ n (Nat.succ k) (Nat.shiftRight m 1) else lJ n (Nat.succ k) (Nat.shiftRight m 1)
def pm (e:Env):List Nat->List Nat
 |[]=>[]
 |t::r=>match look e t with
  |some _=>t::pm e r
  |none=>pm e r
structure lK (B S aV:Type) where
 j1:{x:y0}->y0
 w5:List y0->y0
 no:B
 j2:B
 and:B->B->B
 or:B->B->B
 ext:x2->x2->B
 stays:S->y0->x2->B
 split:y0->B->B->B
 tv:S->x2->(y0->B)->B
 w6:S->x2->(y0->x2->B)->B
 w7:aV->x2->(x2->B)->B
 runN:{fr:Bool}->{n:Nat}->S->x2->(y0->x2->B)->B
 w8:{f:FuncId}->List y0->x2->(y0->x2->B)->B
 w9:{f:FuncId}->List y0->x2->(y0->x2->B)->B
 xa:{fr:Bool}->y0->List y0->x2->(y0->x2->B)->B
 drew:x2->(x2->B)->B
 again:x2->(x2->B)->B
 over:x2->(x2->B)->B
 dv:(x2->B)->((x2->B)->B)->B
 aR:(y0->x2->B)->((y0->x2->B)->B)->B
 iy:(y0->y0->x2->B)->((y0->y0->x2->B)->B)->B
 xb:(y0->y0->y0->x2->B)->((y0->y0->y0->x2->B)->B)->B
 xc:(y0->y0->y0->y0->x2->B)->((y0->y0->y0->y0->x2->B)->B)->B
 xd:(y0->y0->y0->y0->y0->x2->B)->((y0->y0->y0->y0->y0->x2->B)->B)->B
 xe:x2->(x2->(x2->B)->B)->B
 xf:y0->x2->(y0->x2->(y0->x2->B)->B)->B
 xg:y0->y0->x2->(y0->y0->x2->(y0->y0->x2->B)->B)->B
 xh:y0->y0->y0->x2->(y0->y0->y0->x2->(y0->y0->y0->x2->B)->B)->B
 xi:y0->y0->y0->y0->x2->(y0->y0->y0->y0->x2->(y0->y0->y0->y0->x2->B)->B)->B
 xj:y0->y0->y0->y0->y0->x2->(y0->y0->y0->y0->y0->x2->(y0->y0->y0->y0->y0->x2->B)->B)->B
 xk:y0->y0->y0->y0->y0->y0->x2->(y0->y0->y0->y0->y0->y0->x2->(y0->y0->y0->y0->y0->y0->x2->B)->B)->B
 xl:y0->x2->(y0->x2->(Exit->x2->B)->B)->(x2->B)->(x2->B)->List (Nat×(x2->B))->B
 xm:y0->x2->(y0->y0->x2->(Exit->x2->B)->B)->(x2->B)->(x2->B)->List (Nat×(x2->B))->B
 loadVar:{t:o4}->y0->S
 alloc:{t:o4}->S
 box:{t:o4}->y0->S
 build:{t:o4}->List (Nat×y0)->S
 buildSlice:{t:o4}->{n:Nat}->List (Nat×y0)->S
 load:{t:o4}->y0->S
 nil:y0->S
 bin:{op:BinOp}->{t:o4}->Bool->Bool->y0->y0->S
 un:{op:UnOp}->y0->S
 conv:{s d:o4}->y0->S
 xn:{t:o4}->y0->S
 xo:{f:Fn}->List y0->List y0->S
 xp:{t:o4}->Option y0->S
 xq:{t:o4}->y0->y0->S
 slice:{t:o4}->y0->Option y0->Option y0->Option y0->S
 xr:{t:o4}->y0->{f:Nat}->S
 field:{t:o4}->y0->{f:Nat}->S
 xt:{t:o4}->y0->y0->S
 index:{t:o4}->y0->y0->S
 lookup:{t:o4}->y0->y0->{ok:Bool}->S
 xu:{t:o4}->y0->y0->S
 range:{t:o4}->y0->S
 entry:y0->S
 assert:{t a:o4}->y0->{ok:Bool}->S
 extract:y0->{i:Nat}->S
 next:y0->{b:Bool}->S
 append:{ats:Array o4}->{t:o4}->List y0->S
 cap:{ats:Array o4}->{t:o4}->List y0->S
 clear:{ats:Array o4}->{t:o4}->List y0->S
 copy:{ats:Array o4}->{t:o4}->List y0->S
 delete:{ats:Array o4}->{t:o4}->List y0->S
 len:{ats:Array o4}->{t:o4}->List y0->S
 max:{ats:Array o4}->{t:o4}->List y0->S
 min:{ats:Array o4}->{t:o4}->List y0->S
 store:{t:o4}->y0->y0->aV
 tw:{t:o4}->y0->y0->y0->aV
 xv:{t:o4}->y0->y0->y0->aV
section
variable {B S aV:Type} (A:lK B S aV)
def ep.g:ep->y0
 | .v x=>x
 | .b c=>.bool c
 | .u=>A.j1 (x:=undef)
def mn (e:Env):S7->ep
 | .tmp t=>match look e t with
  |some x=>x
  |none=>.u
 | .const (.bool c)=>.b c
 | .const x=>.v (A.j1 (x:=x))
 | .global g=>.v (A.j1 (x:=Γ g))
 | .func f=>.v (A.j1 (x:=.func (.func f) #[] #[]))
def cZ (e:Env) (x:S7):y0:=(mn A e x).g A
def mo (e:Env):List S7->List y0
 |[]=>[]
 |x::r=>cZ A e x::mo e r
def q5 (e:Env):Option S7->Option y0
 |none=>ν
 |some x=>σ (cZ A e x)
def tx (e:Env):List (Nat×S7)->List (Nat×y0)
 |[]=>[]
 |(i,x)::r=>(i,cZ A e x)::tx e r
def DW (b:j5) (ats:Array o4) (t:o4) (l:List y0) (K:S->B):B:=
 match b with
 | .append=>K (A.append (ats:=ats) (t:=t) l)
 | .cap=>K (A.cap (ats:=ats) (t:=t) l)
 | .clear=>K (A.clear (ats:=ats) (t:=t) l)
 | .copy=>K (A.copy (ats:=ats) (t:=t) l)
 | .delete=>K (A.delete (ats:=ats) (t:=t) l)
 | .len=>K (A.len (ats:=ats) (t:=t) l)
 | .max=>K (A.max (ats:=ats) (t:=t) l)
 | .min=>K (A.min (ats:=ats) (t:=t) l)
 |_=>A.no
def xw (e:Env) (t:o4) (K:S->B) (J:aV->B):Op->B
 | .alloc t=>K (A.alloc (t:=t))
 | .box t x=>K (A.box (t:=t) (cZ A e x))
 | .build t U=>K (A.build (t:=t) (tx A e U.toList))
 | .buildSlice t n U=>K (A.buildSlice (t:=t) (n:=n) (tx A e U.toList))
 | .load t x=>K (A.load (t:=t) (cZ A e x))
 | .nilCheck x=>K (A.nil (cZ A e x))
 | .binOp op t x y _=>K (A.bin (op:=op) (t:=t) (nD x) (nD y) (cZ A e x) (cZ A e y))
 | .unOp op _ x=>K (A.un (op:=op) (cZ A e x))
 | .convert s d x=>K (A.conv (s:=s) (d:=d) (cZ A e x))
 | .makeInterface t x=>K (A.xn (t:=t) (cZ A e x))
 | .makeFunc f a b=>K (A.xo (f:=f) (mo A e a.toList) (mo A e b.toList))
 | .makeMap t r=>K (A.xp (t:=t) (q5 A e r))
 | .makeSlice t l c=>K (A.xq (t:=t) (cZ A e l) (cZ A e c))
 | .slice t x l h m=>K (A.slice (t:=t) (cZ A e x) (q5 A e l) (q5 A e h) (q5 A e m))
 | .fieldAddr t x f=>K (A.xr (t:=t) (cZ A e x) (f:=f))
 | .field t x f=>K (A.field (t:=t) (cZ A e x) (f:=f))
 | .indexAddr t x i=>K (A.xt (t:=t) (cZ A e x) (cZ A e i))
 | .index t x i=>K (A.index (t:=t) (cZ A e x) (cZ A e i))
 | .lookup t x i ok=>K (A.lookup (t:=t) (cZ A e x) (cZ A e i) (ok:=ok))
 | .mapEntry t m k=>K (A.xu (t:=t) (cZ A e m) (cZ A e k))
 | .range t x=>K (A.range (t:=t) (cZ A e x))
 | .entry x=>K (A.entry (cZ A e x))
 | .typeAssert x t a ok=>K (A.assert (t:=t) (a:=a) (cZ A e x) (ok:=ok))
 | .extract x i=>K (A.extract (cZ A e x) (i:=i))
 | .call ⟨.builtin b,args,ats⟩=>DW A b ats t (mo A e args.toList) K
 | .store t a x=>J (A.store (t:=t) (cZ A e a) (cZ A e x))
 | .mapUpdate t m k x=>J (A.tw (t:=t) (cZ A e m) (cZ A e k) (cZ A e x))
 | .insert t m k x=>J (A.tw (t:=t) (cZ A e m) (cZ A e k) (cZ A e x))
 | .entryStore t m k x=>J (A.xv (t:=t) (cZ A e m) (cZ A e k) (cZ A e x))
 |_=>A.no
def gL (e:Env) (d:Option Tmp) (x:ep):Env:=
 match d with
 |some t=>(t,x)::e
 |none=>e
def xx (o:T7) (e:Env) (w:x2) (K:Env->(x2->B)->B):B:=
 match o with
 |⟨d,.move x,_,_,_,_⟩=>K (gL e d (mn A e x)) (λ_=>A.j2)
 |⟨d,.assign x,_,_,_,_⟩=>K (gL e d (mn A e x)) (λ_=>A.j2)
 |⟨d,.pick c a b,_,_,_,_⟩=>
  match mn A e c with
  | .b true=>K (gL e d (mn A e a)) (λ_=>A.j2)
  | .b false=>K (gL e d (mn A e b)) (λ_=>A.j2)
  | .v x=>A.split x (K (gL e d (.v (cZ A e a))) (λ_=>A.j2)) (K (gL e d (.v (cZ A e b))) (λ_=>A.j2))
  | .u=>A.no
 |⟨d,op,t,_,_,_⟩=>xw A e t (λs=>A.tv s w λv=>K (gL e d (.v v)) (A.stays s v)) (λ_=>A.no) op
def DX (fr:Bool) (n:Nat) (o:T7) (e:Env) (w:x2) (K:Env->x2->B):B:=
 match o with
 |⟨d,.call ⟨.value (.func f),args,_⟩,_,_,_,_⟩=>
  bif fr then A.w9 (f:=f) (mo A e args.toList) w λv w'=>K (gL e d (.v v)) w'
  else A.w8 (f:=f) (mo A e args.toList) w λv w'=>K (gL e d (.v v)) w'
 |⟨d,.call ⟨.value x,args,_⟩,_,_,_,_⟩=>A.xa (fr:=fr) (cZ A e x) (mo A e args.toList) w λv w'=>K (gL e d (.v v)) w'
 |⟨d,.next x b,_,_,_,_⟩=>A.runN (fr:=fr) (n:=n) (A.next (cZ A e x) (b:=b)) w λv w'=>K (gL e d (.v v)) w'
 |⟨d,op,t,_,_,_⟩=>xw A e t (λs=>A.w6 s w λv w'=>K (gL e d (.v v)) w') (λu=>A.w7 u w λw'=>K (gL e d (.v (A.j1 (x:=undef)))) w') op
def xy (fr:Bool) (n:Nat) (o:T7) (e:Env) (w:x2) (K:Env->x2->B):B:=
 bif ir o then xx A o e w (λJ _=>K J w) else DX A fr n o e w K
def tz (ops:List T7) (o:T7) (e:Env) (D N:Env->B):B:=
 match o.guard with
 |none=>D e
 |some (j,b)=>
  match nN ops j with
  |some ⟨σ s,_,_,_,_,_⟩=>
   match look e s with
   |some (.b c)=>bif xor c b then N e else D e
   |some (.v x)=>A.split x (bif b then D ((s,.b true)::e) else N ((s,.b true)::e)) (bif b then N ((s,.b false)::e) else D ((s,.b false)::e))
   |some .u=>N e
   |none=>A.no
  |_=>A.no
def tA (fr:Bool) (n:Nat) (ops:List T7):List T7->Env->x2->(Env->x2->B)->B
 |[],e,w,K=>K e w
 |o::l,e,w,K=>tz A ops o e (λe=>xy A fr n o e w λJ w'=>tA fr n ops l J w' K) (λe=>tA fr n ops l (gL e o.dst .u) w K)
def xz:List Edge->Nat->Bool
 |[],_=>true
 |e::r,J=>(bif wZ e then pk J e.on else true)&&xz r J
def q6 (J:Nat):Nat->List T7->List Nat
 |_,[]=>[]
 |i,o::l=>bif pk J i then q6 J (Nat.succ i) l else bif xz o.after.toList J then i::q6 J (Nat.succ i) l else q6 J (Nat.succ i) l
def xA (ops:List T7):List Nat->Option Nat
 |[]=>ν
 |i::r=>match nN ops i with
  |some o=>bif ir o then σ i else xA ops r
  |none=>ν
def xB (p:Nat->B):List Nat->B
 |[]=>A.j2
 |[i]=>p i
 |i::r=>A.and (p i) (xB p r)
def xC (same:Bool) (q:Nat) (w:x2) (st:x2->B) (J:List (x2×List (Nat×(x2->B)))):List (x2×List (Nat×(x2->B))):=
 match same,J with
 |true,g::r=>(g.1,(q,st)::g.2)::r
 |_,J=>(w,[(q,st)])::J
def xD (bs:List Nat) (j:Nat):List (Nat×(x2->B))->Bool
 |[]=>false
 |(i,_)::r=>tu bs j i||xD bs j r
def tB (bs:List Nat) (j:Nat) (w':x2):List (Nat×(x2->B))->B
 |[]=>A.j2
 |(i,p)::r=>bif tu bs j i then A.and (p w') (tB bs j w' r) else tB bs j w' r
def q7 (bs:List Nat) (j:Nat) (w':x2) (C:B):List (x2×List (Nat×(x2->B)))->B
 |[]=>C
 |(w,l)::r=>bif xD bs j l then A.and (A.or (A.ext w w') (tB A bs j w' l)) (q7 bs j w' C r) else q7 bs j w' C r
def mp (fr:Bool) (n:Nat) (ops:List T7) (bs:List Nat):Nat->Nat->Bool->List (x2×List (Nat×(x2->B)))->Env->x2->(Env->x2->B)->B
 |0,_,_,_,e,w,K=>K e w
 |fuel+1,U,same,J,e,w,K=>
  match q6 U 0 ops with
  |[]=>K e w
  |i::r=>
   match xA ops (i::r) with
   |some q=>
    match nN ops q with
    |some o=>tz A ops o e
      (λe=>xx A o e w λV st=>
       bif kL o then mp fr n ops bs fuel (jw U q) same J V w K
       else mp fr n ops bs fuel (jw U q) true (xC same q w st J) V w K)
      (λe=>bif kL o then mp fr n ops bs fuel (jw U q) same J (gL e o.dst .u) w K
       else mp fr n ops bs fuel (jw U q) true (xC same q w (λ_=>A.j2) J) (gL e o.dst .u) w K)
    |none=>A.no
   |none=>
    xB A (λj=>match nN ops j with
     |some o=>tz A ops o e (λe=>xy A fr n o e w λV w'=>q7 A bs j w' (mp fr n ops bs fuel (jw U j) false J V w' K) J)
       (λe=>q7 A bs j w (mp fr n ops bs fuel (jw U j) false J (gL e o.dst .u) w K) J)
     |none=>A.no) (i::r)
def q8 (e:Env):List Nat->List y0
 |[]=>[]
 |t::r=>(match look e t with|some x=>x.g A|none=>A.j1 (x:=undef))::q8 e r
def tC (l:List Nat) (vs:List y0) (e:Env):Env:=
 match l,vs with
 |t::r,v::vs=>(t,.v v)::tC r vs e
 |_,_=>e
def q9 (d:Nat):Env->Env
 |[]=>[]
 |(t,x)::r=>bif pk d t then q9 d r else (t,x)::q9 d r
def DY (l:List Nat) (J:List y0->x2->B) (U:(List y0->x2->B)->B):B:=
 match l with
 |[]=>A.dv (λw=>J [] w) λk=>U λ_ w=>k w
 |[_]=>A.aR (λa w=>J [a] w) λk=>U λvs w=>match vs with
  |[a]=>k a w
  |_=>A.no
 |[_,_]=>A.iy (λa b w=>J [a,b] w) λk=>U λvs w=>match vs with
  |[a,b]=>k a b w
  |_=>A.no
 |[_,_,_]=>A.xb (λa b c w=>J [a,b,c] w) λk=>U λvs w=>match vs with
  |[a,b,c]=>k a b c w
  |_=>A.no
 |[_,_,_,_]=>A.xc (λa b c d w=>J [a,b,c,d] w) λk=>U λvs w=>match vs with
  |[a,b,c,d]=>k a b c d w
  |_=>A.no
 |[_,_,_,_,_]=>A.xd (λa b c d f w=>J [a,b,c,d,f] w) λk=>U λvs w=>match vs with
  |[a,b,c,d,f]=>k a b c d f w
  |_=>A.no
 |_=>A.no
def DZ (us:List y0) (w:x2) (J:List y0->x2->(List y0->x2->B)->B):B:=
 match us with
 |[]=>A.xe w λw k=>J [] w λ_ w=>k w
 |[a]=>A.xf a w λa w k=>J [a] w λvs w=>match vs with
  |[a]=>k a w
  |_=>A.no
 |[a,b]=>A.xg a b w λa b w k=>J [a,b] w λvs w=>match vs with
  |[a,b]=>k a b w
  |_=>A.no
 |[a,b,c]=>A.xh a b c w λa b c w k=>J [a,b,c] w λvs w=>match vs with
  |[a,b,c]=>k a b c w
  |_=>A.no
 |[a,b,c,d]=>A.xi a b c d w λa b c d w k=>J [a,b,c,d] w λvs w=>match vs with
  |[a,b,c,d]=>k a b c d w
  |_=>A.no
 |[a,b,c,d,f]=>A.xj a b c d f w λa b c d f w k=>J [a,b,c,d,f] w λvs w=>match vs with
  |[a,b,c,d,f]=>k a b c d f w
  |_=>A.no
 |[a,b,c,d,f,g]=>A.xk a b c d f g w λa b c d f g w k=>J [a,b,c,d,f,g] w λvs w=>match vs with
  |[a,b,c,d,f,g]=>k a b c d f g w
  |_=>A.no
 |_=>A.no
def tD (K:Nat->x2->B):List Nat->List (Nat×(x2->B))
 |[]=>[]
 |i::r=>(i,λw=>K i w)::tD K r
def hg (fr:Bool) (n:Nat):Code->Nat->Env->x2->(Exit->Env->x2->B)->B
 | .skip,_,e,w,K=>K .normal e w
 | .label _,_,e,w,K=>K .normal e w
 | .ret,_,e,w,K=>K .ret e w
 | .exit i,_,e,w,K=>K (.exit i) e w
 | .region _ ops Y,_,e,w,K=>
  bif Y then A.drew w λw'=>mp A fr n ops.toList (tt ops.toList []) (ops.toList.length) 0 false [] e w' (K .normal)
  else tA A fr n ops.toList ops.toList e w (K .normal)
 | .seq x y,rd,e,w,K=>
  bif Nat.ble 2 (kR x) then
   DY A (lJ 1000 0 (Nat.land (hC x) (Nat.lor (fI y) rd))) (λvs w'=>hg fr n y rd (tC (lJ 1000 0 (Nat.land (hC x) (Nat.lor (fI y) rd))) vs (q9 (hC x) e)) w' K)
    λaa=>hg fr n x (Nat.lor (fI y) rd) e w λex J w'=>match ex with
     | .normal=>aa (q8 A J (lJ 1000 0 (Nat.land (hC x) (Nat.lor (fI y) rd)))) w'
     |ex=>K ex J w'
  else hg fr n x (Nat.lor (fI y) rd) e w λex J w'=>match ex with
   | .normal=>hg fr n y rd J w' K
   |ex=>K ex J w'
 | .cond c x y,rd,e,w,K=>
  match mn A e c with
  | .b true=>hg fr n x rd e w K
  | .b false=>hg fr n y rd e w K
  | .v v=>A.split v (hg fr n x rd e w K) (hg fr n y rd e w K)
  | .u=>A.no
 | .block id c,rd,e,w,K=>hg fr n c rd e w λex J w'=>match ex with
  | .exit i=>bif S0 i id then K .normal J w' else K (.exit i) J w'
  |ex=>K ex J w'
 | .loop c,rd,e,w,K=>
  DZ A (q8 A e (pm e (lJ 1000 0 (Nat.land (hC c) (Nat.lor (fI c) rd))))) w λus w' k=>
   hg fr n c (Nat.lor (fI c) rd) (tC (pm e (lJ 1000 0 (Nat.land (hC c) (Nat.lor (fI c) rd)))) us (q9 (hC c) e)) w' λex J U=>match ex with
    | .normal=>k (q8 A J (pm e (lJ 1000 0 (Nat.land (hC c) (Nat.lor (fI c) rd))))) U
    |ex=>K ex J U
 | .scope c,rd,e,w,K=>hg fr n c rd e w K
 | .rangeFunc f ab X body,_,e,w,K=>
  match ab.toList with
  |[p]=>A.xl (cZ A e f) w
    (λa w' k=>hg fr n X (fI body) ((p,.v a)::e) w' λex J U=>match ex with
     | .normal=>A.over U λV=>hg fr n body 0 J V λex _ W=>k ex W
     |_=>A.no)
    (λw'=>K .normal e w') (bif iw body then λw'=>K .ret e w' else λ_=>A.no) (tD (λi w'=>K (.exit i) e w') (iU body))
  |[p,q]=>A.xm (cZ A e f) w
    (λa b w' k=>hg fr n X (fI body) ((q,.v b)::(p,.v a)::e) w' λex J U=>match ex with
     | .normal=>A.over U λV=>hg fr n body 0 J V λex _ W=>k ex W
     |_=>A.no)
    (λw'=>K .normal e w') (bif iw body then λw'=>K .ret e w' else λ_=>A.no) (tD (λi w'=>K (.exit i) e w') (iU body))
  |_=>A.no
 | .goto _,_,_,_,_=>A.no
 | .refuse _,_,_,_,_=>A.no
def xE:Nat->List y0->Env
 |_,[]=>[]
 |i,v::r=>(i,.v (A.j1 (x:=v)))::xE (i+1) r
def ra (e:Env) (w:x2):List ResultVar->(List y0->B)->B
 |[],K=>K []
 | .tmp t::r,K=>ra e w r λvs=>K ((match look e t with|some x=>x.g A|none=>A.j1 (x:=undef))::vs)
 | .cell a t::r,K=>A.tv (A.loadVar (t:=t) (match look e a with|some x=>x.g A|none=>A.j1 (x:=undef))) w λv=>ra e w r λvs=>K (v::vs)
def rb (vs:List y0) (K:y0->B):B:=
 match vs with
 |[v]=>K v
 |vs=>K (A.w5 vs)
def tE:List ResultVar->Nat->Nat
 |[],s=>s
 | .tmp t::r,s=>tE r (jw s t)
 | .cell a _::r,s=>tE r (jw s a)
def D0 (J:List ResultVar) (marks:Bool) (Q:y0->x2->B):Exit->Env->x2->B
 | .normal,e,w=>ra A e w J λvs=>bif marks then A.again w λw'=>rb A vs λv=>Q v w' else rb A vs λv=>Q v w
 | .ret,e,w=>ra A e w J λvs=>bif marks then A.again w λw'=>rb A vs λv=>Q v w' else rb A vs λv=>Q v w
 |_,_,_=>A.no
def tF (fr marks:Bool) (fn:Func) (c:Code) (args:List y0) (w:x2) (Q:y0->x2->B):B:=
 hg A fr n c (tE fn.results.toList 0) (xE A 0 args) w (D0 A fn.results.toList marks Q)
end
def nO (P:V2):lK Prop (Sem y0) (Sem Unit) where
 j1 {x}:=x
 w5 l:=.tuple l.toArray
 no:=False
 j2:=True
 and:=And
 or:=Or
 ext:=Ext
 stays:=bw P
 split:=Split
 tv:=U P
 w6:=ay P
 w7 u w K:=ay P u w λ_ w'=>K w'
 runN {fr n}:=qJ P (fr,n)
 w8 {f}:=ai P f
 w9 {f}:=gu P f
 xa {fr}:=qM P fr
 drew:=cK
 again:=wN
 over:=Over
 dv:=bJ
 aR:=bJ
 iy:=bJ
 xb:=bJ
 xc:=bJ
 xd:=bJ
 xe:=DE
 xf:=b0
 xg:=bA
 xh:=lF
 xi:=qU
 xj:=nI
 xk:=DF
 xl:=nK P
 xm:=lG P
 loadVar {t} x:=do loadVar t (<-asAddr x)
 alloc {t}:=S8 t true (.tuple #[])
 box {t} x:=Instr.box t x
 build {t} l:=Instr.build t l.toArray
 buildSlice {t n} l:=Y1 t n l.toArray
 load {t} x:=x7 t x
 nil x:=bd x
 bin {op t} a b x y:=aA op t a b x y
 un {op} x:=Op.unary op x
 conv {s d} x:=convert s d x
 xn {t} x:=Instr.makeInterface t x
 xo {f} a b:=Instr.makeFunc f a.toArray b.toArray
 xp {t} x:=Instr.makeMap t x
 xq {t} l c:=Instr.makeSlice t l c
 slice {t} x l h m:=V5 t x l h m
 xr {t} x {f}:=x8 t x f
 field {t} x {f}:=Instr.field t x f
 xt {t} x i:=l7 t x i
 index {t} x i:=Instr.index t x i
 lookup {t} x i {ok}:=Instr.lookup t x i ok
 xu {t} m k:=Instr.mapEntry t m k
 range {t} x:=Instr.range t x
 entry x:=Instr.entry x
 assert {t a} x {ok}:=Instr.typeAssert x t a ok
 extract x {i}:=Y0 x i
 next x {b}:=Instr.next x b 0
 append {ats t} l:=j4 ats t l.toArray
 cap {ats t} l:=j5.cap_ ats t l.toArray
 clear {ats t} l:=j5.clear_ ats t l.toArray
 copy {ats t} l:=j5.copy_ ats t l.toArray
 delete {ats t} l:=j5.delete_ ats t l.toArray
 len {ats t} l:=X0 ats t l.toArray
 max {ats t} l:=j5.max_ ats t l.toArray
 min {ats t} l:=j5.min_ ats t l.toArray
 store {t} a x:=o7 t a x
 tw {t} m k x:=Instr.mapUpdate t m k x
 xv {t} m k x:=Instr.entryStore t m k x
end Go.Vc
namespace Go.Proofs.YthjegppepbbojaaGreatDoor
open Go Go.Vc Go.RowKit Go.Proofs Go.Proofs.Tryz
set_option maxRecDepth 100000
theorem mixed:x3.follows .mixedOrders=true:=Ψ
def xF:Nat:=4
def D1:Nat:=11
def D2:Nat:=12
def tG:Nat:=13
def xG:Nat:=14
def xH:Nat:=15
def xI:Nat:=16
def D3:Nat:=17
def xJ:Nat:=18
def D4:Nat:=19
def D5:Nat:=20
def D6:Nat:=22
def D7:Nat:=23
def D8:Nat:=24
def D9:Nat:=25
def xK:Nat:=26
def Ea:Nat:=27
def Eb:Nat:=28
def Ec:Nat:=35
def Ed:Nat:=36
def re:Nat:=37
def Ee:Nat:=38
def rf:Nat:=39
def nP:Nat:=40
def xL:Nat:=41
def xM:Nat:=42
def rg:Nat:=43
def tH:Nat:=44
def xN:Nat:=45
def pn:Nat:=46
def xO:Nat:=47
def Ef:Nat:=48
def xP:Nat:=49
def tI:Nat:=50
def tJ:Nat:=51
def tK:Nat:=52
def tL:Nat:=53
def tM:Nat:=54
def tN:Nat:=55
def xQ:Nat:=56
def xR:Nat:=57
def xS:Nat:=58
def Eg:Nat:=59
def Eh:Nat:=60
def Ei:Nat:=61
def xT:Nat:=62
def Ej:Nat:=63
def Ek:Nat:=64
def El:Nat:=65
def Em:Nat:=66
def En:Nat:=67
def Eo:Nat:=68
def Ep:Nat:=69
def Er:Nat:=70
def Es:Nat:=71
def Et:Nat:=72
def Eu:Nat:=73
def Ev:Nat:=74
def Ew:Nat:=75
def Ex:Nat:=76
def xU:Nat:=77
def Ey:Nat:=78
def xV:Nat:=79
def Ez:Nat:=80
def EA:Nat:=81
def EB:Nat:=82
def EC:Nat:=83
def ED:Nat:=84
def EE:Nat:=85
def xW:Nat:=86
def xX:Nat:=87
def po:Nat:=88
def mq:Nat:=89
def j3:Nat:=90
def xY:Nat:=91
def tO:Nat:=92
def mr:Nat:=93
def xZ:Nat:=94
def tP:Nat:=95
def EF:Nat:=96
def EG:Nat:=97
def rh:Nat:=98
def kT:Nat:=99
def x0:Nat:=100
def mu:Nat:=101
def EH:Nat:=102
def EI:Nat:=103
def EJ:Nat:=104
def EK:Nat:=105
def x1:Nat:=106
def EL:Nat:=107
def EM:Nat:=108
def EN:Nat:=109
def x9:Nat:=110
def ya:Nat:=111
def EO:Nat:=112
def EP:Nat:=113
def EQ:Nat:=114
def ER:Nat:=115
def tQ:Nat:=117
def ES:Nat:=123
def cmp_isNaN_int:Nat:=124
def ET:Nat:=125
def EU:Nat:=126
def EV:Nat:=127
def yb:Nat:=128
def EW:Nat:=129
def yc:Nat:=130
def tR:Nat:=131
def EX:Nat:=132
def EY:Nat:=133
def EZ:Nat:=134
def E0:Nat:=135
def E1:Nat:=136
def E2:Nat:=137
def tS:Nat:=138
def E3:Nat:=139
def yd:Nat:=140
def E4:Nat:=141
def E5:Nat:=142
def E6:Nat:=143
def E7:Nat:=144
def E8:Nat:=145
def E9:Nat:=146
def Fa:Nat:=147
def Fb:Nat:=148
def Fc:Nat:=149
def Fe:Nat:=150
def Ff:Nat:=151
def mv:Nat:=152
def Fg:Nat:=153
def Fh:Nat:=154
def j7:Nat:=155
def Fi:Nat:=156
def Fj:Nat:=157
def NX:Nat:=158
def Fk:Nat:=159
def tT:Nat:=160
def Fl:Nat:=161
def Fm:Nat:=162
def ye:Nat:=163
def Fo:Nat:=164
def Fp:Nat:=165
def Fq:Nat:=166
def Fr:Nat:=167
def Fs:Nat:=168
def nQ:Nat:=169
def Ft:Nat:=170
def Fu:Nat:=171
def ri:Nat:=172
def Fv:Nat:=173
def Fw:Nat:=174
def yf:Nat:=175
def yg:Nat:=176
def Fx:Nat:=177
def pp:Nat:=178
def Fy:Nat:=179
def tU:Nat:=180
def Fz:Nat:=181
def FA:Nat:=182
def yh:Nat:=183
def FB:Nat:=184
def FC:Nat:=185
def FD:Nat:=186
def yi:Nat:=187
def FE:Nat:=188
def FF:Nat:=189
def FG:Nat:=190
def FH:Nat:=191
def yj:Nat:=192
def FI:Nat:=212
def FJ:Nat:=213
def FK:Nat:=214
def rj:Nat:=215
def rk:Nat:=216
def FL:Nat:=217
def FM:Nat:=218
def NY:Nat:=219
def FN:Nat:=220
def FO:Nat:=221
def FP:Nat:=222
def FQ:Nat:=223
def nR:Nat:=224
def FR:Nat:=225
def tV:Nat:=226
def rl:Nat:=227
def FS:Nat:=228
def tW:Nat:=229
def FT:Nat:=230
def FU:Nat:=231
def tX:Nat:=232
def FV:Nat:=233
def FW:Nat:=234
def yk:Nat:=235
def yl:Nat:=236
def FX:Nat:=237
def FY:Nat:=238
def FZ:Nat:=239
def F0:Nat:=240
def F1:Nat:=241
def F2:Nat:=242
def F3:Nat:=243
def NZ:Nat:=244
def rm:Nat:=246
def ym:Nat:=247
def F4:Nat:=248
def F5:Nat:=249
def F6:Nat:=250
def F7:Nat:=251
def F8:Nat:=252
def N0:Nat:=261
def F9:Nat:=262
def N1:Nat:=263
def Ga:Nat:=264
def N2:Nat:=265
def Gb:Nat:=266
def Gc:Nat:=267
def nS:Nat:=268
def Gd:Nat:=269
def Ge:Nat:=270
def Gf:Nat:=271
def Gg:Nat:=280
def Gh:Nat:=281
def Gi:Nat:=282
def Gj:Nat:=283
def kU:Nat:=284
def Gk:Nat:=285
def Gl:Nat:=287
def Gm:Nat:=288
def Gn:Nat:=289
def N3:Nat:=290
def Gp:Nat:=294
def Gq:Nat:=295
def Gr:Nat:=297
def Gs:Nat:=298
def Gt:Nat:=299
def N4:Nat:=300
def Gu:Nat:=301
def N5:Nat:=302
def N6:Nat:=303
def N7:Nat:=304
def N8:Nat:=305
def N9:Nat:=306
def cmp_Less_int:Nat:=307
def Oa:Nat:=308
def Ob:Nat:=309
def Oc:Nat:=319
def Od:Nat:=320
abbrev Gv:Nat:=0
abbrev an:Nat:=2
abbrev ac:Nat:=3
abbrev ec:Nat:=4
abbrev cq:Nat:=5
abbrev c3:Nat:=9
abbrev cH:Nat:=22
abbrev et:Nat:=25
abbrev af:Nat:=26
abbrev cj:Nat:=27
abbrev e4:Nat:=28
abbrev dH:Nat:=29
abbrev b8:Nat:=30
abbrev eA:Nat:=31
abbrev aD:Nat:=33
abbrev e5:Nat:=36
abbrev nT:Nat:=45
abbrev rn:Nat:=46
abbrev lL:Nat:=47
abbrev aW:Nat:=49
abbrev au:Nat:=54
abbrev tY:Nat:=66
abbrev tZ:Nat:=69
abbrev lM:Nat:=72
abbrev cg:Nat:=77
abbrev dw:Nat:=79
abbrev eH:Nat:=92
abbrev aX:Nat:=100
abbrev bT:Nat:=102
abbrev dO:Nat:=108
abbrev eB:Nat:=110
abbrev bR:Nat:=119
abbrev bW:Nat:=122
abbrev j8:Nat:=125
abbrev ed:Nat:=126
abbrev gb:Nat:=127
abbrev bF:Nat:=129
abbrev cc:Nat:=135
abbrev bx:Nat:=140
abbrev cL:Nat:=142
abbrev rp:Nat:=154
abbrev eQ:Nat:=157
abbrev gM:Nat:=158
abbrev cd:Nat:=160
abbrev iz:Nat:=166
abbrev hZ:Nat:=167
abbrev b9:Nat:=169
abbrev dB:Nat:=175
abbrev cv:Nat:=177
abbrev eI:Nat:=178
abbrev cw:Nat:=180
abbrev e6:Nat:=182
abbrev dq:Nat:=186
abbrev bB:Nat:=188
abbrev dx:Nat:=190
abbrev ck:Nat:=192
abbrev dT:Nat:=196
abbrev a1:Nat:=198
abbrev ka:Nat:=203
abbrev fg:Nat:=205
abbrev gN:Nat:=208
abbrev nU:Nat:=225
abbrev lN:Nat:=230
abbrev cT:Nat:=235
abbrev dP:Nat:=245
abbrev gd:Nat:=246
abbrev gO:Nat:=247
abbrev h0:Nat:=248
abbrev cQ:Nat:=250
abbrev dC:Nat:=259
abbrev fx:Nat:=264
abbrev hh:Nat:=267
abbrev iV:Nat:=273
abbrev dU:Nat:=278
abbrev cb:Nat:=281
abbrev fJ:Nat:=283
abbrev cU:Nat:=288
abbrev h2:Nat:=297
abbrev fh:Nat:=299
abbrev nV:Nat:=300
abbrev fK:Nat:=303
abbrev Oe:Nat:=317
abbrev nW:Nat:=325
abbrev gv:Nat:=332
abbrev fy:Nat:=334
abbrev cz:Nat:=336
abbrev kb:Nat:=352
abbrev iA:Nat:=354
abbrev rq:Nat:=370
abbrev kV:Nat:=383
abbrev lO:Nat:=398
abbrev rr:Nat:=415
theorem az {f:FuncId} {fn:Func} {c:Code} {Q:y0->x2->Prop} {Z:{B S aV:Type}->lK B S aV->(y0->x2->B)->B} {J:Prop} (U:x3.funcs[f]? =σ fn) (h:J)
  (V:fn.body=σ c:=by rfl) (_:∀ {B S aV:Type} (A:lK B S aV) (Q:y0->x2->B),tF A false false (n:=w.heap.size) fn c args w Q=Z A Q:=by intros;conv=>lhs;reduce)
  (_:Z (nO x3) Q=J:=by dsimp only[nO]) (e:J=er x3 fn.ntmps (false,w.heap.size) c (lI fn.results.toList) (jZ 0 args) w (kQ x3 fn.results.toList false Q):=by kernel_rfl)
  (hk:(!(fn.name == "runtime.NumGoroutine")&&wf fn.ntmps c&&Nat.ble args.length fn.ntmps&& !jt c)=true:=by kernel_rfl):ai x3 f args w Q:=by
 simp only[U8,Bool.not_eq_true'] at hk;exact ai.DU mixed U V hk.1.1.1 hk.1.1.2 hk.1.2 hk.2 (e▸h)
theorem mw {f:FuncId} {fn:Func} {c:Code} {Q:y0->x2->Prop} {Z:{B S aV:Type}->lK B S aV->(y0->x2->B)->B} {J:Prop} (U:x3.funcs[f]? =σ fn) (h:J)
  (V:fn.body=σ c:=by rfl) (_:∀ {B S aV:Type} (A:lK B S aV) (Q:y0->x2->B),tF A false true (n:=w.heap.size) fn c args w Q=Z A Q:=by intros;conv=>lhs;reduce)
  (_:Z (nO x3) Q=J:=by dsimp only[nO]) (e:J=er x3 fn.ntmps (false,w.heap.size) c (lI fn.results.toList) (jZ 0 args) w (kQ x3 fn.results.toList true Q):=by kernel_rfl)
  (hk:(!(fn.name == "runtime.NumGoroutine")&&wf fn.ntmps c&&Nat.ble args.length fn.ntmps)=true:=by kernel_rfl):ai x3 f args w Q:=by
 simp only[U8,Bool.not_eq_true'] at hk;exact ai.enter mixed U V hk.1.1 hk.1.2 hk.2 (e▸h)
theorem pq {f:FuncId} {fn:Func} {c:Code} {Q:y0->x2->Prop} {Z:{B S aV:Type}->lK B S aV->(y0->x2->B)->B} {J:Prop} (U:x3.funcs[f]? =σ fn) (h:J)
  (V:fn.body=σ c:=by rfl) (_:∀ {B S aV:Type} (A:lK B S aV) (Q:y0->x2->B),tF A true false (n:=0) fn c args w Q=Z A Q:=by intros;conv=>lhs;reduce)
  (_:Z (nO x3) Q=J:=by dsimp only[nO]) (e:J=er x3 fn.ntmps (true,0) c (lI fn.results.toList) (jZ 0 args) w (kQ x3 fn.results.toList false Q):=by kernel_rfl)
  (hk:(!(fn.name == "runtime.NumGoroutine")&&wf fn.ntmps c&&Nat.ble args.length fn.ntmps)=true:=by kernel_rfl):gu x3 f args w Q:=by
 simp only[U8,Bool.not_eq_true'] at hk;exact gu.enter mixed U V hk.1.1 hk.1.2 hk.2 (e▸h)
theorem mv.enters:Enters x3 mv:=Enters.of x3 (show x3.funcs[mv]? =σ Tryz.f152 from Tryz.func152) rfl Ψ
theorem j7.enters:Enters x3 j7:=Enters.of x3 (show x3.funcs[j7]? =σ Tryz.f155 from Tryz.func155) rfl Ψ
theorem nR.enters:Enters x3 nR:=Enters.of x3 (show x3.funcs[nR]? =σ Tryz.f224 from Tryz.func224) rfl Ψ
theorem nS.enters:Enters x3 nS:=Enters.of x3 (show x3.funcs[nS]? =σ Tryz.f268 from Tryz.func268) rfl Ψ
theorem kU.enters:Enters x3 kU:=Enters.of x3 (show x3.funcs[kU]? =σ Tryz.f284 from Tryz.func284) rfl Ψ
end Go.Proofs.YthjegppepbbojaaGreatDoor
namespace Go.Vc
open Go Go.RowKit
theorem ua {b:Nat} (h:w.cell? ⟨b,o,ν⟩=σ v):∃c e f,w.heap[b]? =σ (.cells c e f)/\c[o]? =σ v:=by
 simp only[x2.cell?] at h;split at h
 .rename_i c e f J;exact⟨c,e,f,J,by simpa using h⟩
 .cases h
theorem yn (J:ae S w w') {b:Nat} (U:¬S b) (h:w.cell? ⟨b,o,ν⟩=σ v):w'.cell? ⟨b,o,ν⟩=σ v:=by
 obtain⟨c,e,f,V,W⟩:=ua h;simp[x2.cell?,J.bc b _ V rfl U,W]
theorem my (J:Ext w w') {b:Nat} (h:w.cell? ⟨b,o,ν⟩=σ v):w'.cell? ⟨b,o,ν⟩=σ v:=
 yn (J.ab λ_=>False) (λh=>h) h
theorem nX (J:Ext w w') {b:Nat} (h:w.rangeAt b o cs):w'.rangeAt b o cs:=λj v U=>my J (h j v U)
theorem nY (J:ae S w w') {b:Nat} (U:¬S b) (h:w.rangeAt b o cs):w'.rangeAt b o cs:=λj v V=>yn J U (h j v V)
def ad (w:x2) (g:Nat) (e:o4) (cs:List y0):Prop:=w.heap[g]? =σ (.cells cs.toArray e (0,0))
theorem ad.ext {g:Nat} (h:ad w g e cs) (J:Ext w w'):ad w' g e cs:=J.bc g _ h rfl
theorem ad.ab {g:Nat} (h:ad w g e cs) (J:ae S w w') (U:¬S g):ad w' g e cs:=J.bc g _ h rfl U
theorem ad.lt {g:Nat} (h:ad w g e cs):g<w.heap.size:=(Z1.1 h).1
theorem ad.cell {g:Nat} (h:ad w g e cs) (J:cs[o]? =σ v):w.cell? ⟨g,o,ν⟩=σ v:=by
 unfold ad at h;simp[x2.cell?,h,J]
theorem ad.Qz{w:World}{g:Nat}{e:TypeId}{cs:List Value}{v:Value}(h:ad w g e cs)(I:cs[0]? =σ v):w.cell? ⟨g,0,ν⟩=σ v:=h.cell I
theorem ad.range {g:Nat} (h:ad w g e cs):w.rangeAt g 0 cs:=λj v J=>by rw[V8];exact h.cell J
theorem ad.frozen {g:Nat} (h:ad w g e cs) (o:Nat) (J:Option Nat):w.frozen? ⟨g,o,J⟩=false:=by
 unfold ad at h;simp[x2.frozen?,h]
def b6 (w:x2) (k:Nat) (v:y0) (n:Nat) (cs:List y0):Prop:=
 cs.length=n*k/\ ∃b o base cap,v= .slice base n cap/\n<=cap/\cap<=maxLen/\(0<n->base=σ ⟨b,o,ν⟩)/\w.rangeAt b o cs
theorem b6.ext {k:Nat} (h:b6 w k v n cs) (J:Ext w w'):b6 w' k v n cs:=by
 obtain⟨h1,b,o,base,cap,U,V,W,X,Y⟩:=h;exact⟨h1,b,o,base,cap,U,V,W,X,nX J Y⟩
theorem b6.le {k:Nat} (h:b6 w k v n cs):n<=maxLen:=by
 obtain⟨_,_,_,_,_,_,J,U,_⟩:=h;exact X8 J U
theorem b6.nil (w:x2) (k:Nat):b6 w k (.slice ν 0 0) 0 []:=⟨Ξ,0,0,ν,0,rfl,n9 _,X7 _,λh=>absurd h (Nat.lt_irrefl _),λj v h=>by simp at h⟩
def aO (P:V2) (t:o4) (k b:Nat) (z:y0):Prop:=∃i,P.info? t=σ i/\i.size=k/\i.bytes=b/\i.zero=σ z
theorem aO.of {P:V2} {k b:Nat} (h:(P.info? t).map (λi=>(i.size,i.bytes,i.zero))=σ (k,b,σ z)):aO P t k b z:=by
 cases hi:P.info? t with
 |none=>simp[hi] at h
 |some i=>simp[hi] at h;exact⟨i,hi,h⟩
theorem aO.size {P:V2} {k b:Nat} (h:aO P t k b z):(P.info? t).map (·.size)=σ k:=by
 obtain⟨i,hi,J,_⟩:=h;simp[hi,J]
def bG (P:V2) (t:o4) (pl:List (Nat×Nat)):Prop:=∃J,P.underlying t=σ (.struct J)/\J.toList.map (λf=>(f.offset,((P.info? f.type).map (·.size)).getD 0))=pl
def yo (P:V2) (t:o4):Option (List (Nat×Nat)):=match P.underlying t with
 |some (.struct J)=>σ (J.toList.map λf=>(f.offset,((P.info? f.type).map (·.size)).getD 0))
 |_=>ν
theorem bG.of {P:V2} {pl:List (Nat×Nat)} (h:yo P t=σ pl):bG P t pl:=by
 unfold yo at h;split at h
 .rename_i J hu;exact⟨J,hu,by simpa using h⟩
 .cases h
section
variable {P:V2} {w:x2}
theorem U.of {s:Sem y0} (h:∀w',Ext w w'->s.run P w'= .ok v w'):U P s w K=K v:=by
 refine propext ⟨λ⟨J,h',k⟩=>?_,λk=>⟨v,h,k⟩⟩;have:=h' w (Ext.refl w);rw[h w (Ext.refl w)] at this;cases this;exact k
theorem ay.of {α:Type} {s:Sem α} {v:α} {K:α->x2->Prop} (h:s.run P w= .ok v w') (J:cY w w') (k:K v w'):ay P s w K:=⟨v,w',h,J,k⟩
theorem bt {c:Bool} {A B:Prop}:Split (.bool c) A B=((c=true->A)/\(c=false->B)):=by
 refine propext ⟨λ⟨U,h,h1,J⟩=>?_,λ⟨h1,J⟩=>⟨c,rfl,h1,J⟩⟩;cases h;exact⟨h1,J⟩
theorem ak {p:Prop} [Decidable p] {A B:Prop}:Split (.bool (decide p)) A B=((p->A)/\(¬p->B)):=by rw[bt];simp
theorem bX {A B:Prop}:Split (.bool true) A B=A:=by rw[bt];simp
theorem aT {A B:Prop}:Split (.bool false) A B=B:=by rw[bt];simp
theorem aL {b:Int}:U P (aA .add t cx cy (.int k a) (.int k b)) w K=K (.int k (k.wrap (a+b))):=
 U.of λw' _=>by simp[aA,eqGuard,binOp,Op.intArith]
theorem dj {b:Int}:U P (aA .sub t cx cy (.int k a) (.int k b)) w K=K (.int k (k.wrap (a-b))):=
 U.of λw' _=>by simp[aA,eqGuard,binOp,Op.intArith]
theorem fL {b:Int}:U P (aA .mul t cx cy (.int k a) (.int k b)) w K=K (.int k (k.wrap (a*b))):=
 U.of λw' _=>by simp[aA,eqGuard,binOp,Op.intArith]
theorem pr {b:Int} (J:b≠0):U P (aA .quo t cx cy (.int k a) (.int k b)) w K=K (.int k (k.wrap (a.tdiv b))):=
 U.of λw' _=>by simp[aA,eqGuard,binOp,Op.intDiv,J]
theorem kc {b:Int} (J:b≠0):U P (aA .rem t cx cy (.int k a) (.int k b)) w K=K (.int k (a.tmod b)):=
 U.of λw' _=>by simp[aA,eqGuard,binOp,Op.intDiv,J]
theorem aQ {b:Int}:U P (aA .lss t cx cy (.int k a) (.int k b)) w K=K (.bool (decide (a<b))):=
 U.of λw' _=>by simp[aA,eqGuard,binOp,Op.intCmp]
theorem Υ{k:IntKind}{P:Program}{t:TypeId}{cx cy:Bool}{a b:Int}{w:World}{A B:Prop}(hA:a<b->A)(h:a<b:=by omega):U P (aA .lss t cx cy (.int k a) (.int k b)) w λv=>Split v A B:=by
 rw[aQ,ak];exact ⟨hA,λe=>absurd h e⟩
theorem mz {b:Int}:U P (aA .leq t cx cy (.int k a) (.int k b)) w K=K (.bool (decide (a<=b))):=
 U.of λw' _=>by simp[aA,eqGuard,binOp,Op.intCmp]
theorem bY {b:Int}:U P (aA .gtr t cx cy (.int k a) (.int k b)) w K=K (.bool (decide (b<a))):=
 U.of λw' _=>by simp[aA,eqGuard,binOp,Op.intCmp]
theorem cr {b:Int}:U P (aA .geq t cx cy (.int k a) (.int k b)) w K=K (.bool (decide (b<=a))):=
 U.of λw' _=>by simp[aA,eqGuard,binOp,Op.intCmp]
theorem bn {b:Int}:U P (aA .eql t cx cy (.int k a) (.int k b)) w K=K (.bool (decide (a=b))):=
 U.of λw' _=>by
  have:(a == b)=decide (a=b):=by by_cases h:a=b<;>simp[h]
  simp[aA,eqGuard,binOp,Op.intCmp,this]
theorem bH {b:Int}:U P (aA .neq t cx cy (.int k a) (.int k b)) w K=K (.bool (decide (a≠b))):=
 U.of λw' _=>by
  have:(a != b)=decide (a≠b):=by by_cases h:a=b<;>simp[h,bne]
  simp[aA,eqGuard,binOp,Op.intCmp,this]
theorem yp {J:o6} {b:Int} (V:0<=b):U P (aA .shl t cx cy (.int k a) (.int J b)) w K=K (.int k (k.wrap (a*2 ^ min b.toNat k.bits))):=
 U.of λw' _=>by simp[aA,eqGuard,binOp,Op.shift,show ¬b<0 by omega]
theorem bg {c:Bool}:U P (Op.unary .not (.bool c)) w K=K (.bool !c):=U.of λw' _=>by simp[Op.unary]
theorem kW:U P (Op.unary .neg (.int k a)) w K=K (.int k (k.wrap (0-a))):=U.of λw' _=>by simp[Op.unary,Op.intArith]
theorem fi {s d:o4} {V:o6} (J:P.underlying s=σ (.int V)) (W:P.underlying d=σ (.int k)):
  U P (convert s d (.int V a)) w K=K (.int k (k.wrap a)):=U.of λw' _=>by simp[convert,run_underlying J,run_underlying W,Conv.intToInt]
theorem yq {x y:y0} {r:Bool} (J:∀w',(eqGuard .eql t (aI cx) (aI cy) x y).run P w'= .ok () w')
  (V:binOp .eql t x y=(do pure (.bool (<-Op.equal t x y)))) (h:∀w',Ext w w'->(Op.equal t x y).run P w'= .ok r w'):U P (aA .eql t cx cy x y) w K=K (.bool r):=U.of λw' W=>by
 unfold aA;rw[V,W9,J w',Result.andThen_ok,W9,h w' W];rfl
theorem yr {x y:y0} {r:Bool} (J:∀w',(eqGuard .neq t (aI cx) (aI cy) x y).run P w'= .ok () w')
  (V:binOp .neq t x y=(do pure (.bool (!(<-Op.equal t x y))))) (h:∀w',Ext w w'->(Op.equal t x y).run P w'= .ok r w'):U P (aA .neq t cx cy x y) w K=K (.bool !r):=U.of λw' W=>by
 unfold aA;rw[V,W9,J w',Result.andThen_ok,W9,h w' W];rfl
theorem ys (w:x2) (d:Nat) {p:Option Addr} (h:P.underlying t=σ (.pointer e)):(Op.equalIn (d+1) t (.pointer p) (.pointer ν)).run P w= .ok p.isNone w:=by
 cases p<;>simp[Op.equalIn,run_underlying h]
theorem rt {base:Option Addr} {c:Nat} (J:P.underlying t=σ (.slice e)):
  U P (aA .eql t cx cy (.slice base n c) (.slice ν 0 0)) w K=K (.bool base.isNone):=yq (λ_=>rfl) rfl λw' _=>run_equal_slice_nil w' t e base n c J
theorem cR {p:Option Addr} (J:P.underlying t=σ (.pointer e)):
  U P (aA .eql t cx cy (.pointer p) (.pointer ν)) w K=K (.bool p.isNone):=yq (λ_=>rfl) rfl λw' _=>ys w' 9999 J
theorem yt {p:Option Addr} (J:P.underlying t=σ (.pointer e)):
  U P (aA .neq t cx cy (.pointer p) (.pointer ν)) w K=K (.bool !p.isNone):=yr (λ_=>rfl) rfl λw' _=>ys w' 9999 J
theorem gP {J:o4} {base:Option Addr} {c:Nat} (V:P.underlying t=σ (.slice e)):
  U P (X0 #[t] J #[.slice base n c]) w K=K (Δ n):=U.of λw' _=>by simp[X0,run_underlying V,goInt]
theorem iW {J:Array o4} {V:o4} {b:Int}:
  U P (j5.min_ J V #[.int k a,.int k b]) w K=K (.int k (min a b)):=U.of λw' _=>by
 simp only[j5.min_,List.foldlM,j5.min2];simp only[W9,V7,Result.andThen_ok,Int.min_def];congr 2;split<;>split<;>omega
theorem ru {J:Array o4} {V:o4} {b:Int}:
  U P (j5.max_ J V #[.int k a,.int k b]) w K=K (.int k (max a b)):=U.of λw' _=>by
 simp only[j5.max_,List.foldlM,j5.max2];simp only[W9,V7,Result.andThen_ok,Int.max_def];congr 2;split<;>split<;>omega
theorem h3 {vs:Array y0} {i:Nat} (h:vs[i]? =σ v):U P (Y0 (.tuple vs) i) w K=K v:=U.of λw' _=>by simp[Y0,h]
theorem kX {f:Fn} {a b:Array y0}:U P (Instr.makeFunc f a b) w K=K (.func f a b):=U.of λ_ _=>rfl
def kd (P:V2) (t:o4):Bool:=match P.underlying t with
 |some (.struct _)|some (.array _ _)|none=>false
 |_=>true
theorem aS {b:Nat} (J:kd P t=true) (h:w.cell? ⟨b,o,ν⟩=σ v):
  U P (x7 t (.pointer (σ ⟨b,o,ν⟩))) w K=K v:=U.of λw' V=>by
 have h':=my V h;unfold kd at J;cases hu:P.underlying t with
 |none=>rw[hu] at J;cases J
 |some d=>
  rw[hu] at J;cases d<;>first|(cases J;done)|simp[x7,Instr.sureAddr,loadVar,isAgg,run_underlying hu,h']
theorem yu {d:TypeDesc} {b k:Nat} (hu:P.underlying t=σ d) (V:d.isRow=true) (hi:aO P t k J z) (W:cs.length=k)
  (h:w.rangeAt b o cs):U P (x7 t (.pointer (σ ⟨b,o,ν⟩))) w K=K (.agg cs.toArray):=U.of λw' X=>
 run_loadAt_mid (P:=P) w' b o t cs d (nX X h) hu V (by rw[hi.size,W])
theorem br {pl:List (Nat×Nat)} {b k:Nat} (hu:bG P t pl) (hi:aO P t k J z) (V:cs.length=k)
  (h:w.rangeAt b o cs):U P (x7 t (.pointer (σ ⟨b,o,ν⟩))) w K=K (.agg cs.toArray):=by
 obtain⟨W,hu,_⟩:=hu;exact yu hu rfl hi V h
theorem aM {pl:List (Nat×Nat)} {i b off z:Nat} (aa:bG P t pl) (V:pl[i]? =σ (off,z+1)):
  U P (x8 t (.pointer (σ ⟨b,o,ν⟩)) i) w K=K (.pointer (σ ⟨b,o+off,ν⟩)):=U.of λw' _=>by
 obtain⟨ab,hu,rfl⟩:=aa;rw[u4] at V;cases W:ab[i]? with
 |none=>rw[R4,W] at V;cases V
 |some f=>
  rw[R4,W] at V;simp only[Y4,Y8,T5] at V;obtain⟨rfl,Y⟩:=V;cases X:P.info? f.type with
  |none=>simp[X] at Y
  |some j=>
   have J:j.size=z+1:=by simpa[X] using Y
   simp[x8,run_underlying hu,W,Instr.sureAddr,fieldPlace,sizeOf,typeInfo,X,J,T3]
theorem yv {i:Int} {b c z W:Nat} {X:y0} {base:Option Addr} (hu:P.underlying t=σ (.slice e)) (Y:aO P e z W X)
  (aa:0<=i) (hi:i<n) (V:0<n->base=σ ⟨b,o,ν⟩):
  U P (l7 t (.slice base n c) (.int k i)) w K=K (.pointer (σ ⟨b,o+i.toNat*z,ν⟩)):=U.of λw' _=>by
 have V:=V Ω;subst V;obtain⟨j,ab,J,_⟩:=Y;simp[l7,asIntOf,run_underlying hu,aa,hi,sizeOf,typeInfo,ab,J,T3]
theorem fz {i:Nat} {b c z:Nat} {V:y0} {base:Option Addr} (hu:P.underlying t=σ (.slice e)) (W:aO P e z J V)
  (hi:i<n) (X:0<n->base=σ ⟨b,o,ν⟩):
  U P (l7 t (.slice base n c) (.int k (i:Int))) w K=K (.pointer (σ ⟨b,o+i*z,ν⟩)):=by
 rw[yv (i:=(i:Int)) hu W Ω Ω X];rfl
theorem Gw {i:Int} {b z:Nat} {W:y0} (hu:P.underlying t=σ (.array n e)) (X:aO P e z V W)
  (Y:0<=i) (hi:i<n):
  U P (l7 t (.pointer (σ ⟨b,o,ν⟩)) (.int k i)) w K=K (.pointer (σ ⟨b,o+i.toNat*z,ν⟩)):=U.of λw' _=>by
 obtain⟨j,aa,J,_⟩:=X;simp[l7,asIntOf,run_underlying hu,Instr.sureAddr,Y,hi,sizeOf,typeInfo,aa,J,T3]
theorem ub {i:Nat} {b z:Nat} {V:y0} (hu:P.underlying t=σ (.array n e)) (W:aO P e z J V) (hi:i<n):
  U P (l7 t (.pointer (σ ⟨b,o,ν⟩)) (.int k (i:Int))) w K=K (.pointer (σ ⟨b,o+i*z,ν⟩)):=by
 rw[Gw (i:=(i:Int)) hu W Ω Ω];rfl
def kY:Option y0->Nat->Prop
 |none,l=>l=0
 |some v,l=>∃k,v= .int k l
def kZ:Option y0->Nat->Nat->Prop
 |none,n,h=>h=n
 |some v,_,h=>∃k,v= .int k h
def maxOf:Option y0->Option y0->Nat->Nat->Prop
 |none,_,c,m=>m=c
 |some v,σ _,_,m=>∃k,v= .int k m
 |some _,ν,_,_=>False
theorem mA {l:Nat}:kY (σ (.int k (l:Int))) l:=⟨_,rfl⟩
theorem mB (l:Nat) (x:Int) (h:x=(l:Int)):kY (σ (.int k x)) l:=⟨k,by rw[h]⟩
theorem mC (l:Nat) (x:Int) (h:x=(l:Int)):kZ (σ (.int k x)) n l:=⟨k,by rw[h]⟩
theorem h4:kY ν 0:=rfl
theorem mD:kZ (σ (.int k (h:Int))) n h:=⟨_,rfl⟩
theorem h5:kZ ν n n:=rfl
theorem eJ {h:Option y0} {c:Nat}:maxOf ν h c c:=by cases h<;>rfl
theorem rv (w:x2) {sl:Bool} {c l:Nat} {low high mx:Option y0} (h1:kY low l) (U:kZ high n h) (J:maxOf mx high c m) (V:l<=h) (aw:h<=m) (hm:m<=c):
  (Instr.sliceBounds sl n c low high mx).run P w= .ok (l,h,m) w:=by
 cases low<;>cases high<;>cases mx<;>simp only[kY,kZ,maxOf] at h1 U J<;>(try exact J.elim)<;>(try obtain⟨W,rfl⟩:=h1)<;>(try obtain⟨X,rfl⟩:=U)<;>(try obtain⟨Y,rfl⟩:=J)<;>(try subst h1)<;>(try subst U)<;>(try subst J) <;>
  simp[Instr.sliceBounds,Instr.sliceBound,asIntOf,V,aw,hm]
theorem fM {c z l:Nat} {W:y0} {base:Option Addr} {low high mx:Option y0} (hu:P.underlying t=σ (.slice e)) (X:aO P e z V W)
  (h1:kY low l) (Y:kZ high n h) (aa:maxOf mx high c m) (ab:l<=h) (aw:h<=m) (hm:m<=c):
  U P (V5 t (.slice base n c) low high mx) w K=K (.slice (if m=l then base else base.map (·.add (l*z))) (h-l) (m-l)):=U.of λw' _=>by
 obtain⟨j,ac,J,_⟩:=X;simp[V5,Instr.slice,run_underlying hu,rv w' h1 Y aa ab aw hm,sizeOf,typeInfo,ac,J]
theorem rx {z l b:Nat} {W:y0} {low high mx:Option y0} (hu:P.underlying t=σ (.array n e)) (X:aO P e z V W)
  (h1:kY low l) (Y:kZ high n h) (aa:maxOf mx high n m) (ab:l<=h) (aw:h<=m) (hm:m<=n):
  U P (V5 t (.pointer (σ ⟨b,o,ν⟩)) low high mx) w K=K (.slice (σ (if m=l then⟨b,o,ν⟩ else⟨b,o+l*z,ν⟩)) (h-l) (m-l)):=U.of λw' _=>by
 obtain⟨j,ac,J,_⟩:=X;simp[V5,Instr.sureAddr,run_underlying hu,rv w' h1 Y aa ab aw hm,sizeOf,typeInfo,ac,J,T3]
theorem c8 {parts:Array (Nat×y0)} {cs:Array y0} (h:P.built t parts.toList=σ cs):U P (Instr.build t parts) w K=K (.agg cs):=U.of λw' _=>
 run_build (P:=P) w' t parts cs h
end
theorem b6.part {k c l:Nat} {base:Option Addr} (J:b6 w k (.slice base n c) n cs) (Y:l<=h) (aw:h<=n) (hm:h<=m) (aa:m<=c):
  b6 w k (.slice (if m=l then base else base.map (·.add (l*k))) (h-l) (m-l)) (h-l) ((cs.drop (l*k)).take ((h-l)*k)):=by
 obtain⟨h1,b,o,ab,cap,he,ac,ad,V,W⟩:=J;cases he;have ae:h*k<=n*k:=X1 _ aw;have af:l*k+(h-l)*k=h*k:=by rw[<-U7];congr 1;omega
 refine⟨by simp[h1];omega,b,o+l*k,_,m-l,rfl,Ω,Ω,λag=>?_,λj v U=>?_⟩
 .rw[V Ω,if_neg Ω];simp[T3]
 .have X:=(x4.1 U).1;simp at X;rw[Y7 Ω,List.getElem?_drop] at U;rw[Q0];exact W _ _ U
section
variable {P:V2} {w:x2}
structure iB (g:Nat) (w w':x2):Prop where
 os:w'.os=w.os
 tape:jr w w'
 output:w'.output=w.output
 size:w'.heap.size=w.heap.size
 bc:∀r,r≠g->w'.heap[r]? =w.heap[r]?
theorem iB.refl (g:Nat) (w:x2):iB g w w:=⟨rfl,.jV,rfl,rfl,λ_ _=>rfl⟩
theorem iB.trans {g:Nat} {a b:x2} (h:iB g a b) (k:iB g b c):iB g a c:=
 ⟨k.os.trans h.os,k.tape.trans h.tape,k.output.trans h.output,k.size.trans h.size,λr J=>(k.bc r J).trans (h.bc r J)⟩
theorem iB.ab {g:Nat} (h:iB g w w'):ae (λr=>r=g) w w':=⟨Nat.le_of_eq h.size.symm,λr o J _ U=>by rw[h.bc r U];exact J⟩
theorem iB.dc {g:Nat} (h:iB g w w') (V:ad w g e cs):cY w w':=
 ⟨h.os,h.tape,h.output,Nat.le_of_eq h.size.symm,λr o U J=>by
  by_cases W:r=g
  .subst W;unfold ad at V;rw[V] at U;cases U;simp[fw] at J
  .rw[h.bc r W];exact U⟩
theorem yw {g:Nat} (h:ad w g e cs) (o:Nat) (v:y0):ad (w.setCell ⟨g,o,ν⟩ v) g e (cs.set o v)/\iB g w (w.setCell ⟨g,o,ν⟩ v):=by
 unfold ad at h;refine⟨?_,rfl,.jV,rfl,by simp[x2.setCell],λr J=>?_⟩
 .simp[ad,x2.setCell,Array.getElem?_modify,h]
 .simp[x2.setCell,Array.getElem?_modify,S6 J]
def over (cs:List y0):Nat->List y0->List y0
 |_,[]=>cs
 |o,v::r=>over (cs.set o v) (o+1) r
theorem k0:∀ (vs cs:List y0) (o:Nat),(over cs o vs).length=cs.length
 |[],_,_=>rfl
 |v::r,cs,o=>by simp[over,k0 r]
theorem mE:∀ (vs cs:List y0) (o:Nat),o+vs.length<=cs.length-> ∀j,(over cs o vs)[j]? =if o<=j/\j<o+vs.length then vs[j-o]? else cs[j]?
 |[],cs,o,_,j=>by simp[over];intro h1 J;omega
 |v::r,cs,o,h,j=>by
  simp only[Z5] at h;rw[over,mE r (cs.set o v) (o+1) Θ j];simp only[Z5];by_cases h1:o+1<=j/\j<o+1+r.length
  .rw[if_pos h1,if_pos Ω];rw[show j-o=(j-(o+1))+1 by omega,List.getElem?_cons_succ]
  .rw[if_neg h1];by_cases J:j=o
   .subst J;rw[if_pos Ω,U5 Ω];simp
   .rw[if_neg Ω,V3 (S6 J)]
theorem lP (h:o+vs.length<=cs.length):over cs o vs=cs.take o++vs++cs.drop (o+vs.length):=by
 apply W5;intro j;rw[mE vs cs o h];by_cases h1:j<o
 .rw[if_neg Ω,Y3 Θ,Y3 Θ,Y7 h1]
 .by_cases J:j<o+vs.length
  .rw[if_pos Ω,Y3 Θ,Y5 Θ];congr 1;simp;omega
  .rw[if_neg Ω,Y5 Θ,List.getElem?_drop];congr 1;simp;omega
theorem mF {g:Nat} {e:o4}:∀ (vs:List y0) (cs:List y0) (o:Nat) (w:x2),ad w g e cs->ad (w.setCells g o vs) g e (over cs o vs)/\iB g w (w.setCells g o vs)
 |[],cs,o,w,h=>⟨h,iB.refl _ _⟩
 |v::r,cs,o,w,h=>by
  obtain⟨h1,J⟩:=yw h o v;obtain⟨U,V⟩:=mF r (cs.set o v) (o+1) _ h1;exact⟨U,J.trans V⟩
theorem ry (w:x2) (c:List y0) (e:o4):ad (w.alloc (.cells c.toArray e)) w.heap.size e c/\Ext w (w.alloc (.cells c.toArray e))/\cY w (w.alloc (.cells c.toArray e)):=
 ⟨heap_alloc_new w _,pa w _,pb w _⟩
theorem bp {k:Nat} {K:y0->x2->Prop} (hi:aO P t k J z)
  (h:∀g w',g=w.heap.size->Ext w w'->ad w' g t z.cells.toList->K (Γ g) w'):ay P (S8 t true (.tuple #[])) w K:=by
 obtain⟨i,hi,_,_,U⟩:=hi;obtain⟨h1,V,W⟩:=ry w z.cells.toList t;refine .of ?_ W (h _ _ rfl V h1);simp[S8,zeroValue,typeInfo,hi,U,newVar,newRow]
theorem bP {K:y0->x2->Prop}
  (h:∀g w',g=w.heap.size->Ext w w'->ad w' g t v.cells.toList->K (Γ g) w'):ay P (Instr.box t v) w K:=by
 obtain⟨h1,J,U⟩:=ry w v.cells.toList t;refine .of ?_ U (h _ _ rfl J h1);simp[Instr.box,newVar,newRow]
def dI (z:Array y0) (n:Nat):List y0:=((Array.range n).map (z[·% z.size]!)).toList
theorem nZ (z:Array y0) (n:Nat):(dI z n).length=n:=by simp[dI]
theorem iX {k W:Nat} {parts:Array (Nat×y0)} {cs:Array y0} {K:y0->x2->Prop} (V:P.underlying t=σ (.slice e)) (hi:aO P e k W z)
  (ac:n*k<=2 ^ 24) (J:Instr.fill (λj=>σ (j*k,k)) ((Array.range (n*k)).map ((if n*k=0 then #[] else z.cells)[·% (if n*k=0 then #[] else z.cells).size]!)) parts.toList=σ cs)
  (h:∀g w',g=w.heap.size->Ext w w'->ad w' g e cs.toList->K (.slice (σ ⟨g,0,ν⟩) n n) w'):ay P (Y1 t n parts) w K:=by
 obtain⟨i,hi,rfl,_,X⟩:=hi;obtain⟨h1,Y,aa⟩:=ry w cs.toList e;refine .of ?_ aa (h _ _ rfl Y h1);have ab:¬(16777216<n*i.size):=Ω
 by_cases U:n*i.size=0
 .simp only[U,if_true] at J;simp[Y1,run_underlying V,sizeOf,typeInfo,hi,U,newRow];simp at J;simp[J]
 .simp only[U,if_false] at J;simp[Y1,run_underlying V,sizeOf,typeInfo,hi,ab,U,newRow,zeroValue,X,J]
theorem bj {W g:Nat} {K:Unit->x2->Prop} (hi:aO P t 1 W z) (h1:v.cells= #[v]) (X:v.oneCell'=true) (U:ad w g e cs) (Y:o<cs.length)
  (h:∀w',ae (λr=>r=g) w w'->w'.heap.size=w.heap.size->ad w' g e (cs.set o v)->K () w'):ay P (o7 t (.pointer (σ ⟨g,o,ν⟩)) v) w K:=by
 obtain⟨i,hi,J,_⟩:=hi;obtain⟨aa,V⟩:=yw U o v;refine .of (w':=w.setCell ⟨g,o,ν⟩ v) ?_ (V.dc U) (h _ V.ab V.size aa);have ac:=U.cell (x6 Y);have af:(⟨g,o,ν⟩:Addr).add 0=⟨g,o,ν⟩:=rfl;simp[o7,Instr.sureAddr,storeVar,sizeOf,typeInfo,hi,J,h1,storeCells,af,run_store P w _ v _ X,ac,U.frozen]
theorem yx {k g:Nat} {K:Unit->x2->Prop} (hi:aO P t k V z) (W:vs.length=k) (X:∀v∈vs,v.oneCell'=true) (J:ad w g e cs) (ac:o+vs.length<=cs.length)
  (h:∀w',ae (λr=>r=g) w w'->w'.heap.size=w.heap.size->ad w' g e (over cs o vs)->K () w'):ay P (o7 t (.pointer (σ ⟨g,o,ν⟩)) (.agg vs.toArray)) w K:=by
 obtain⟨Y,U⟩:=mF vs cs o w J;refine .of (w':=w.setCells g o vs) ?_ (U.dc J) (h _ U.ab U.size Y);exact run_storeAt_mid (P:=P) w g o t vs.toArray (λj aa=>⟨by rw[J.cell (x6 (show o+j<cs.length by simp at aa;omega))];rfl,J.frozen _ _⟩) (by rw[hi.size];simp[W]) (by simpa using X)
def b1 (w:x2) (g:Nat) (e:o4) (k:Nat) (v:y0) (n:Nat) (xs:List y0):Prop:=
 xs.length=n*k/\((v= .slice ν 0 0/\n=0)\/ ∃cap cs,v= .slice (σ ⟨g,0,ν⟩) n cap/\ad w g e cs/\n<=cap/\cap<=maxLen/\cs.length=cap*k/\cs.take (n*k)=xs)
theorem b1.nil (w:x2) (g:Nat) (e:o4) (k:Nat):b1 w g e k (.slice ν 0 0) 0 []:=⟨Ξ,.inl ⟨rfl,rfl⟩⟩
theorem b1.full {g:Nat} {k:Nat} (h:ad w g e cs) (J:cs.length=n*k) (U:n<=maxLen):b1 w g e k (.slice (σ ⟨g,0,ν⟩) n n) n cs:=
 ⟨J,.inr ⟨n,cs,rfl,h,n9 _,U,J,by rw[<-J,o9]⟩⟩
theorem b1.ab {g:Nat} {k:Nat} (h:b1 w g e k v n xs) (U:ae S w w') (V:g<w.heap.size->¬S g):b1 w' g e k v n xs:=
 ⟨h.1,h.2.imp id λ⟨cap,cs,h1,J,W⟩=>⟨cap,cs,h1,J.ab U (V J.lt),W⟩⟩
theorem b1.ext {g:Nat} {k:Nat} (h:b1 w g e k v n xs) (J:Ext w w'):b1 w' g e k v n xs:=h.ab (J.ab λ_=>False) (λ_ h=>h)
theorem b1.sl {g:Nat} {k:Nat} (h:b1 w g e k v n xs):b6 w k v n xs:=by
 obtain⟨h1,⟨rfl,rfl⟩|⟨cap,cs,rfl,U,V,W,Y,X⟩⟩:=h
 .have:xs=[]:=Z8 (by simpa using h1);subst this;exact b6.nil w k
 .refine⟨h1,g,0,_,cap,rfl,V,W,λ_=>rfl,λj v J=>?_⟩;rw[V8];have aa:=(x4.1 J).1;rw[<-X,Y7 Ω] at J;exact U.cell J
theorem b6.src {k:Nat} {x:y0} {U:List y0} {X:o4} (J:b6 w k x m U) (hk:P.underlying W=σ (.slice X)) (h1:∀u∈U,u.oneCell'=true) (Y:0<m):Src P k W x m U w:=by
 obtain⟨aa,b,o,base,cap,rfl,_,_,V,ab⟩:=J;have V:=V Y;subst V;exact Src.ofSlice w hk ⟨b,o,ν⟩ m cap U aa (λj u hu=>by rw[T3];exact ab j u hu) h1
theorem b6.Gx {k:Nat} {x:y0} {V:List y0} {U:o4} (J:b6 w k x 0 V) (hk:P.underlying U=σ (.slice W)):Src P k U x 0 [] w:=by
 obtain⟨X,b,o,base,cap,rfl,_,_,Y,aa⟩:=J;cases base with
 |none=>exact Src.ofNil w hk cap
 |some a=>exact Src.ofSlice w hk a 0 cap [] Ξ Ξ Ξ
theorem yy {Y am az:o4} {k an g:Nat} {x:y0} {U:List y0} {K:y0->x2->Prop}
  (ad:P.underlying t=σ (.slice e)) (af:P.underlying W=σ (.slice az)) (hi:aO P e k an z) (aA:z.cells.size=k)
  (ao:b1 w g am k v n xs) (J:b6 w k x m U) (h1:∀u∈U,u.oneCell'=true) (aB:(n+m)*an<=140737488355328) (ap:n+m<=maxLen)
  (h:∀ag ah w' ai,(ah=g/\ai=am/\(v=ag\/g<w.heap.size/\v≠ .slice ν 0 0)\/ah=w.heap.size/\ai=e)->b1 w' ah ai k ag (n+m) (xs++U)->ae (λr=>r=g/\v≠ .slice ν 0 0) w w'->K ag w'):
  ay P (j4 #[t,W] Y #[v,x]) w K:=by
 obtain⟨i,hi,rfl,rfl,aC⟩:=hi;have aD:=ao.sl;obtain⟨V,aj⟩:=ao;have X:=J.1;have grow:∀ (base:Option Addr) (cap:Nat),v= .slice base n cap->cap<n+m->0<m->(j5.firstCells i.size n (.slice base n cap)).run P w.drew= .ok xs.toArray w.drew->ay P (j4 #[t,W] Y #[v,x]) w K:=by
  rintro base cap rfl aq hm aE;have aa:=run_append_grow_src (P:=P) w t W Y e i z ad hi aC base n cap xs aE x m U (J.src af h1 hm) aq (by simp only[maxLen] at ap;omega) (growslice_fits aq aB);have aF:n+m<=grownCap w (n+m) cap e:=grownCap_ge w _ _ _;have ak:grownCap w (n+m) cap e<=maxLen:=grownCap_le_maxLen w (n+m) cap e ap;have aG:Ext w (w.drew.alloc (.cells ((xs++U).toArray++j5.zeroCells z.cells (grownCap w (n+m) cap e-(n+m))) e)):=(qI w _).trans (pa _ _);refine .of aa ((o3 w _ (R6 _)).trans (pb _ _)) (h _ w.heap.size _ _ (.inr ⟨rfl,rfl⟩) ⟨by simp[V,X,U7],.inr ⟨_,((xs++U).toArray++j5.zeroCells z.cells (grownCap w (n+m) cap e-(n+m))).toList,rfl,?_,aF,ak,?_,?_⟩⟩ (aG.ab _))
  .show _=_;rw[Array.toArray_toList];exact heap_alloc_new w.drew _
  .simp[V,X,size_zeroCells,aA,<-U7];congr 1;omega
  .rw[Array.toList_append,List.toList_toArray,U7,<-V,<-X,<-r8];exact List.take_left
 rcases Nat.eq_zero_or_pos m with rfl|hm
 .have aH:U=[]:=Z8 (by simpa using X);subst aH;have aI:=J.Gx af;have au:∀base cap,v= .slice base n cap->n<=cap->ay P (j4 #[t,W] Y #[v,x]) w K:=by
   rintro base cap rfl ak;refine .of (run_append_nothing (P:=P) w t W Y e i ad hi base n cap ak x aI) (cY.refl _) (h _ g _ _ (.inl ⟨rfl,rfl,.inl rfl⟩) ?_ (ae.refl _ _));rw[Nat.add_zero,X6];exact⟨V,aj⟩
  obtain⟨rfl,rfl⟩|⟨cap,cs,rfl,_,av,_⟩:=aj
  .exact au _ _ rfl (n9 _)
  .exact au _ _ rfl av
 .obtain⟨rfl,rfl⟩|⟨cap,cs,rfl,ac,av,aJ,aw,aK⟩:=aj
  .have aL:xs=[]:=Z8 (by simpa using V);subst aL;exact grow ν 0 rfl Ω hm (run_firstCells_none w.drew i.size 0 0 0)
  .by_cases al:n+m<=cap
   .have aM:n*i.size+U.length<=cs.length:=by rw[X,aw,<-U7];exact X1 _ al
    have aa:=run_append_room_src (P:=P) w t W Y e i ad hi g 0 n cap x m U (J.src af h1 hm) al
     (λj aS=>by rw[ac.cell (x6 (show 0+n*i.size+j<cs.length by omega))];rfl) (λj _=>ac.frozen _ _)
    obtain⟨aN,ax⟩:=mF U cs (n*i.size) w ac;rw[V8] at aa;refine .of aa (ax.dc ac) (h _ g _ _ (.inl ⟨rfl,rfl,.inr ⟨ac.lt,Ξ⟩⟩) ⟨by simp[V,X,U7],.inr ⟨cap,_,rfl,aN,al,aJ,by rw[k0,aw],?_⟩⟩ (ax.ab.mono λr _ h=>⟨h,Ξ⟩));rw[lP aM,aK,U7,<-V,<-X,<-r8];exact List.take_left
   .refine grow _ cap rfl Ω hm (run_firstCells_some w.drew i.size n _ n cap xs V λj u hu=>?_);rw[T3];obtain⟨_,b,o,base,aT,he,_,_,aP,aa⟩:=aD;cases he;have aQ:0<n:=by
     rcases Nat.eq_zero_or_pos n with rfl|aR
     .simp at V;subst V;simp at hu
     .exact aR
    have:=aP aQ;cases this;simpa using aa j u hu
theorem mG {X ab ac:o4} {k Y g:Nat} {x:y0} {W:List y0} {K:y0->x2->Prop}
  (ad:P.underlying t=σ (.slice e)) (af:P.underlying X=σ (.slice ac)) (hi:aO P e k Y z) (ag:z.cells.size=k)
  (ah:b1 w g e k v n xs) (J:b6 w k x m W) (h1:∀u∈W,u.oneCell'=true) (ai:(n+m)*Y<=140737488355328) (aj:n+m<=maxLen)
  (h:∀V U w',(U=g\/w.heap.size<=U)->b1 w' U e k V (n+m) (xs++W)->ae (λr=>r=g) w w'->K V w'):
  ay P (j4 #[t,X] ab #[v,x]) w K:=
 yy ad af hi ag ah J h1 ai aj λV U w' al aa hm ak=>by
  refine h V U w' (aa.imp And.left λh=>Nat.le_of_eq h.1.symm) ?_ (ak.mono λr _ h=>h.1);obtain⟨_,rfl,_⟩|⟨_,rfl⟩:=aa<;>exact hm
theorem yz {Y aa:o4} {am g U ac:Nat} {x:y0} {base:Option Addr} {ah:o4} {K:y0->x2->Prop} (ai:P.underlying W=σ (.slice e)) (hi:aO P e 1 am z)
  (V:ad w g ah cs) (an:0<U->base=σ ⟨g,o,ν⟩) (aA:o+U<=cs.length) (J:b6 w 1 x n xs) (h1:∀u∈xs,u.oneCell'=true)
  (h:∀w',ae (λr=>r=g) w w'->w'.heap.size=w.heap.size->ad w' g ah (over cs o (xs.take U))->K (Δ (min n U:Nat)) w'):
  ay P (j5.copy_ #[W,Y] aa #[.slice base U ac,x]) w K:=by
 obtain⟨af,b,o',ao,cap,rfl,_,_,ap,aq⟩:=J;simp only[S2] at af;have aj:(P.info? e).map (·.size)=σ 1:=hi.size;by_cases X:Nat.min n U=0
 .have he:xs.take U=[]:=Z8 (by rw[o5,af];rw[Nat.min_comm];exact X);rw[he] at h;refine .of (run_copy_none (P:=P) w W Y aa e base ao U ac n cap ai aj X) (cY.refl _) ?_;have ak:min n U=0:=X;rw[ak] at h;exact h w (ae.refl _ _) rfl V
 .have ak:min n U≠0:=X;have au:=ap Ω;have av:=an Ω;subst au;subst av;have al:(xs.take U).length=min n U:=by rw[o5,af,Nat.min_comm]
  obtain⟨aw,ag⟩:=mF (xs.take U) cs o w V;have ax:=run_copy_cells (P:=P) w W Y aa e g o U ac ⟨b,o',ν⟩ n cap (xs.take U) ai aj al
   (λj u hu=>by
    rw[T3];have az:=(x4.1 hu).1;rw[Y7 Ω] at hu;exact aq j u hu)
   (λj az=>by rw[V.cell (x6 (show o+j<cs.length by omega))];rfl) (λj _=>V.frozen _ _) (λu hu=>h1 u (U9 hu))
  refine .of ax (ag.dc V) ?_;rw[al];exact h _ ag.ab ag.size aw
theorem ai.mono {f:FuncId} {K U:y0->x2->Prop} (h:ai P f args w K) (V:∀v w',cY w w'->K v w'->U v w'):ai P f args w U:=by
 cases h with
 |code h1 J=>exact .code h1 (J.mono λ_ w' ⟨v,h1,W,J⟩=>⟨v,h1,W,V v w' W J⟩)
 |ext v w' h1 J X=>exact .ext v w' h1 J (V v w' J X)
theorem gu.mono {f:FuncId} {K U:y0->x2->Prop} (h:gu P f args w K) (V:∀v w',K v w'->U v w'):gu P f args w U:=by
 cases h with
 |code h1 J=>exact .code h1 (J.mono λ_ w' ⟨v,h1,J⟩=>⟨v,h1,V v w' J⟩)
 |ext v w' h1 W=>exact .ext v w' h1 (V v w' W)
end
end Go.Vc
namespace Go.Proofs.YthjegppepbbojaaGreatDoor
open Go Go.Vc Go.RowKit Go.Proofs Go.Proofs.Tryz
set_option maxRecDepth 100000
theorem an.u:x3.underlying an=σ (.int .i64):=Ψ
theorem an.i:aO x3 an 1 8 (Δ 0):=aO.of Ψ
theorem ac.u:x3.underlying ac=σ (.int .i64):=Ψ
theorem ac.i:aO x3 ac 1 8 (Δ 0):=aO.of Ψ
theorem ec.u:x3.underlying ec=σ .bool:=Ψ
theorem ec.i:aO x3 ec 1 1 (.bool false):=aO.of Ψ
theorem cq.u:x3.underlying cq=σ (.int .u8):=Ψ
theorem cq.i:aO x3 cq 1 1 (.int .u8 0):=aO.of Ψ
theorem c3.u:x3.underlying c3=σ .string:=Ψ
theorem c3.i:aO x3 c3 1 16 (.string ⟨#[]⟩):=aO.of Ψ
theorem cH.u:x3.underlying cH=σ (.slice cq):=Ψ
theorem et.u:x3.underlying et=σ (.pointer bF):=Ψ
theorem af.u:x3.underlying af=σ (.slice ac):=Ψ
theorem af.i:aO x3 af 1 24 (.slice ν 0 0):=aO.of Ψ
theorem cj.u:x3.underlying cj=σ (.slice af):=Ψ
theorem cj.i:aO x3 cj 1 24 (.slice ν 0 0):=aO.of Ψ
theorem e4.u:x3.underlying e4=σ (.slice ec):=Ψ
theorem e4.i:aO x3 e4 1 24 (.slice ν 0 0):=aO.of Ψ
theorem dH.u:x3.underlying dH=σ (.slice au):=Ψ
theorem dH.i:aO x3 dH 1 24 (.slice ν 0 0):=aO.of Ψ
theorem b8.u:x3.underlying b8=σ (.slice bT):=Ψ
theorem b8.i:aO x3 b8 1 24 (.slice ν 0 0):=aO.of Ψ
theorem eA.u:x3.underlying eA=σ (.slice bR):=Ψ
theorem eA.i:aO x3 eA 1 24 (.slice ν 0 0):=aO.of Ψ
theorem aD.p:bG x3 aD [(0,1),(1,1),(2,1),(3,1),(4,1),(5,1),(6,1),(7,1)]:=bG.of Ψ
theorem aD.i:aO x3 aD 8 160 (.agg #[(Δ 0),(.slice ν 0 0),(Δ 0),(.slice ν 0 0),(.slice ν 0 0),(.slice ν 0 0),(.slice ν 0 0),(.slice ν 0 0)]):=aO.of Ψ
theorem e5.i:aO x3 e5 1 8 (Δ 0):=aO.of Ψ
theorem nT.u:x3.underlying nT=σ (.slice aW):=Ψ
theorem rn.i:aO x3 rn 1 24 (.slice ν 0 0):=aO.of Ψ
theorem lL.u:x3.underlying lL=σ (.slice lN):=Ψ
theorem aW.p:bG x3 aW [(0,1),(1,1),(2,1),(3,1),(4,1),(5,1),(6,1),(7,1),(8,1)]:=bG.of Ψ
theorem aW.i:aO x3 aW 9 120 (.agg #[(.int .u8 0),(Δ 0),(Δ 0),(Δ 0),(Δ 0),(.slice ν 0 0),(.slice ν 0 0),(.slice ν 0 0),(.bool false)]):=aO.of Ψ
theorem au.u:x3.underlying au=σ (.slice an):=Ψ
theorem au.i:aO x3 au 1 24 (.slice ν 0 0):=aO.of Ψ
theorem tY.u:x3.underlying tY=σ (.pointer cv):=Ψ
theorem tZ.u:x3.underlying tZ=σ (.pointer dx):=Ψ
theorem lM.u:x3.underlying lM=σ (.pointer fg):=Ψ
theorem cg.u:x3.underlying cg=σ (.slice aX):=Ψ
theorem cg.i:aO x3 cg 1 24 (.slice ν 0 0):=aO.of Ψ
theorem dw.p:bG x3 dw [(0,1),(1,1),(2,1),(3,1),(4,1)]:=bG.of Ψ
theorem dw.i:aO x3 dw 5 88 (.agg #[(Δ 0),(.slice ν 0 0),(Δ 0),(.slice ν 0 0),(.slice ν 0 0)]):=aO.of Ψ
theorem eH.u:x3.underlying eH=σ (.int .u64):=Ψ
theorem eH.i:aO x3 eH 1 8 (.int .u64 0):=aO.of Ψ
theorem aX.p:bG x3 aX [(0,1),(1,1),(2,1)]:=bG.of Ψ
theorem aX.i:aO x3 aX 3 72 (.agg #[(.slice ν 0 0),(.slice ν 0 0),(.slice ν 0 0)]):=aO.of Ψ
theorem bT.p:bG x3 bT [(0,3),(3,1)]:=bG.of Ψ
theorem bT.i:aO x3 bT 4 80 (.agg #[(.slice ν 0 0),(.slice ν 0 0),(.slice ν 0 0),(.bool false)]):=aO.of Ψ
theorem dO.p:bG x3 dO [(0,1),(1,1),(2,1)]:=bG.of Ψ
theorem dO.i:aO x3 dO 3 56 (.agg #[(.slice ν 0 0),(Δ 0),(.slice ν 0 0)]):=aO.of Ψ
theorem eB.u:x3.underlying eB=σ (.pointer cT):=Ψ
theorem eB.i:aO x3 eB 1 8 (.pointer ν):=aO.of Ψ
theorem bR.p:bG x3 bR [(0,1),(1,1),(2,1)]:=bG.of Ψ
theorem bR.i:aO x3 bR 3 56 (.agg #[(Δ 0),(.slice ν 0 0),(.slice ν 0 0)]):=aO.of Ψ
theorem bW.p:bG x3 bW [(0,1),(1,1),(2,1)]:=bG.of Ψ
theorem bW.i:aO x3 bW 3 56 (.agg #[(Δ 0),(.slice ν 0 0),(.slice ν 0 0)]):=aO.of Ψ
theorem j8.u:x3.underlying j8=σ (.pointer cQ):=Ψ
theorem ed.u:x3.underlying ed=σ (.slice cL):=Ψ
theorem ed.i:aO x3 ed 1 24 (.slice ν 0 0):=aO.of Ψ
theorem gb.u:x3.underlying gb=σ (.slice bW):=Ψ
theorem gb.i:aO x3 gb 1 24 (.slice ν 0 0):=aO.of Ψ
theorem bF.p:bG x3 bF [(0,1),(1,1),(2,1),(3,1),(4,1)]:=bG.of Ψ
theorem cc.p:bG x3 cc [(0,1),(1,1)]:=bG.of Ψ
theorem cc.i:aO x3 cc 2 16 (.agg #[(.int .u64 0),(Δ 0)]):=aO.of Ψ
theorem bx.p:bG x3 bx [(0,1)]:=bG.of Ψ
theorem bx.i:aO x3 bx 1 24 (.agg #[(.slice ν 0 0)]):=aO.of Ψ
theorem cL.p:bG x3 cL [(0,1),(1,1),(2,1)]:=bG.of Ψ
theorem cL.i:aO x3 cL 3 56 (.agg #[(.slice ν 0 0),(.slice ν 0 0),(Δ 0)]):=aO.of Ψ
theorem rp.u:x3.underlying rp=σ (.pointer hh):=Ψ
theorem eQ.p:bG x3 eQ [(0,1),(1,1),(2,1),(3,1)]:=bG.of Ψ
theorem gM.u:x3.underlying gM=σ (.slice iV):=Ψ
theorem gM.i:aO x3 gM 1 24 (.slice ν 0 0):=aO.of Ψ
theorem cd.p:bG x3 cd [(0,1),(1,4),(5,1),(6,1)]:=bG.of Ψ
theorem iz.u:x3.underlying iz=σ (.slice b9):=Ψ
theorem hZ.u:x3.underlying hZ=σ (.slice dU):=Ψ
theorem hZ.i:aO x3 hZ 1 24 (.slice ν 0 0):=aO.of Ψ
theorem b9.p:bG x3 b9 [(0,1),(1,1),(2,1),(3,1)]:=bG.of Ψ
theorem b9.i:aO x3 b9 4 80 (.agg #[(.slice ν 0 0),(.slice ν 0 0),(Δ 0),(.slice ν 0 0)]):=aO.of Ψ
theorem dB.u:x3.underlying dB=σ (.slice cw):=Ψ
theorem dB.i:aO x3 dB 1 24 (.slice ν 0 0):=aO.of Ψ
theorem cv.p:bG x3 cv [(0,1),(1,1),(2,1),(3,1)]:=bG.of Ψ
theorem eI.u:x3.underlying eI=σ (.pointer fh):=Ψ
theorem eI.i:aO x3 eI 1 8 (.pointer ν):=aO.of Ψ
theorem cw.p:bG x3 cw [(0,1),(1,1)]:=bG.of Ψ
theorem cw.i:aO x3 cw 2 32 (.agg #[(.slice ν 0 0),(.pointer ν)]):=aO.of Ψ
theorem e6.u:x3.underlying e6=σ (.slice ck):=Ψ
theorem e6.i:aO x3 e6 1 24 (.slice ν 0 0):=aO.of Ψ
theorem dq.u:x3.underlying dq=σ (.slice a1):=Ψ
theorem dq.i:aO x3 dq 1 24 (.slice ν 0 0):=aO.of Ψ
theorem bB.p:bG x3 bB [(0,1),(1,1),(2,1),(3,1),(4,1),(5,1),(6,1),(7,1),(8,1)]:=bG.of Ψ
theorem dx.p:bG x3 dx [(0,1),(1,1),(2,1),(3,1)]:=bG.of Ψ
theorem ck.p:bG x3 ck [(0,1),(1,1)]:=bG.of Ψ
theorem ck.i:aO x3 ck 2 24 (.agg #[(.string ⟨#[]⟩),(Δ 0)]):=aO.of Ψ
theorem dT.u:x3.underlying dT=σ (.slice cb):=Ψ
theorem dT.i:aO x3 dT 1 24 (.slice ν 0 0):=aO.of Ψ
theorem a1.p:bG x3 a1 [(0,1),(1,1),(2,1),(3,1)]:=bG.of Ψ
theorem a1.i:aO x3 a1 4 80 (.agg #[(.slice ν 0 0),(.slice ν 0 0),(Δ 0),(.slice ν 0 0)]):=aO.of Ψ
theorem ka.u:x3.underlying ka=σ (.slice gN):=Ψ
theorem ka.i:aO x3 ka 1 24 (.slice ν 0 0):=aO.of Ψ
theorem fg.p:bG x3 fg [(0,1),(1,1),(2,1),(3,1)]:=bG.of Ψ
theorem gN.p:bG x3 gN [(0,1),(1,1)]:=bG.of Ψ
theorem gN.i:aO x3 gN 2 32 (.agg #[(.slice ν 0 0),(.pointer ν)]):=aO.of Ψ
theorem nU.u:x3.underlying nU=σ (.int .u64):=Ψ
theorem lN.u:x3.underlying lN=σ (.int .u16):=Ψ
theorem lN.i:aO x3 lN 1 2 (.int .u16 0):=aO.of Ψ
theorem cT.p:bG x3 cT [(0,1),(1,1),(2,1)]:=bG.of Ψ
theorem dP.p:bG x3 dP [(0,1),(1,1)]:=bG.of Ψ
theorem dP.i:aO x3 dP 2 16 (.agg #[(Δ 0),(.int .u64 0)]):=aO.of Ψ
theorem gd.u:x3.underlying gd=σ (.slice dP):=Ψ
theorem gd.i:aO x3 gd 1 24 (.slice ν 0 0):=aO.of Ψ
theorem gO.u:x3.underlying gO=σ (.slice fx):=Ψ
theorem gO.i:aO x3 gO 1 24 (.slice ν 0 0):=aO.of Ψ
theorem h0.u:x3.underlying h0=σ (.slice dC):=Ψ
theorem h0.i:aO x3 h0 1 24 (.slice ν 0 0):=aO.of Ψ
theorem cQ.p:bG x3 cQ [(0,1),(1,1),(2,1),(3,1)]:=bG.of Ψ
theorem dC.p:bG x3 dC [(0,1),(1,1),(2,1)]:=bG.of Ψ
theorem dC.i:aO x3 dC 3 24 (.agg #[(Δ 0),(Δ 0),(.int .u64 0)]):=aO.of Ψ
theorem fx.p:bG x3 fx [(0,1),(1,2)]:=bG.of Ψ
theorem fx.i:aO x3 fx 3 24 (.agg #[(Δ 0),(Δ 0),(.int .u64 0)]):=aO.of Ψ
theorem hh.p:bG x3 hh [(0,1),(1,1),(2,1)]:=bG.of Ψ
theorem iV.p:bG x3 iV [(0,1),(1,1)]:=bG.of Ψ
theorem iV.i:aO x3 iV 2 48 (.agg #[(.slice ν 0 0),(.slice ν 0 0)]):=aO.of Ψ
theorem dU.p:bG x3 dU [(0,1),(1,1)]:=bG.of Ψ
theorem dU.i:aO x3 dU 2 32 (.agg #[(.slice ν 0 0),(Δ 0)]):=aO.of Ψ
theorem cb.p:bG x3 cb [(0,1),(1,1)]:=bG.of Ψ
theorem cb.i:aO x3 cb 2 32 (.agg #[(.slice ν 0 0),(Δ 0)]):=aO.of Ψ
theorem fJ.u:x3.underlying fJ=σ (.slice cU):=Ψ
theorem cU.p:bG x3 cU [(0,1),(1,1)]:=bG.of Ψ
theorem cU.i:aO x3 cU 2 32 (.agg #[(.slice ν 0 0),(.pointer ν)]):=aO.of Ψ
theorem h2.u:x3.underlying h2=σ (.map cz an):=Ψ
theorem fh.p:bG x3 fh [(0,1),(1,1),(2,1),(3,1)]:=bG.of Ψ
theorem nV.u:x3.underlying nV=σ (.slice fK):=Ψ
theorem fK.p:bG x3 fK [(0,1),(1,1)]:=bG.of Ψ
theorem fK.i:aO x3 fK 2 32 (.agg #[(.slice ν 0 0),(Δ 0)]):=aO.of Ψ
theorem nW.u:x3.underlying nW=σ (.int .u32):=Ψ
theorem gv.u:x3.underlying gv=σ (.map c3 ac):=Ψ
theorem fy.u:x3.underlying fy=σ (.int .i8):=Ψ
theorem fy.i:aO x3 fy 1 1 (.int .i8 0):=aO.of Ψ
theorem cz.u:x3.underlying cz=σ (.array 6 fy):=Ψ
theorem cz.i:aO x3 cz 6 6 (.agg #[(.int .i8 0),(.int .i8 0),(.int .i8 0),(.int .i8 0),(.int .i8 0),(.int .i8 0)]):=aO.of Ψ
theorem kb.u:x3.underlying kb=σ (.slice fy):=Ψ
theorem iA.u:x3.underlying iA=σ (.slice cz):=Ψ
theorem iA.i:aO x3 iA 1 24 (.slice ν 0 0):=aO.of Ψ
theorem rq.u:x3.underlying rq=σ (.array 64 cq):=Ψ
theorem kV.u:x3.underlying kV=σ (.map an ac):=Ψ
theorem lO.u:x3.underlying lO=σ (.array 24 cq):=Ψ
theorem lO.i:aO x3 lO 24 24 (.agg #[(.int .u8 0),(.int .u8 0),(.int .u8 0),(.int .u8 0),(.int .u8 0),(.int .u8 0),(.int .u8 0),(.int .u8 0),(.int .u8 0),(.int .u8 0),(.int .u8 0),(.int .u8 0),(.int .u8 0),(.int .u8 0),(.int .u8 0),(.int .u8 0),(.int .u8 0),(.int .u8 0),(.int .u8 0),(.int .u8 0),(.int .u8 0),(.int .u8 0),(.int .u8 0),(.int .u8 0)]):=aO.of Ψ
theorem rr.u:x3.underlying rr=σ (.array 20 eH):=Ψ
end Go.Proofs.YthjegppepbbojaaGreatDoor
namespace Go.Vc
open Go Go.RowKit
def bS:y0->Int
 | .int _ i=>i
 |_=>0
theorem wrap_i64 {x:Int} (h1: -9223372036854775808<=x) (J:x<9223372036854775808):X2.wrap x=x:=by
 simp only[o6.wrap,o6.bits,o6.signed];simp;omega
theorem wrap_u8 {x:Int} (h1:0<=x) (J:x<256):o6.u8.wrap x=x:=by
 simp only[o6.wrap,o6.bits,o6.signed];simp;omega
theorem wrap_u16 {x:Int} (h1:0<=x) (J:x<65536):o6.u16.wrap x=x:=by
 simp only[o6.wrap,o6.bits,o6.signed];simp;omega
theorem Gy {x:Int} (h1: -128<=x) (J:x<128):o6.i8.wrap x=x:=by
 simp only[o6.wrap,o6.bits,o6.signed];simp;omega
theorem wrap_u64 {x:Int} (h1:0<=x) (J:x<18446744073709551616):T0.wrap x=x:=by
 simp only[o6.wrap,o6.bits,o6.signed];simp;omega
abbrev ints (k:o6) (l:Λ):List y0:=l.map (U1 k)
theorem ps (k:o6) (l:Λ):∀u∈ints k l,u.oneCell'=true:=by
 intro u hu;obtain⟨x,_,rfl⟩:=Z6.1 hu;rfl
theorem ke {i:Nat} {x:Int} (h:l[i]? =σ x):(ints k l)[i]? =σ (.int k x):=by simp[ints,h]
theorem uc {α:Type} {a b:List α} {i:Nat} {x y:α} (h:a.take i=b.take i) (J:a[i]? =σ x) (U:b[i]? =σ y) (V:x=y):a.take (i+1)=b.take (i+1):=by
 rw[r9,r9,h,J,U,V]
theorem dv {J:x2->Prop} {B:(x2->Prop)->Prop} (G:x2->Prop) (h1:∀w,G w->J w) (V:∀U:x2->Prop,(∀w,G w->U w)->B U):bJ J B:=V J h1
theorem aR {J:y0->x2->Prop} {B:(y0->x2->Prop)->Prop} (G:y0->x2->Prop) (h1:∀v w,G v w->J v w)
  (V:∀U:y0->x2->Prop,(∀v w,G v w->U v w)->B U):bJ J B:=V J h1
theorem iy {J:y0->y0->x2->Prop} {B:(y0->y0->x2->Prop)->Prop} (G:y0->y0->x2->Prop) (h1:∀u v w,G u v w->J u v w)
  (V:∀U:y0->y0->x2->Prop,(∀u v w,G u v w->U u v w)->B U):bJ J B:=V J h1
theorem ai.calls {P:V2} {f:FuncId} {K:y0->x2->Prop} (h:ai P f args w K) (J:Enters P f):Calls P f args.toArray w λe w'=>∃v,e= .returned v/\cY w w'/\K v w':=by
 cases h with
 |code _ h=>exact h
 |ext v w' h1=>rw[J] at h1;cases h1
theorem Gz (W:Ext w w') (U:cY w w'):Below w.heap.size w w':=
 ⟨U.os,U.tape.1,U.output,W.size,λk hk=>by
  have V:w.heap[k]? =σ w.heap[k]:=Array.getElem?_eq_getElem hk;rw[V];cases J:fw w.heap[k] with
  |true=>exact W.bc k _ V J
  |false=>exact U.bc k _ V J⟩
theorem ud {x:Addr} (h:w.cell? x=σ v):x=⟨x.block,x.off,ν⟩:=by
 obtain⟨b,o,s⟩:=x;cases s with
 |none=>rfl
 |some s=>
  unfold x2.cell? at h;split at h<;>simp at h
theorem GA {a:Option Addr} {len cap:Nat} {J:Λ}
  (h:(a=ν/\len=0/\cap=0/\J=[])\/
   ∃x,a=σ x/\len<=cap/\cap<=maxLen/\J.length=cap/\(∀i,i<J.length->w.cell? (x.add i)=σ (.int k (J.getD i 0)))/\ ∀n∈J,(Lit.int k n).wf=true):
  b6 w 1 (.slice a len cap) len (ints k (J.take len))/\ ∀n∈J.take len,k.min<=n/\n<=k.max:=by
 rcases h with⟨rfl,rfl,rfl,rfl⟩|⟨x,rfl,h1,X,Y,U,aa⟩
 .exact⟨b6.nil _ _,Ξ⟩
 .refine⟨⟨by simp[Y,h1],x.block,x.off,σ x,cap,rfl,h1,X,λae=>?_,λj v V=>?_⟩,λn ab=>?_⟩
  .have:=U 0 Ω;exact congrArg σ (ud this)
  .have ac:=(x4.1 V).1;rw[u5,o5] at ac;have ad:x=⟨x.block,x.off,ν⟩:=ud (v:=.int k (J.getD 0 0)) (U 0 Ω);have W:=U j Ω;rw[ad,T3] at W;rw[W,<-V,ints,u4,Y7 Ω,u9,x6 Ω];rfl
  .have:=aa n (U9 ab);simpa[Lit.wf] using this
def aH (k:o6) (w:x2) (v:y0) (l:Λ):Prop:=b6 w 1 v l.length (ints k l)
def ao (k:o6) (e:o4) (w:x2) (g:Nat) (v:y0) (l:Λ):Prop:=b1 w g e 1 v l.length (ints k l)
theorem aH.ext (h:aH k w v l) (J:Ext w w'):aH k w' v l:=b6.ext h J
theorem ao.ext {g:Nat} (h:ao k e w g v l) (J:Ext w w'):ao k e w' g v l:=b1.ext h J
theorem ao.ab {g:Nat} (h:ao k e w g v l) (J:ae S w w') (U:g<w.heap.size->¬S g):ao k e w' g v l:=b1.ab h J U
theorem ao.ls {g:Nat} (h:ao k e w g v l):aH k w v l:=b1.sl h
theorem aH.of (h:b6 w 1 v n (ints k l)):aH k w v l:=by
 have:l.length=n:=by simpa using h.1
 unfold aH;rw[this];exact h
theorem ao.of {g:Nat} (h:b1 w g e 1 v n (ints k l)):ao k e w g v l:=by
 have:l.length=n:=by simpa using h.1
 unfold ao;rw[this];exact h
theorem aH.le (h:aH k w v l):l.length<=9223372036854775807:=by
 have:=b6.le h;simpa[maxLen] using this
theorem aH.cells (h:aH k w v l):v.cells= #[v]/\v.oneCell'=true:=by
 obtain⟨_,_,_,_,_,rfl,_⟩:=h;exact⟨rfl,rfl⟩
theorem ao.nil (k:o6) (e:o4) (w:x2) (g:Nat):ao k e w g (.slice ν 0 0) []:=b1.nil w g e 1
section
variable {P:V2} {w:x2}
theorem aU {J:o4} (V:P.underlying t=σ (.slice e)) (h:aH k w v l):
  U P (X0 #[t] J #[v]) w K=K (Δ l.length):=by
 obtain⟨_,_,_,_,_,rfl,_⟩:=h;exact gP V
theorem bf {V:o6} {b:Nat} {i:Nat} {x:Int} (W:P.underlying t=σ (.slice e)) (hi:aO P e 1 b z) (h1:kd P e=true)
  (h:aH k w v l) (J:l[i]? =σ x):U P (l7 t v (.int V (i:Int))) w (λp=>U P (x7 e p) w K)=K (.int k x):=by
 have X:=(x4.1 J).1;obtain⟨_,_,_,_,_,rfl,_,_,Y,aa⟩:=h;rw[fz W hi X Y,S2,aS h1 (aa i _ (ke J))]
theorem dY {J:o6} {b:Nat} {i:Nat} {x:Int} (V:y=(i:Int)) (W:P.underlying t=σ (.slice e)) (hi:aO P e 1 b z) (h1:kd P e=true)
  (h:aH k w v l) (X:l[i]? =σ x):U P (l7 t v (.int J y)) w (λp=>U P (x7 e p) w K)=K (.int k x):=by
 subst V;exact bf W hi h1 h X
theorem h6 {b g:Nat} {x:y0} {m:Λ} {K:y0->x2->Prop} (V:P.underlying t=σ (.slice e)) (hi:aO P e 1 b z) (X:z.cells.size=1)
  (h:ao k e w g v l) (Y:aH k w x m) (aa:(l.length+m.length)*b<=140737488355328) (ab:l.length+m.length<=9223372036854775807)
  (ac:∀U J w',(J=g\/w.heap.size<=J)->ao k e w' J U (l++m)->ae (λr=>r=g) w w'->K U w'):ay P (j4 #[t,t] W #[v,x]) w K:=
 mG V V hi X h Y (ps _ _) aa (by simpa[maxLen] using ab) λU J w' h1 ad af=>ac U J w' h1 (ao.of (by rw[ints,j9];exact ad)) af
theorem dJ {b:Nat} {x:Int} {K:y0->x2->Prop} (V:P.underlying t=σ (.slice e)) (hi:aO P e 1 b z) (aa:z.cells.size=1)
  (h:∀v g w',g=w.heap.size->Ext w w'->ao k e w' g v [x]->K v w'):ay P (Y1 t 1 #[(0,.int k x)]) w K:=
 iX V hi Ω (cs:=#[.int k x]) (by
   have J:∀ (a:Array y0),a.size=1->a.setIfInBounds 0 (.int k x)= #[.int k x]:=λa U=>by
    apply Array.ext
    .simp[U]
    .intro i h1 ab;have:i=0:=by simp[U] at h1;exact h1
     subst this;simp
   simp only[Instr.fill,y0.cells,List.zipIdx];simp;exact J _ Ξ) λg w' W X Y=>h _ g w' W X (ao.of (n:=1) (b1.full Y rfl (by simp[maxLen])))
theorem ai.free {f:FuncId} {K:y0->x2->Prop} (h:ai P f args w K):gu P f args w λv w'=>cY w w'/\K v w':=by
 cases h with
 |code h1 J=>exact .code h1 (J.mono λ_ w' ⟨v,h1,U,J⟩=>⟨v,h1,U,J⟩)
 |ext v w' h1 J V=>exact .ext v w' h1 ⟨J,V⟩
theorem bu {a:Addr}:U P (bd (.pointer (σ a))) w K=K (.pointer (σ a)):=U.of λ_ _=>by
 simp[bd,qK,execOp]
theorem av {u:o4} {pl:List (Nat×Nat)} {b off z:Nat} {K:y0->y0->Prop} (W:bG P t pl) (i:Nat) (X:ad w b e cs) (J:cs[(pl[i]?.getD (0,0)).1]? =σ v) (V:pl[i]? =σ (off,z+1):=by rfl) (Y:kd P u=true:=by kernel_rfl):
  U P (x8 t (Γ b) i) w (λx=>U P (x7 u x) w (K x))=K (.pointer (σ ⟨b,0+off,ν⟩)) v:=by
 rw[V] at J;rw[aM W V,aS Y (X.cell (by rw[V8];exact J))]
theorem aK {u:o4} {pl:List (Nat×Nat)} {b off z:Nat} {K:y0->y0->y0->Prop} (J:bG P t pl) (i:Nat) (V:ad w b e cs) (W:cs[(pl[i]?.getD (0,0)).1]? =σ v) (X:pl[i]? =σ (off,z+1):=by rfl) (Y:kd P u=true:=by kernel_rfl):
  U P (bd (Γ b)) w (λy=>U P (x8 t y i) w (λx=>U P (x7 u x) w (K y x)))=K (Γ b) (.pointer (σ ⟨b,0+off,ν⟩)) v:=by
 rw[bu,av J i V W X Y]
theorem yA {J U:o6} {k:Nat} {K:y0->x2->Prop} (X:P.underlying t=σ (.slice e)) (hi:aO P e k V z) (ae:n*V<=281474976710656) (af:n<=9223372036854775807)
  (h:∀g w',g=w.heap.size->Ext w w'->ad w' g e (dI z.cells (n*k))->K (.slice (σ ⟨g,0,ν⟩) n n) w'):ay P (Instr.makeSlice t (.int J (n:Int)) (.int U (n:Int))) w K:=by
 obtain⟨i,hi,rfl,rfl,Y⟩:=hi;have aa:(i.bytes:Int)*(n:Int)<=281474976710656:=by
  rw[Int.mul_comm];have h:((n*i.bytes:Nat):Int)<=281474976710656:=Ω
  rwa [Int.natCast_mul] at h
 have W:=run_make (P:=P) w t e i z X hi Y J U n n Ω (Int.le_refl _) aa Ω;have hm:madeCells z.cells ((n:Int).toNat*i.size)=(dI z.cells (n*i.size)).toArray:=by rw[dI,Array.toArray_toList];rfl
 rw[hm] at W;obtain⟨h1,ab,ac⟩:=ry w (dI z.cells (n*i.size)) e;exact .of W ac (h _ _ rfl ab h1)
theorem GB (v:y0) (n:Nat):dI #[v] n=o8 n v:=by
 apply List.ext_getElem
 .simp[dI]
 .intro i h1 J;simp[dI,Nat.mod_one]
theorem jx {U V:o6} {K:y0->x2->Prop} (W:P.underlying t=σ (.slice e)) (hi:aO P e 1 J (.int k 0)) (X:n*J<=281474976710656) (Y:n<=9223372036854775807)
  (h:∀g w',g=w.heap.size->Ext w w'->ad w' g e (ints k (o8 n 0))->K (.slice (σ ⟨g,0,ν⟩) n n) w'):ay P (Instr.makeSlice t (.int U (n:Int)) (.int V (n:Int))) w K:=
 yA W hi X Y λg w' aa ab ac=>h g w' aa ab (by
  have e:dI (U1 k 0).cells (n*1)=ints k (o8 n 0):=by rw[S2];show dI #[_] n=_;rw[GB];simp[ints]
  rw[<-e];exact ac)
theorem eZ {pl:List (Nat×Nat)} {b k:Nat} (hu:bG P t pl) (hi:aO P t k J z) (V:cs.length=k)
  (h:w.rangeAt b o cs):U P (do loadVar t (<-asAddr (.pointer (σ ⟨b,o,ν⟩)))) w K=K (.agg cs.toArray):=U.of λw' W=>by
 obtain⟨X,hu,_⟩:=hu;have:=run_loadVar_mid (P:=P) w' b o t cs (.struct X) (nX W h) hu rfl (by rw[hi.size,V]);simp only[asAddr,W9,V7,Result.andThen_ok,this]
theorem GC (h:vs.length=cs.length):over cs 0 vs=vs:=by
 rw[lP Ω];simp[h]
theorem bK {k U g:Nat} {K:Unit->x2->Prop} (hi:aO P t k U z) (V:vs.length=k) (aa:cs.length=k) (W:∀v∈vs,v.oneCell'=true) (X:ad w g e cs)
  (h:∀w',ae (λr=>r=g) w w'->w'.heap.size=w.heap.size->ad w' g e vs->K () w'):ay P (o7 t (Γ g) (.agg vs.toArray)) w K:=
 yx hi V W X Ω λw' h1 Y J=>h w' h1 Y (by rw[GC Ω] at J;exact J)
end
section
variable {P:V2} {w w' aa:x2} {t:o4} {cx cy:Bool} {k:o6} {a b:Int} {A B:Prop} {x y z:y0} {K:y0->Prop}
theorem bL:U P (Y0 (.tuple #[x,y]) 0) w K=K x:=h3 rfl
theorem bM:U P (Y0 (.tuple #[x,y]) 1) w K=K y:=h3 rfl
theorem hj:U P (Y0 (.tuple #[x,y,z]) 0) w K=K x:=h3 rfl
theorem hl:U P (Y0 (.tuple #[x,y,z]) 1) w K=K y:=h3 rfl
theorem hn:U P (Y0 (.tuple #[x,y,z]) 2) w K=K z:=h3 rfl
theorem bk (h:a<b) (J:A):U P (aA .lss t cx cy (.int k a) (.int k b)) w λv=>Split v A B:=by
 rw[aQ,ak];exact⟨λ_=>J,λV=>absurd h V⟩
theorem b2 (h:¬a<b) (J:B):U P (aA .lss t cx cy (.int k a) (.int k b)) w λv=>Split v A B:=by
 rw[aQ,ak];exact⟨λV=>absurd V h,λ_=>J⟩
theorem Ext.put {g:Nat} (J:Ext w w') (U:ae (λr=>r=g) w' aa) (h:w.heap.size<=g):Ext w aa:=J.then U λr V he=>by
 have he:r=g:=he;omega
theorem aN {α:Type} {l:List α} {i:Nat} (h:i<l.length):∃x,l[i]? =σ x:=⟨_,x6 h⟩
end
abbrev ah:=Nat->Prop
def hD (S:ah) (w:x2) (k:Nat) (v:y0) (n:Nat) (cs:List y0):Prop:=
 cs.length=n*k/\ ∃b o base cap,v= .slice base n cap/\n<=cap/\cap<=maxLen/\(0<n->base=σ ⟨b,o,ν⟩)/\(0<cs.length->S b)/\w.rangeAt b o cs
theorem hD.sl {S:ah} {k:Nat} (h:hD S w k v n cs):b6 w k v n cs:=by
 obtain⟨h1,b,o,base,cap,J,U,V,W,_,X⟩:=h;exact⟨h1,b,o,base,cap,J,U,V,W,X⟩
theorem yB {b:Nat} (h:w.rangeAt b o cs) (J:0<cs.length):b<w.heap.size:=by
 have:=h 0 cs[0] (x6 J);obtain⟨c,e,f,U,_⟩:=ua this;exact (Z1.1 U).1
theorem hD.ab {S T:ah} {k:Nat} (h:hD S w k v n cs) (W:ae T w w') (X:∀r,r<w.heap.size->S r->¬T r):hD S w' k v n cs:=by
 obtain⟨h1,b,o,base,cap,Y,aa,ac,ad,U,V⟩:=h;refine⟨h1,b,o,base,cap,Y,aa,ac,ad,U,?_⟩;rcases Nat.eq_zero_or_pos cs.length with J|J
 .intro j v af;have:=(x4.1 af).1;omega
 .exact nY W (X b (yB V J) (U J)) V
theorem hD.mono {S T:ah} {k:Nat} (h:hD S w k v n cs) (V:∀r,r<w.heap.size->S r->T r):hD T w k v n cs:=by
 obtain⟨h1,b,o,base,cap,W,X,Y,aa,ab,J⟩:=h;exact⟨h1,b,o,base,cap,W,X,Y,aa,λU=>V b (yB J U) (ab U),J⟩
class al (α:Type) where
 n:Nat
 rep:Bool->ah->ah->x2->List y0->α->Prop
 len:∀ {m S R w cs a},rep m S R w cs a->cs.length=n
 one:∀ {m S R w cs a},rep m S R w cs a-> ∀u∈cs,u.oneCell'=true
 ab:∀ {m S R T w w' cs a},rep m S R w cs a->ae T w w'->(∀r,r<w.heap.size->S r\/R r->¬T r)->rep m S R w' cs a
 mono:∀ {m S S' R R' w cs a},rep m S R w cs a->(∀r,r<w.heap.size->S r->S' r)->(∀r,r<w.heap.size->R r->R' r)->rep m S' R' w cs a
 hf:∀ {m S R w cs a},rep m S R w cs a->rep false (λ_=>False) (λr=>S r\/R r) w cs a
section
variable {α β:Type} [al α] [al β] {m:Bool} {S R T:ah} {w w':x2}
abbrev bi (S R:ah) (w:x2) (cs:List y0) (a:α):Prop:=al.rep true S R w cs a
abbrev Seen (R:ah) (w:x2) (cs:List y0) (a:α):Prop:=al.rep false (λ_=>False) R w cs a
abbrev dr:ah:=λ_=>True
theorem a7 {a:α} (h:al.rep m S R w cs a) (J:Ext w w'):al.rep m S R w' cs a:=al.ab h (J.ab λ_=>False) λ_ _ _ h=>h
theorem k1 {a:α} (h:al.rep m S R w cs a):al.rep m (λr=>S r/\r<w.heap.size) R w cs a:=al.mono h (λ_ h1 J=>⟨J,h1⟩) λ_ _ h=>h
theorem gQ {a:α} (h:al.rep m S R w cs a):Seen dr w cs a:=al.mono (al.hf h) (λ_ _ h=>h.elim) λ_ _ _=>trivial
theorem lQ {a:α} {Q:ah} (h:al.rep m S R w cs a) (J:∀r,r<w.heap.size->S r\/R r->Q r):Seen Q w cs a:=al.mono (al.hf h) (λ_ _ h=>h.elim) J
instance:al Int where
 n:=1
 rep _ _ _ _ cs a:=cs=[Δ a]
 len h:=by subst h;rfl
 one h:=by subst h;intro u hu;simp at hu;subst hu;rfl
 ab h _ _:=h
 mono h _ _:=h
 hf h:=h
instance:al Bool where
 n:=1
 rep _ _ _ _ cs a:=cs=[.bool a]
 len h:=by subst h;rfl
 one h:=by subst h;intro u hu;simp at hu;subst hu;rfl
 ab h _ _:=h
 mono h _ _:=h
 hf h:=h
instance:al ByteArray where
 n:=1
 rep _ _ _ _ cs a:=cs=[.string a]
 len h:=by subst h;rfl
 one h:=by subst h;intro u hu;simp at hu;subst hu;rfl
 ab h _ _:=h
 mono h _ _:=h
 hf h:=h
def eR (_:o6):Type:=Int
instance (k:o6):al (eR k) where
 n:=1
 rep _ _ _ _ cs a:=cs=[.int k a]
 len h:=by subst h;rfl
 one h:=by subst h;intro u hu;simp at hu;subst hu;rfl
 ab h _ _:=h
 mono h _ _:=h
 hf h:=h
def Rd (α:Type):Type:=α
instance Of:al (Rd α) where
 n:=al.n α
 rep _ _ R w cs a:=al.rep (α:=α) false (λ_=>False) R w cs a
 len h:=al.len (α:=α) h
 one h:=al.one (α:=α) h
 ab h J U:=al.ab (α:=α) h J λr V h=>U r V (.inr (h.elim False.elim id))
 mono h _ W:=al.mono (α:=α) h (λ_ _ h=>h) W
 hf h:=al.mono (α:=α) h (λ_ _ h=>h) λ_ _ h=>.inr h
instance Og:al (α×β) where
 n:=al.n α+al.n β
 rep m S R w cs a:=∃c d A B,cs=c++d/\(∀r,A r->S r)/\(∀r,B r->S r)/\(m=true-> ∀r,A r->¬B r)/\al.rep m A R w c a.1/\al.rep m B R w d a.2
 len:=by
  rintro m S R w cs a ⟨c,d,A,B,rfl,_,_,_,h1,J⟩;simp[al.len h1,al.len J]
 one:=by
  rintro m S R w cs a ⟨c,d,A,B,rfl,_,_,_,h1,J⟩ u hu;rcases l5.1 hu with hu|hu
  .exact al.one h1 u hu
  .exact al.one J u hu
 ab:=by
  rintro m S R T w w' cs a ⟨c,d,A,B,rfl,V,W,Y,h1,J⟩ aa X;exact⟨c,d,A,B,rfl,V,W,Y,al.ab h1 aa λr U h=>X r U (h.imp (V r) id),al.ab J aa λr U h=>X r U (h.imp (W r) id)⟩
 mono:=by
  rintro m S S' R R' w cs a ⟨c,d,A,B,rfl,V,W,Y,h1,J⟩ X ac;exact⟨c,d,λr=>A r/\r<w.heap.size,λr=>B r/\r<w.heap.size,rfl,λr h=>X r h.2 (V r h.1),λr h=>X r h.2 (W r h.1),λhm r h k=>Y hm r h.1 k.1,
   al.mono h1 (λr U h=>⟨h,U⟩) ac,al.mono J (λr U h=>⟨h,U⟩) ac⟩
 hf:=by
  rintro m S R w cs a ⟨c,d,A,B,rfl,V,W,Y,h1,J⟩;exact⟨c,d,λ_=>False,λ_=>False,rfl,λ_ h=>h.elim,λ_ h=>h.elim,(λh=>by cases h),al.mono (al.hf h1) (λ_ _ h=>h) λr _ h=>h.imp (V r) id,
   al.mono (al.hf J) (λ_ _ h=>h) λr _ h=>h.imp (W r) id⟩
def k2 (m:Bool) (R:ah) (F:Nat->ah) (w:x2) (vs:List (List y0)) (l:List α):Prop:=
 vs.length=l.length/\ ∀ (i:Nat) (c:List y0) (a:α),vs[i]? =σ c->l[i]? =σ a->al.rep m (F i) R w c a
structure yC (m:Bool) (S:ah) (g:Nat) (F:Nat->ah):Prop where
 sub:∀i r,F i r->S r
 top:m=true-> ∀i,¬F i g
 ho:m=true-> ∀i j r,i≠j->F i r->¬F j r
theorem k2.len {F:Nat->ah} {vs:List (List y0)} {l:List α} (h:k2 m R F w vs l):∀c∈vs,c.length=al.n α:=by
 intro c J;obtain⟨i,hi,rfl⟩:=List.mem_iff_getElem.1 J;exact al.len (h.2 i _ _ (x6 hi) (x6 (h.1▸hi)))
theorem k2.one {F:Nat->ah} {vs:List (List y0)} {l:List α} (h:k2 m R F w vs l):∀u∈vs.flatten,u.oneCell'=true:=by
 intro u hu;obtain⟨c,J,hu⟩:=List.mem_flatten.1 hu;obtain⟨i,hi,rfl⟩:=List.mem_iff_getElem.1 J;exact al.one (h.2 i _ _ (x6 hi) (x6 (h.1▸hi))) u hu
theorem jy {k:Nat}:∀ {vs:List (List y0)},(∀c∈vs,c.length=k)->vs.flatten.length=vs.length*k
 |[],_=>Ξ
 |c::r,h=>by
  have:=jy (vs:=r) λx J=>h x (.tail _ J);simp only[List.flatten_cons,r8,this,h c (.head _),Z5,U7];omega
theorem mH {k:Nat}:∀ {vs:List (List y0)},(∀c∈vs,c.length=k)-> ∀ {i j:Nat} {c:List y0},vs[i]? =σ c->j<k->vs.flatten[i*k+j]? =c[j]?
 |c0::r,h,0,j,c,J,U=>by
  simp only[List.getElem?_cons_zero,Y8] at J;subst J;rw[List.flatten_cons,Y3 (by rw[h _ (.head _)];omega)];simp
 |c0::r,h,i+1,j,c,J,U=>by
  simp only[List.getElem?_cons_succ] at J;have V:=h c0 (.head _);rw[List.flatten_cons,Y5 (by rw[V,U7];omega),V,U7,show i*k+1*k+j-k=i*k+j by omega];exact mH (λx W=>h x (.tail _ W)) J U
 |[],_,i,_,c,J,_=>by simp at J
instance instList:al (List α) where
 n:=1
 rep m S R w cs l:=∃v,cs=[v]/\ ∃ (vs:List (List y0)) (g:Nat) (F:Nat->ah),yC m S g F/\k2 m R F w vs l/\hD (λr=>S r\/R r) w (al.n α) v l.length vs.flatten/\
  (m=true->(v= .slice ν 0 0\/S g)/\ ∃e,b1 w g e (al.n α) v l.length vs.flatten)
 len:=by rintro m S R w cs a ⟨v,rfl,_⟩;rfl
 one:=by
  rintro m S R w cs a ⟨v,rfl,vs,g,F,_,_,⟨_,_,_,_,_,rfl,_⟩,_⟩ u hu;simp at hu;subst hu;rfl
 ab:=by
  rintro m S R T w w' cs a ⟨v,rfl,vs,g,F,V,he,J,hm⟩ ad X;refine⟨v,rfl,vs,g,F,V,⟨he.1,λi c a aa ac=>al.ab (he.2 i c a aa ac) ad λr W h=>X r W (h.imp (V.sub i r) id)⟩,J.ab ad X,λh=>?_⟩;obtain⟨h1,e,U⟩:=hm h;refine⟨h1,e,?_⟩;rcases h1 with rfl|h1
  .obtain⟨af,⟨_,Y⟩|⟨_,_,Y,_⟩⟩:=U
   .exact⟨af,.inl ⟨rfl,Y⟩⟩
   .cases Y
  .exact U.ab ad λW=>X g W (.inl h1)
 mono:=by
  rintro m S S' R R' w cs a ⟨v,rfl,vs,g,F,V,he,J,hm⟩ X ae;refine⟨v,rfl,vs,g,λi r=>F i r/\r<w.heap.size,⟨λi r h=>X r h.2 (V.sub i r h.1),λh i U=>V.top h i U.1,λh i j r ag h1 U=>V.ho h i j r ag h1.1 U.1⟩,
   ⟨he.1,λi c a aa ac=>al.mono (he.2 i c a aa ac) (λr W h=>⟨h,W⟩) ae⟩,J.mono λr W h=>h.imp (X r W) (ae r W),λh=>?_⟩
  obtain⟨h1,e,U⟩:=hm h;refine⟨?_,e,U⟩;obtain⟨_,⟨Y,_⟩|⟨_,_,Y,ai,_⟩⟩:=U
  .exact .inl Y
  .rcases h1 with h1|h1
   .exact .inl h1
   .exact .inr (X g ai.lt h1)
 hf:=by
  rintro m S R w cs a ⟨v,rfl,vs,g,F,V,he,J,hm⟩;exact⟨v,rfl,vs,g,λ_ _=>False,⟨λ_ _ h=>h,(λh=>by cases h),λh=>by cases h⟩,
   ⟨he.1,λi c a aa ac=>al.mono (al.hf (he.2 i c a aa ac)) (λ_ _ h=>h) λr _ h=>h.imp (V.sub i r) id⟩,J.mono λr _ h=>.inr h,λh=>by cases h⟩
end
section
variable {P:V2} {w:x2} {α β:Type} [al α] [al β] {m:Bool} {S R:ah}
theorem gw {l:List α} (h:al.rep m S R w [v] l):∃ (vs:List (List y0)) (g:Nat) (F:Nat->ah),yC m S g F/\k2 m R F w vs l/\hD (λr=>S r\/R r) w (al.n α) v l.length vs.flatten/\
  (m=true->(v= .slice ν 0 0\/S g)/\ ∃e,b1 w g e (al.n α) v l.length vs.flatten):=by
 obtain⟨_,J,h⟩:=h;cases J;exact h
theorem e7 {a:α} (h:al.rep m S R w [v] a):v.oneCell'=true:=al.one h v (.head _)
theorem kf {l:List α} (h:al.rep m S R w [v] l):v.cells= #[v]:=by
 obtain⟨_,_,_,_,_,⟨_,_,_,_,_,rfl,_⟩,_⟩:=gw h;rfl
theorem lR {l:List α} (h:al.rep m S R w [v] l):l.length<=9223372036854775807:=by
 obtain⟨_,_,_,_,_,h,_⟩:=gw h;have:=h.sl.le;simpa[maxLen] using this
theorem fN:al.rep m S R w [.slice ν 0 0] ([]:List α):=
 ⟨_,rfl,[],0,λ_ _=>False,⟨λ_ _ h=>h.elim,λ_ _ h=>h,λ_ _ _ _ _ h=>h.elim⟩,⟨rfl,λi c a J=>by simp at J⟩,
  ⟨Ξ,0,0,ν,0,rfl,n9 _,X7 _,λh=>absurd h (Nat.lt_irrefl _),λh=>by simp at h,λj v h=>by simp at h⟩,
  λ_=>⟨.inl rfl,0,b1.nil w 0 0 _⟩⟩
theorem yD {F:Nat->ah} {vs:List (List y0)} (h:k2 m R F w vs l):vs.flatten=ints .i64 l:=by
 have:vs=l.map λx=>[U1 .i64 x]:=by
  apply List.ext_getElem
  .simp[h.1]
  .intro i h1 J;have U:i<l.length:=by simpa using J
   have:=h.2 i _ _ (x6 h1) (x6 U);rw[List.getElem_map];exact this
 subst this;clear h;induction l with
 |nil=>rfl
 |cons x l V=>simp only[T2,List.flatten_cons,V];rfl
theorem c4 (h:al.rep m S R w [v] l):aH .i64 w v l:=by
 obtain⟨vs,g,F,_,he,J,_⟩:=gw h;have:=J.sl;rw[yD he] at this;exact this
theorem eh {J:o4} {l:List α} (V:P.underlying t=σ (.slice e)) (h:al.rep m S R w [v] l):
  U P (X0 #[t] J #[v]) w K=K (Δ l.length):=by
 obtain⟨_,_,_,_,_,⟨_,_,_,_,_,rfl,_⟩,_⟩:=gw h;exact gP V
theorem iY {Y:o6} {i b:Nat} {l:List α} {a:α} (aa:y=(i:Int)) (ab:P.underlying t=σ (.slice e)) (hi:aO P e (al.n α) b z)
  (h:al.rep m S R w [v] l) (J:l[i]? =σ a) (ac:∀b o cs,w.rangeAt b o cs->al.rep m S R w cs a->K (.pointer (σ ⟨b,o,ν⟩))):U P (l7 t v (.int Y y)) w K:=by
 subst aa;obtain⟨vs,g,F,ad,he,⟨_,b,o,base,cap,rfl,_,_,ae,_,af⟩,_⟩:=gw h;have V:=(x4.1 J).1;rw[fz ab hi V ae];obtain⟨c,W⟩:∃c,vs[i]? =σ c:=⟨_,x6 (by rw[he.1];exact V)⟩;have X:=he.2 i c a W J;have ag:=al.len X;refine ac _ _ c (λj u hu=>?_) (al.mono X (λr _ h=>ad.sub i r h) λ_ _ h=>h);have ah:=(x4.1 hu).1;rw[Q0];refine af (i*al.n α+j) u ?_;rw[mH he.len W Ω];exact hu
theorem hE {W:o6} {i b:Nat} {l:List α} {a:α} (X:al.n α=1) (Y:y=(i:Int)) (aa:P.underlying t=σ (.slice e)) (hi:aO P e (al.n α) b z)
  (h1:kd P e=true) (h:al.rep m S R w [v] l) (ab:l[i]? =σ a) (ac:∀u,al.rep m S R w [u] a->K u):
  U P (l7 t v (.int W y)) w λp=>U P (x7 e p) w K:=by
 refine iY Y aa hi h ab λb o cs ad J=>?_;have V:=al.len J;rw[X] at V;obtain⟨u,rfl⟩:=W7.1 V;rw[aS h1 (by have:=ad 0 u rfl;simpa using this)];exact ac u J
theorem hF {pl:List (Nat×Nat)} {V:o6} {i b:Nat} {l:List α} {a:α} (hu:bG P e pl) (W:y=(i:Int)) (X:P.underlying t=σ (.slice e)) (hi:aO P e (al.n α) b z)
  (h:al.rep m S R w [v] l) (Y:l[i]? =σ a) (aa:∀cs,al.rep m S R w cs a->K (.agg cs.toArray)):
  U P (l7 t v (.int V y)) w λp=>U P (x7 e p) w K:=by
 refine iY W X hi h Y λb o cs ab J=>?_;rw[br hu hi (al.len J) ab];exact aa cs J
theorem mI {g:Nat} {k:Nat} (h:b1 w g e k v n xs) (U:v= .slice ν 0 0\/S g):hD S w k v n xs:=by
 obtain⟨h1,⟨rfl,rfl⟩|⟨cap,cs,rfl,V,W,X,aa,Y⟩⟩:=h
 .have:xs=[]:=Z8 (by simpa using h1);subst this;exact⟨Ξ,0,0,ν,0,rfl,n9 _,X7 _,λh=>absurd h (Nat.lt_irrefl _),λh=>by simp at h,λj v h=>by simp at h⟩
 .refine⟨h1,g,0,_,cap,rfl,W,X,λ_=>rfl,λ_=>U.resolve_left Ξ,λj v J=>?_⟩;rw[V8];have ab:=(x4.1 J).1;rw[<-Y,Y7 Ω] at J;exact V.cell J
open Classical in
theorem yE {aq aw ax:o4} {b:Nat} {x:y0} {us:List (List y0)} {l l':List α} {G:Nat->ah} {K:y0->x2->Prop} (az:P.underlying t=σ (.slice e)) (aA:P.underlying aq=σ (.slice aw)) (hi:aO P e (al.n α) b z) (aB:z.cells.size=al.n α)
  (h:bi S R w [v] l) (aC:b6 w (al.n α) x l'.length us.flatten) (aj:k2 true R G w us l') (aD:∀i j r,i≠j->G i r->¬G j r)
  (af:∀r,r<w.heap.size->S r->(∀i,¬G i r)/\¬R r) (aE:(l.length+l'.length)*b<=140737488355328) (aF:l.length+l'.length<=9223372036854775807)
  (aG:∀V w',bi (λr=>S r\/(∃i,G i r)\/w.heap.size<=r) R w' [V] (l++l')->ae S w w'->K V w'):ay P (j4 #[t,aq] ax #[v,x]) w K:=by
 obtain⟨vs,g,F,aa,he,J,hm⟩:=gw h;obtain⟨ak,aL,au⟩:=hm rfl;refine yy az aA hi aB au aC aj.one aE (by simpa[maxLen] using aF) ?_;intro V ag w' aH aI am an;have ao:∀r,r=g/\v≠ .slice ν 0 0->S r:=λr ⟨h1,U⟩=>h1▸ak.resolve_left U;have aJ:=au;have ap:(V= .slice ν 0 0)\/(ag=g/\S g/\g<w.heap.size)\/ag=w.heap.size:=by
  rcases aI with⟨h1,_,U|U⟩|⟨h1,_⟩
  .rcases ak with X|X
   .exact .inl (U▸X)
   .obtain⟨_,⟨Y,_⟩|⟨_,_,_,Y,_⟩⟩:=aJ
    .exact .inl (U▸Y)
    .exact .inr (.inl ⟨h1,X,Y.lt⟩)
  .exact .inr (.inl ⟨h1,ak.resolve_left U.2,U.1⟩)
  .exact .inr (.inr h1)
 refine aG V w' ⟨V,rfl,vs++us,if V= .slice ν 0 0 then w.heap.size else ag,λi r=>if i<l.length then F i r/\r<w.heap.size else G (i-l.length) r/\r<w.heap.size,⟨λi r h=>?_,λ_ i h=>?_,λ_ i j r aK h1 U=>?_⟩,⟨by simp[he.1,aj.1],λi c a hi ai=>?_⟩,?_,λ_=>⟨?_,aH,?_⟩⟩ (an.mono λr _ h=>ao r h)
 .split at h
  .exact .inl (aa.sub i r h.1)
  .exact .inr (.inl ⟨_,h.1⟩)
 .have ac:(if V= .slice ν 0 0 then w.heap.size else ag)<w.heap.size:=by split at h<;>exact h.2
  split at ac
  .omega
  .rename_i W;rw[if_neg W] at h;rcases ap with h1|⟨rfl,U,X⟩|h1
   .exact W h1
   .split at h
    .exact aa.top rfl i h.1
    .exact (af _ X U).1 _ h.1
   .omega
 .split at h1<;>split at U
  .exact aa.ho rfl i j r aK h1.1 U.1
  .exact (af r h1.2 (aa.sub i r h1.1)).1 _ U.1
  .exact (af r h1.2 (aa.sub j r U.1)).1 _ h1.1
  .exact aD (i-l.length) (j-l.length) r Ω h1.1 U.1
 .have av:∀r,r<w.heap.size->R r->¬(r=g/\v≠ .slice ν 0 0):=λr ad h1 U=>(af r ad (ao r U)).2 h1;by_cases ac:i<l.length
  .rw[Y3 (by rw[he.1];exact ac)] at hi;rw[Y3 ac] at ai;simp only[if_pos ac];refine al.ab (k1 (he.2 i c a hi ai)) an λr ad h1 U=>?_;rcases h1 with h1|h1
   .exact aa.top rfl i (U.1▸h1.1)
   .exact av r ad h1 U
  .rw[Y5 (by rw[he.1];omega),he.1] at hi;rw[Y5 Ω] at ai;simp only[if_neg ac];refine al.ab (k1 (aj.2 _ c a hi ai)) an λr ad h1 U=>?_;rcases h1 with h1|h1
   .exact (af r ad (ao r U)).1 _ h1.1
   .exact av r ad h1 U
 .rw[r8,List.flatten_append];refine mI am ?_;rcases ap with h1|⟨rfl,U,_⟩|rfl
  .exact .inl h1
  .exact .inr (.inl (.inl U))
  .exact .inr (.inl (.inr (.inr (n9 _))))
 .rcases ap with h1|⟨rfl,U,_⟩|rfl
  .exact .inl h1
  .by_cases W:V= .slice ν 0 0
   .exact .inl W
   .rw[if_neg W];exact .inr (.inl U)
  .split
   .exact .inr (.inr (.inr (n9 _)))
   .exact .inr (.inr (.inr (n9 _)))
 .rw[r8,List.flatten_append];by_cases W:V= .slice ν 0 0
  .subst W;obtain⟨X,⟨_,Y⟩|⟨_,_,Y,_⟩⟩:=am
   .exact⟨X,.inl ⟨rfl,Y⟩⟩
   .cases Y
  .rw[if_neg W];exact am
theorem mJ {ad:o4} {b:Nat} {x:y0} {l:List α} {a:α} {A:ah} {K:y0->x2->Prop} (aa:P.underlying t=σ (.slice e)) (hi:aO P e (al.n α) b z) (af:z.cells.size=al.n α)
  (h:bi S R w [v] l) (ag:b6 w (al.n α) x 1 cs) (ai:bi A R w cs a) (ab:∀r,r<w.heap.size->S r->¬(A r\/R r)) (U:(l.length+1)*b<=140737488355328) (aj:l.length+1<=9223372036854775807)
  (ak:∀V w',bi (λr=>S r\/A r\/w.heap.size<=r) R w' [V] (l++[a])->ae S w w'->K V w'):ay P (j4 #[t,t] ad #[v,x]) w K:=by
 refine yE (l':=[a]) (us:=[cs]) (G:=λi r=>i=0/\A r) aa aa hi af h (by simpa using ag) ⟨rfl,λi c b W U=>?_⟩ (λi j r am h1 X=>am (h1.1.trans X.1.symm)) (λr ac J=>⟨λi h=>ab r ac J (.inl h.2),λh=>ab r ac J (.inr h)⟩) (by simpa using U) (by simpa using aj)
  λV w' h1 X=>ak V w' (al.mono h1 (λr _ h=>h.imp id (Or.imp (λ⟨_,h⟩=>h.2) id)) λ_ _ h=>h) X
 have Y:=(x4.1 W).1;have Y:i=0:=by simpa using Y
 subst Y;simp at W U;subst W U;exact al.mono ai (λr _ h=>⟨rfl,h⟩) λ_ _ h=>h
end
theorem yF:∀ (c:List y0) (i:Nat) (z:Array y0),(i+c.length<=z.size)->((c.zipIdx i).foldl (λcs (x:y0×Nat)=>cs.setIfInBounds x.2 x.1) z).toList=z.toList.take i++c++z.toList.drop (i+c.length)
 |[],i,z,h=>Ξ
 |x::r,i,z,h=>by
  simp only[Z5] at h;rw[List.zipIdx_cons,List.foldl_cons,yF r (i+1) _ Θ];simp only[Array.toList_setIfInBounds,Z5];rw[List.drop_set_of_lt Ω,List.take_set,r9,x6 Θ];simp only[j6];rw[T6 _ _ Θ];have e:i-(z.toList.take i).length=0:=Θ
  rw[e,show i+1+r.length=i+(r.length+1) by omega];simp
theorem yG {k:Nat} {z:Array y0} (J:z.size=k) (U:v.cells.size=k):Instr.fill (λj=>σ (j*k,k)) z [(0,v)]=σ v.cells:=by
 have h:=yF v.cells.toList 0 z Θ;simp only[Instr.fill,Nat.zero_mul,V8];rw[if_neg Θ];congr 1;apply Array.toList_inj.1;rw[<-Array.foldl_toList,Array.toList_zipIdx,h];simp;omega
section
variable {P:V2} {w:x2} {α β:Type} [al α] [al β] {m:Bool} {S R:ah}
theorem hp {b:Nat} {x:y0} {a:α} {A:ah} {K:y0->x2->Prop} (aa:P.underlying t=σ (.slice e)) (hi:aO P e (al.n α) b z) (aj:al.n α<=100000)
  (V:x.cells=cs.toArray) (W:bi A R w cs a)
  (ab:∀v w',Ext w w'->bi (λr=>A r\/w.heap.size<=r) R w' [v] [a]->b6 w' (al.n α) v 1 cs->K v w'):ay P (Y1 t 1 #[(0,x)]) w K:=by
 have ac:=al.len W;refine iX aa hi Ω (cs:=x.cells) (yG Ξ (by rw[V];simpa using ac)) λg w' ak X J=>?_;have J:ad w' g e cs:=by rw[V] at J;simpa using J
 have hm:b1 w' g e (al.n α) (.slice (σ ⟨g,0,ν⟩) 1 1) 1 cs:=b1.full J Ω (by simp[maxLen]);refine ab _ w' X ⟨_,rfl,[cs],g,λi r=>i=0/\A r/\r<w.heap.size,⟨λi r h=>.inl h.2.1,λ_ i h=>Ω,λ_ i j r ae h1 af=>ae (h1.1.trans af.1.symm)⟩,⟨rfl,λi c a' U Y=>?_⟩,?_,λ_=>⟨.inr (.inr Ω),e,by simpa using hm⟩⟩ hm.sl
 .have ag:i=0:=by simpa using (x4.1 U).1
  subst ag;simp at U Y;subst U Y;exact a7 (al.mono W (λr ai h=>⟨rfl,h,ai⟩) λ_ _ h=>h) X
 .have:=mI (S:=λr=>(A r\/w.heap.size<=r)\/R r) hm (.inr (.inl (.inr Ω)));simpa using this
end
theorem b0.range {B:y0->x2->(y0->x2->Prop)->Prop} (n:Nat) (I:Nat->x2->Prop)
  (X:n<=9223372036854775807) (U:I 0 w)
  (V:∀ (i:Nat) (w:x2) (k:y0->x2->Prop),i<n->I i w->(∀w',I (i+1) w'->k (Δ (X2.wrap ((i:Int)+1))) w')->B (Δ (i:Int)) w k)
  (W:∀ (w:x2) (k:y0->x2->Prop),I n w->B (Δ (n:Int)) w k):b0 (Δ 0) w B:=by
 refine⟨λt w=>∃i:Nat,t=Δ (i:Int)/\i<=n/\I i w,λt _=>n-(bS t).toNat,⟨0,rfl,X7 _,U⟩,?_⟩;rintro _ w ⟨i,rfl,hi,h⟩;by_cases J:i<n
 .refine V i w _ J h λw' h'=>⟨⟨i+1,?_,J,h'⟩,?_⟩
  .rw[wrap_i64 Ω Ω];rfl
  .rw[wrap_i64 Ω Ω];simp only[bS];omega
 .have:i=n:=Ω
  subst this;exact W w _ h
theorem bA.range {a:y0} {B:y0->y0->x2->(y0->y0->x2->Prop)->Prop} (n:Nat) (I:Nat->y0->x2->Prop)
  (X:n<=9223372036854775807) (U:I 0 a w)
  (V:∀ (i:Nat) (a:y0) (w:x2) (k:y0->y0->x2->Prop),i<n->I i a w->(∀a' w',I (i+1) a' w'->k a' (Δ (X2.wrap ((i:Int)+1))) w')->B a (Δ (i:Int)) w k)
  (W:∀ (a:y0) (w:x2) (k:y0->y0->x2->Prop),I n a w->B a (Δ (n:Int)) w k):bA a (Δ 0) w B:=by
 refine⟨λa t w=>∃i:Nat,t=Δ (i:Int)/\i<=n/\I i a w,λa t _=>n-(bS t).toNat,⟨0,rfl,X7 _,U⟩,?_⟩;rintro a _ w ⟨i,rfl,hi,h⟩;by_cases J:i<n
 .refine V i a w _ J h λa' w' h'=>⟨⟨i+1,?_,J,h'⟩,?_⟩
  .rw[wrap_i64 Ω Ω];rfl
  .rw[wrap_i64 Ω Ω];simp only[bS];omega
 .have:i=n:=Ω
  subst this;exact W a w _ h
theorem lF.range {a b:y0} {B:y0->y0->y0->x2->(y0->y0->y0->x2->Prop)->Prop} (n:Nat) (I:Nat->y0->y0->x2->Prop)
  (Y:n<=9223372036854775807) (V:I 0 a b w)
  (W:∀ (i:Nat) (a b:y0) (w:x2) (k:y0->y0->y0->x2->Prop),i<n->I i a b w->(∀a' J w',I (i+1) a' J w'->k a' J (Δ (X2.wrap ((i:Int)+1))) w')->B a b (Δ (i:Int)) w k)
  (X:∀ (a b:y0) (w:x2) (k:y0->y0->y0->x2->Prop),I n a b w->B a b (Δ (n:Int)) w k):lF a b (Δ 0) w B:=by
 refine⟨λa b t w=>∃i:Nat,t=Δ (i:Int)/\i<=n/\I i a b w,λa b t _=>n-(bS t).toNat,⟨0,rfl,X7 _,V⟩,?_⟩;rintro a b _ w ⟨i,rfl,hi,h⟩;by_cases U:i<n
 .refine W i a b w _ U h λa' J w' h'=>⟨⟨i+1,?_,U,h'⟩,?_⟩
  .rw[wrap_i64 Ω Ω];rfl
  .rw[wrap_i64 Ω Ω];simp only[bS];omega
 .have:i=n:=Ω
  subst this;exact X a b w _ h
theorem qU.range {a b c:y0} {B:y0->y0->y0->y0->x2->(y0->y0->y0->y0->x2->Prop)->Prop} (n:Nat) (I:Nat->y0->y0->y0->x2->Prop)
  (aa:n<=9223372036854775807) (W:I 0 a b c w)
  (X:∀ (i:Nat) (a b c:y0) (w:x2) (k:y0->y0->y0->y0->x2->Prop),i<n->I i a b c w->(∀a' J U w',I (i+1) a' J U w'->k a' J U (Δ (X2.wrap ((i:Int)+1))) w')->B a b c (Δ (i:Int)) w k)
  (Y:∀ (a b c:y0) (w:x2) (k:y0->y0->y0->y0->x2->Prop),I n a b c w->B a b c (Δ (n:Int)) w k):qU a b c (Δ 0) w B:=by
 refine⟨λa b c t w=>∃i:Nat,t=Δ (i:Int)/\i<=n/\I i a b c w,λa b c t _=>n-(bS t).toNat,⟨0,rfl,X7 _,W⟩,?_⟩;rintro a b c _ w ⟨i,rfl,hi,h⟩;by_cases V:i<n
 .refine X i a b c w _ V h λa' J U w' h'=>⟨⟨i+1,?_,V,h'⟩,?_⟩
  .rw[wrap_i64 Ω Ω];rfl
  .rw[wrap_i64 Ω Ω];simp only[bS];omega
 .have:i=n:=Ω
  subst this;exact Y a b c w _ h
theorem nI.range {a b c d:y0} {B:y0->y0->y0->y0->y0->x2->(y0->y0->y0->y0->y0->x2->Prop)->Prop} (n:Nat) (I:Nat->y0->y0->y0->y0->x2->Prop)
  (ab:n<=9223372036854775807) (X:I 0 a b c d w)
  (Y:∀ (i:Nat) (a b c d:y0) (w:x2) (k:y0->y0->y0->y0->y0->x2->Prop),i<n->I i a b c d w->(∀a' J U V w',I (i+1) a' J U V w'->k a' J U V (Δ (X2.wrap ((i:Int)+1))) w')->B a b c d (Δ (i:Int)) w k)
  (aa:∀ (a b c d:y0) (w:x2) (k:y0->y0->y0->y0->y0->x2->Prop),I n a b c d w->B a b c d (Δ (n:Int)) w k):nI a b c d (Δ 0) w B:=by
 refine⟨λa b c d t w=>∃i:Nat,t=Δ (i:Int)/\i<=n/\I i a b c d w,λa b c d t _=>n-(bS t).toNat,⟨0,rfl,X7 _,X⟩,?_⟩;rintro a b c d _ w ⟨i,rfl,hi,h⟩;by_cases W:i<n
 .refine Y i a b c d w _ W h λa' J U V w' h'=>⟨⟨i+1,?_,W,h'⟩,?_⟩
  .rw[wrap_i64 Ω Ω];rfl
  .rw[wrap_i64 Ω Ω];simp only[bS];omega
 .have:i=n:=Ω
  subst this;exact aa a b c d w _ h
section
variable {P:V2} {w:x2} {m:Bool} {S R:ah}
theorem GD (l:Λ):(l.map λx=>[U1 k x]).flatten=ints k l:=by
 induction l with
 |nil=>rfl
 |cons x l J=>simp only[T2,List.flatten_cons,J];rfl
theorem mK {g:Nat} (h:ao .i64 e w g v l):bi (λr=>r=g) R w [v] l:=by
 have U:(l.map λx=>[U1 .i64 x]).flatten=ints .i64 l:=GD l;refine⟨v,rfl,l.map λx=>[Δ x],g,λ_ _=>False,⟨λ_ _ h=>h.elim,λ_ _ h=>h,λ_ _ _ _ _ h=>h.elim⟩,⟨Ξ,λi c a J V=>?_⟩,?_,λ_=>⟨.inr rfl,e,?_⟩⟩
 .rw[u4,V] at J;simp at J;exact J.symm
 .rw[U];exact mI h (.inr (.inl rfl))
 .rw[U];exact h
def eR.val (x:eR k):Int:=x
theorem GF (h:bi S R w [v] l):∃g e,ao .i64 e w g v l/\(v= .slice ν 0 0\/S g):=by
 obtain⟨vs,g,F,_,he,J,hm⟩:=gw h;obtain⟨h1,e,U⟩:=hm rfl;rw[yD he] at U;exact⟨g,e,U,h1⟩
end
end Go.Vc
namespace Go.Proofs.YthjegppepbbojaaGreatDoor
open Go Go.Vc Go.RowKit Go.Proofs Go.Proofs.Tryz
set_option maxRecDepth 100000
def right (k:Int):Prop:=1<=k/\k<=2147483648
def c5 (a k:Int):Prop:=right k/\0<=a/\a<=k
instance (k:Int):Decidable (right k):=by unfold right;infer_instance
instance (a k:Int):Decidable (c5 a k):=by unfold c5;infer_instance
theorem yH {k:Int}:ai x3 FL [Δ k] w λv w'=>v= .bool (decide (right k))/\Ext w w':=by
 refine az func217 ?_;simp only[bJ,cr,mz,ak];refine⟨λh=>⟨?_,Ext.refl _⟩,λh=>⟨?_,Ext.refl _⟩⟩
 .congr 1;simp[right,h]
 .rw[decide_eq_false];intro J;exact h J.1
theorem k3 {k:Int}:ai x3 EY [Δ a,Δ k] w λv w'=>v= .bool (decide (c5 a k))/\Ext w w':=by
 refine az func133 ?_;simp only[bJ];refine yH.mono ?_;rintro _ V _ ⟨rfl,J⟩;simp only[cr,mz,ak];refine⟨λh=>⟨λU=>⟨?_,J⟩,λU=>⟨?_,J⟩⟩,λh=>⟨?_,J⟩⟩
 .congr 1;simp[c5,h,U]
 .rw[decide_eq_false];intro W;exact U W.2.1
 .rw[decide_eq_false];intro W;exact h W.1
theorem GG {k:Int}:ai x3 EV [Δ k] w λv w'=>v= .bool (decide (right k))/\Ext w w':=by
 refine az func127 ?_;simp only[bJ,bY,mz,ak];refine⟨λh=>⟨?_,Ext.refl _⟩,λh=>⟨?_,Ext.refl _⟩⟩
 .congr 1;have h':1<=k:=Ω
  simp[right,h']
 .rw[decide_eq_false];intro J;have:=J.1;omega
theorem GH {k:Int}:ai x3 xL [Δ a,Δ k] w λv w'=>v= .bool (decide (c5 a k))/\Ext w w':=by
 refine az func41 ?_;simp only[bJ];refine GG.mono ?_;rintro _ V _ ⟨rfl,J⟩;simp only[cr,mz,ak];refine⟨λh=>⟨λU=>⟨?_,J⟩,λU=>⟨?_,J⟩⟩,λh=>⟨?_,J⟩⟩
 .congr 1;simp[c5,h,U]
 .rw[decide_eq_false];intro W;exact U W.2.1
 .rw[decide_eq_false];intro W;exact h W.1
def aJ:Λ->Int
 |[]=>1
 |x::r=>x*aJ r
theorem yI:∀ (a b:Λ),aJ (a++b)=aJ a*aJ b
 |[],b=>by simp[aJ]
 |x::a,b=>by simp[aJ,yI a b,Int.mul_assoc]
theorem kg {i:Nat} {x:Int} (h:l[i]? =σ x):aJ (l.take (i+1))=aJ (l.take i)*x:=by
 rw[r9,h,yI];simp[aJ]
def bZ (l:Λ):Prop:=l.length<=6/\ ∀x∈l,1<=x/\x<=32
theorem bZ.take (h:bZ l) (i:Nat):bZ (l.take i):=⟨by rw[o5];have:=h.1;omega,λx J=>h.2 x (U9 J)⟩
theorem bZ.drop (h:bZ l) (i:Nat):bZ (l.drop i):=⟨by rw[Q2];have:=h.1;omega,λx J=>h.2 x (List.mem_of_mem_drop J)⟩
theorem pt:∀ (l:Λ),(∀x∈l,1<=x/\x<=32)->1<=aJ l/\aJ l<=32 ^ l.length
 |[],_=>by simp[aJ]
 |x::r,h=>by
  obtain⟨h1,J⟩:=pt r λy U=>h y (.tail _ U);obtain⟨V,W⟩:=h x (.head _);simp only[aJ,Z5];constructor
  .have:=Int.mul_le_mul V h1 Ω Ω;simpa using this
  .have:=Int.mul_le_mul W J Ω Ω;rw[Int.pow_succ];rw[Int.mul_comm (32 ^ r.length) 32];exact this
theorem prod_bound (h:bZ l):1<=aJ l/\aJ l<=1073741824:=by
 obtain⟨h1,J⟩:=pt l h.2;refine⟨h1,Int.le_trans J ?_⟩;have:(32:Int) ^ l.length<=32 ^ 6:=by
  have U:=h.1
  match l.length,U with
  |0,_=>decide
  |1,_=>decide
  |2,_=>decide
  |3,_=>decide
  |4,_=>decide
  |5,_=>decide
  |6,_=>decide
 simpa using this
def cB:Λ->Λ->Int->Option Int
 |[],[],n=>σ n
 |k::s,v::t,n=>if 0<=v/\v<k then cB s t (n*k+v) else ν
 |_,_,_=>ν
theorem ue:∀ (s t:Λ) (n:Int),s.length≠t.length->cB s t n=ν
 |[],[],_,h=>absurd rfl h
 |[],_::_,_,_=>rfl
 |_::_,[],_,_=>rfl
 |k::s,v::t,n,h=>by
  unfold cB;split
  .exact ue s t _ (by simpa using h)
  .rfl
def cF:Λ->Int->Λ
 |[],_=>[]
 |k::s,n=>(n / aJ s) % k::cF s n
theorem iC:∀ (s:Λ) (n:Int),(cF s n).length=s.length
 |[],_=>rfl
 |_::s,n=>by simp[cF,iC s n]
theorem yJ:∀ {s:Λ} {n:Int} {i:Nat} {k:Int},s[i]? =σ k->(cF s n)[i]? =σ ((n / aJ (s.drop (i+1))) % k)
 |J::s,n,0,k,h=>by simp at h;subst h;simp[cF]
 |J::s,n,i+1,k,h=>by
  simp only[List.getElem?_cons_succ] at h;simp only[cF,List.getElem?_cons_succ,List.drop_succ_cons];exact yJ h
theorem mL:∀ {s t:Λ} {m n:Int},(∀x∈s,1<=x/\x<=32)->cB s t m=σ n->m*aJ s<=n/\n<(m+1)*aJ s
 |[],[],m,n,_,h=>by simp[cB] at h;subst h;simp[aJ];omega
 |k::s,v::t,m,n,J,h=>by
  unfold cB at h;split at h
  .rename_i Y;have V:=mL (λx U=>J x (.tail _ U)) h;have aa:=(pt s λx U=>J x (.tail _ U)).1;simp only[aJ];have W:m*(k*aJ s)=m*k*aJ s:=(Int.mul_assoc _ _ _).symm;have X:(m+1)*(k*aJ s)=(m*k+k)*aJ s:=by rw[<-Int.mul_assoc,Int.add_mul,Int.one_mul]
   rw[W,X];constructor
   .refine Int.le_trans ?_ V.1;exact Int.mul_le_mul_of_nonneg_right Ω Ω
   .refine Int.lt_of_lt_of_le V.2 ?_;exact Int.mul_le_mul_of_nonneg_right Ω Ω
  .cases h
 |[],_::_,_,_,_,h=>by cases h
 |_::_,[],_,_,_,h=>by cases h
def bh:Λ->List (Λ)
 |[]=>[[]]
 |k::s=>(V0 k.toNat).flatMap λ(v:Nat)=>(bh s).map λt=>(v:Int)::t
theorem hq:∀ {s:Λ},(∀x∈s,1<=x/\x<=32)->(bh s).length=(aJ s).toNat
 |[],_=>rfl
 |k::s,h=>by
  have U:=hq (s:=s) λx J=>h x (.tail _ J);have hk:=h k (.head _);have V:=(pt s λx J=>h x (.tail _ J)).1;simp only[bh,aJ,List.length_flatMap,u5,U];rw[List.map_const',List.length_range,List.sum_replicate_nat,Int.toNat_mul Ω Ω]
theorem uf:∀ {s x:Λ},x∈bh s->x.length=s.length
 |[],x,h=>by simp[bh] at h;subst h;rfl
 |k::s,x,h=>by
  simp only[bh,List.mem_flatMap,Z6] at h;obtain⟨v,_,t,J,rfl⟩:=h;simp[uf J]
theorem ug {s x:Λ} (h:(bh s)[j]? =σ x):x.length=s.length:=uf (x5 h)
theorem uh (h:aH .i64 w sv l) (J:bZ l):
  ai x3 xP [sv] w λv w'=>v=Δ (aJ l)/\Ext w w':=by
 refine az func49 ?_;rw[aU af.u h];refine⟨λn t V=>Ext w V/\ ∃i:Nat,t=Δ i/\i<=l.length/\n=Δ (aJ (l.take i)),λ_ t _=>l.length-(bS t).toNat,⟨Ext.refl _,0,rfl,X7 _,rfl⟩,?_⟩;rintro _ _ V ⟨U,i,rfl,hi,rfl⟩;have Y:=J.1;simp only[aQ,ak];refine⟨λaa=>?_,λab=>⟨?_,U⟩⟩
 .obtain⟨x,W⟩:=aN (l:=l) (i:=i) Ω;rw[bf af.u ac.i Ψ (h.ext U) W];have X:=prod_bound (J.take (i+1));rw[kg W] at X;simp only[fL,aL];rw[wrap_i64 Ω Ω,wrap_i64 Ω Ω,<-kg W];refine⟨⟨U,i+1,rfl,Ω,rfl⟩,?_⟩;simp only[bS];omega
 .have:i=l.length:=Ω
  rw[this,o9]
theorem n1 (h:aH .i64 w sv l) (J:bZ l):
  ai x3 E0 [.agg #[sv]] w λv w'=>v=Δ (aJ l)/\Ext w w':=by
 refine az func135 ?_;refine bP λg w0 ab X Y=>?_;rw[av bx.p 0 Y rfl,aU af.u (h.ext X)];refine⟨λn t V=>Ext w V/\ ∃i:Nat,t=Δ i/\i<=l.length/\n=Δ (aJ (l.take i)),λ_ t _=>l.length-(bS t).toNat,⟨X,0,rfl,X7 _,rfl⟩,?_⟩;rintro _ _ V ⟨U,i,rfl,hi,rfl⟩;have ad:=J.1;simp only[aQ,ak];refine⟨λae=>?_,λag=>⟨?_,U⟩⟩
 .obtain⟨x,W⟩:=aN (l:=l) (i:=i) Ω;rw[bf af.u ac.i Ψ (h.ext U) W];have aa:=prod_bound (J.take (i+1));rw[kg W] at aa;simp only[fL,aL];rw[wrap_i64 Ω Ω,wrap_i64 Ω Ω,<-kg W];refine⟨⟨U,i+1,rfl,Ω,rfl⟩,?_⟩;simp only[bS];omega
 .have:i=l.length:=Ω
  rw[this,o9]
theorem GI {i:Nat} (h:aH .i64 w sv l) (J:bZ l) (hi:i<l.length):
  ai x3 FP [.agg #[sv],Δ i] w λv w'=>v=Δ (aJ (l.drop (i+1)))/\Ext w w':=by
 have ah:=J.1;refine az func222 ?_;refine bP λg w0 aj W X=>?_;have U:=h.ext W;simp only[bJ,aQ,ak];refine⟨λal=>Ω,λ_=>?_⟩;rw[av bx.p 0 X rfl,aU af.u U];simp only[cr,ak];refine⟨λam=>Ω,λ_=>?_⟩;rw[av bx.p 0 X rfl];simp only[aL];have Y:X2.wrap ((i:Int)+1)=((i+1:Nat):Int):=by rw[wrap_i64 Ω Ω];omega
 rw[Y];have ab:=U;obtain⟨_,b,o,base,cap,rfl,an,ao,ap,aq⟩:=id U;rw[fM af.u ac.i (l:=i+1) (h:=l.length) (m:=cap) mA h5 eJ Ω Ω Ω];have V:=b6.part (l:=i+1) (h:=l.length) (m:=cap) ab Ω Ω Ω Ω;generalize ad:(y0.slice (if cap=i+1 then base else U6 (λx=>x.add ((i+1)*1)) base) (l.length-(i+1)) (cap-(i+1)))=q at V ⊢;have ae:((ints .i64 l).drop ((i+1)*1)).take ((l.length-(i+1))*1)=ints .i64 (l.drop (i+1)):=by
  rw[n0 Ξ,S2,ints,<-List.map_drop]
 rw[ae] at V;rw[c8 (cs:=#[q]) (by subst ad;kernel_rfl)];refine (n1 (aH.of V) (J.drop (i+1))).mono ?_;rintro _ aa _ ⟨rfl,ag⟩;exact⟨rfl,W.trans ag⟩
def kh (s t:Λ):y0:=match cB s t 0 with
 |some n=>.tuple #[Δ n,Δ 0]
 |none=>.tuple #[Δ 0,Δ 3]
theorem yK {s t:Λ} (h:aH .i64 w sv s) (aa:aH .i64 w aF t) (J:bZ s):
  ai x3 FK [.agg #[sv],aF] w λv w'=>v=kh s t/\Ext w w':=by
 have ao:=J.1;refine az func214 ?_;refine bP λg w0 ap W ab=>?_;rw[aU af.u (aa.ext W),av bx.p 0 ab rfl,aU af.u (h.ext W)];simp only[bH,ak];refine⟨λaq=>⟨?_,W⟩,λae=>?_⟩
 .unfold kh;rw[ue _ _ _ Ω]
 .have ae:s.length=t.length:=Ω
  rw[aU af.u (aa.ext W)];refine⟨λ_ _ n c V=>Ext w0 V/\ ∃ (i:Nat) (m:Int),c=Δ i/\i<=t.length/\n=Δ m/\0<=m/\m<aJ (s.take i)/\cB s t 0=cB (s.drop i) (t.drop i) m,λ_ _ _ c _=>t.length-(bS c).toNat,
   ⟨Ext.refl _,0,0,rfl,X7 _,rfl,Int.le_refl _,by simp[aJ],rfl⟩,?_⟩
  rintro _ _ _ _ V ⟨Y,i,m,rfl,hi,rfl,ag,au,X⟩;have U:=W.trans Y;simp only[aQ,ak];refine⟨λaw=>?_,λax=>⟨?_,U⟩⟩
  .obtain⟨v,ah,aj⟩:∃v,t[i]? =σ v/\t.drop i=v::t.drop (i+1):=⟨t[i],x6 Ω,V4 Ω⟩;obtain⟨k,hk,al⟩:∃k,s[i]? =σ k/\s.drop i=k::s.drop (i+1):=⟨s[i],x6 Ω,V4 Ω⟩;rw[aj,al] at X;have am:=prod_bound (J.take (i+1));have ay:=prod_bound (J.take i);have aA:=J.2 k (x5 hk);rw[kg hk] at am;have ad:¬(0<=v/\v<k)->kh s t= .tuple #[Δ 0,Δ 3]:=λan=>by unfold kh;rw[X];simp[cB,an]
   rw[bf af.u ac.i Ψ (aa.ext U) ah];simp only[bJ,aQ,ak,bX];refine⟨λaB=>⟨(ad Ω).symm,U⟩,λaC=>?_⟩;rw[av bx.p 0 (ab.ext Y) rfl,bf af.u ac.i Ψ (h.ext U) hk];simp only[cr,ak];refine⟨λaD=>⟨(ad Ω).symm,U⟩,λaE=>?_⟩;rw[av bx.p 0 (ab.ext Y) rfl,bf af.u ac.i Ψ (h.ext U) hk];have aG:0<=m*k/\m*k+k<=aJ (s.take i)*k:=by
    constructor
    .exact Int.mul_nonneg ag Ω
    .have:=Int.mul_le_mul_of_nonneg_right (show m+1<=aJ (s.take i) by omega) (show 0<=k by omega);rw[Int.add_mul,Int.one_mul] at this;exact this
   simp only[fL,aL];rw[wrap_i64 (x:=m*k) Ω Ω,wrap_i64 (x:=m*k+v) Ω Ω,wrap_i64 (x:=(i:Int)+1) Ω Ω];refine⟨⟨Y,i+1,m*k+v,rfl,Ω,rfl,Ω,by rw[kg hk];omega,?_⟩,?_⟩
   .rw[X];simp[cB,show 0<=v/\v<k from⟨Ω,Ω⟩]
   .simp only[bS];omega
  .have:i=t.length:=Ω
   rw[this,List.drop_of_length_le Ω,List.drop_of_length_le Ω] at X;unfold kh;rw[X];rfl
theorem GJ {ag:y0} {a b:Λ} (h1:b6 w 1 s1 J (ints .i64 a)) (ah:b6 w 1 ag X (ints .i64 b)):
  ai x3 xV [s1,ag] w λv w'=>v= .bool (decide (a=b))/\Ext w w':=by
 have ay:a.length=J:=by simpa using h1.1
 have aA:b.length=X:=by simpa using ah.1
 have aj:=h1.le;obtain⟨_,aB,aC,aD,aE,rfl,aF,aG,an,ao⟩:=h1;obtain⟨_,aH,aI,aJ,aK,rfl,aM,aO,ap,aq⟩:=ah;refine az func79 ?_;simp only[gP af.u,bH,ak];refine⟨λal=>⟨?_,Ext.refl _⟩,λam=>?_⟩
 .rw[decide_eq_false];rintro rfl;omega
 .have am:J=X:=Ω
  refine⟨λt4 Y V=>Ext w V/\ ∃i:Nat,Y=Δ i/\i<=J/\a.take i=b.take i,λ_ Y _=>J-(bS Y).toNat,⟨Ext.refl _,0,rfl,X7 _,rfl⟩,?_⟩;rintro t4 _ V ⟨U,i,rfl,hi,ab⟩;simp only[aQ,ak,cK];refine⟨λad aa au _ _=>?_,λaP=>⟨?_,U⟩⟩
  .have ad:i<J:=Ω
   have U:=U.trans au;obtain⟨x,ae⟩:=aN (l:=a) (i:=i) Ω;obtain⟨y,W⟩:=aN (l:=b) (i:=i) Ω;have av:=my U (ao i _ (ke ae));have aw:=my U (aq i _ (ke W));rw[fz af.u ac.i ad an,S2,aS Ψ av,fz af.u ac.i (am▸ad) ap,S2,aS Ψ aw];simp only[bH,ak,aL];refine⟨λal=>⟨?_,U⟩,λaR=>⟨⟨U,i+1,?_,Ω,uc ab ae W Ω⟩,?_⟩⟩
   .rw[decide_eq_false];rintro rfl;rw[ae] at W;cases W;exact al rfl
   .rw[wrap_i64 Ω (by simp only[maxLen] at aj;omega)];rfl
   .rw[wrap_i64 Ω (by simp only[maxLen] at aj;omega)];simp only[bS];omega
  .have ax:i=J:=Ω
   subst ax;rw[decide_eq_true];rw[n0 Ω,n0 Ω] at ab;exact ab
theorem GK {s:y0} {a:Λ} (h1:b6 w 1 s n (ints .i64 a)) (ah:n<=1000000):
  ai x3 rf [s] w λv w'=>Ext w w'/\ ∃g,w.heap.size<=g/\b1 w' g ac 1 v n (ints .i64 a):=by
 have W:=h1;obtain⟨X,aj,ak,al,am,rfl,an,ao,Y,ap⟩:=h1;refine az func39 ?_;simp only[rt af.u,bt];refine⟨λU=>⟨Ext.refl _,w.heap.size,n9 _,?_⟩,λ_=>?_⟩
 .have:n=0:=by
   rcases Nat.eq_zero_or_pos n with h|h
   .exact h
   .rw[Y h] at U;cases U
  subst this;have:ints .i64 a=[]:=Z8 (by simpa using X);rw[this];exact b1.nil _ _ _ _
 .refine iX af.u ac.i Ω (cs:=#[]) Ψ ?_;intro g V aq J ab;refine mG (g:=g) af.u af.u ac.i rfl (b1.full ab rfl Ω) (W.ext J) (ps _ _) Ω (by simp only[maxLen];omega) ?_;intro au ad aa av ae ag;refine⟨J.then ag (by rintro r aw rfl;omega),ad,?_,?_⟩
  .have:=J.size;omega
  .simpa using ae
theorem GL {ae:y0} {a b:Λ} (h1:b6 w 1 s1 J (ints .i64 a)) (af:b6 w 1 ae X (ints .i64 b)):
  ai x3 xG [s1,ae] w λv w'=>v= .bool (decide (a=b))/\Ext w w':=by
 have ay:a.length=J:=by simpa using h1.1
 have aA:b.length=X:=by simpa using af.1
 have ag:=h1.le;obtain⟨_,aB,aC,aD,aE,rfl,aF,aG,al,am⟩:=h1;obtain⟨_,aH,aI,aJ,aK,rfl,aM,aO,ao,ap⟩:=af;refine az func14 ?_;simp only[gP au.u,bH,ak];refine⟨λah=>⟨?_,Ext.refl _⟩,λaj=>?_⟩
 .rw[decide_eq_false];rintro rfl;omega
 .have aj:J=X:=Ω
  refine⟨λt4 Y V=>Ext w V/\ ∃i:Nat,Y=Δ i/\i<=J/\a.take i=b.take i,λ_ Y _=>J-(bS Y).toNat,⟨Ext.refl _,0,rfl,X7 _,rfl⟩,?_⟩;rintro t4 _ V ⟨U,i,rfl,hi,ab⟩;simp only[aQ,ak,cK];refine⟨λac aa aq _ _=>?_,λaP=>⟨?_,U⟩⟩
  .have ac:i<J:=Ω
   have U:=U.trans aq;obtain⟨x,ad⟩:=aN (l:=a) (i:=i) Ω;obtain⟨y,W⟩:=aN (l:=b) (i:=i) Ω;have av:=my U (am i _ (ke ad));have aw:=my U (ap i _ (ke W));rw[fz au.u an.i ac al,S2,aS Ψ av,fz au.u an.i (aj▸ac) ao,S2,aS Ψ aw];simp only[bH,ak,aL];refine⟨λah=>⟨?_,U⟩,λaR=>⟨⟨U,i+1,?_,Ω,uc ab ad W Ω⟩,?_⟩⟩
   .rw[decide_eq_false];rintro rfl;rw[ad] at W;cases W;exact ah rfl
   .rw[wrap_i64 Ω (by simp only[maxLen] at ag;omega)];rfl
   .rw[wrap_i64 Ω (by simp only[maxLen] at ag;omega)];simp only[bS];omega
  .have ax:i=J:=Ω
   subst ax;rw[decide_eq_true];rw[n0 Ω,n0 Ω] at ab;exact ab
theorem GM {s:y0} {a:Λ} (h1:b6 w 1 s n (ints .i64 a)) (af:n<=1000000):
  ai x3 yi [s] w λv w'=>Ext w w'/\ ∃g,w.heap.size<=g/\b1 w' g an 1 v n (ints .i64 a):=by
 have W:=h1;obtain⟨X,ag,ah,aj,ak,rfl,al,am,Y,ao⟩:=h1;refine az func187 ?_;simp only[rt au.u,bt];refine⟨λU=>⟨Ext.refl _,w.heap.size,n9 _,?_⟩,λ_=>?_⟩
 .have:n=0:=by
   rcases Nat.eq_zero_or_pos n with h|h
   .exact h
   .rw[Y h] at U;cases U
  subst this;have:ints .i64 a=[]:=Z8 (by simpa using X);rw[this];exact b1.nil _ _ _ _
 .refine iX au.u an.i Ω (cs:=#[]) Ψ ?_;intro g V ap J ab;refine mG (g:=g) au.u au.u an.i rfl (b1.full ab rfl Ω) (W.ext J) (ps _ _) Ω (by simp only[maxLen];omega) ?_;intro aq ac aa av ad ae;refine⟨J.then ae (by rintro r aw rfl;omega),ac,?_,?_⟩
  .have:=J.size;omega
  .simpa using ad
theorem k4 {J:y0} {a b:Λ} (h1:aH .i64 w s1 a) (U:aH .i64 w J b):
  ai x3 xV [s1,J] w λv w'=>v= .bool (decide (a=b))/\Ext w w':=GJ h1 U
theorem h7 {s:y0} {a:Λ} (h1:aH .i64 w s a) (J:a.length<=1000000):
  ai x3 rf [s] w λv w'=>Ext w w'/\ ∃g,w.heap.size<=g/\ao .i64 ac w' g v a:=GK h1 J
theorem pu {J:y0} {a b:Λ} (h1:aH .i64 w s1 a) (U:aH .i64 w J b):
  ai x3 xG [s1,J] w λv w'=>v= .bool (decide (a=b))/\Ext w w':=GL h1 U
theorem ui {s:y0} {a:Λ} (h1:aH .i64 w s a) (J:a.length<=1000000):
  ai x3 yi [s] w λv w'=>Ext w w'/\ ∃g,w.heap.size<=g/\ao .i64 an w' g v a:=GM h1 J
theorem GN {n:Int} (h:aH .i64 w sv l) (J:bZ l) (ae:0<=n) (aK:n<aJ l):
  ai x3 Fi [.agg #[sv],Δ n] w λv w'=>Ext w w'/\ ∃aF g,v= .tuple #[aF,Δ 0]/\w.heap.size<=g/\ao .i64 ac w' g aF (cF l n):=by
 have aM:=J.1;have aN:=prod_bound J;refine az func156 ?_;refine bP λg w0 aO ag U=>?_;have aP:=h.cells;simp only[bJ,aQ,ak];refine⟨λaR=>Ω,λ_=>?_⟩;rw[br bx.p bx.i rfl U.range];refine (n1 (h.ext ag) J).mono ?_;rintro _ V _ ⟨rfl,W⟩;simp only[cr,ak];refine⟨λaS=>Ω,λ_=>?_⟩;have X:=ag.trans W;rw[av bx.p 0 (U.ext W) rfl,aU af.u (h.ext X)];refine jx af.u ac.i Ω Ω ?_;intro an aa aT ah aw;simp only[gP af.u];have ax:=X.trans ah;have s0:=ag.size;have s1:=W.size;have aV:=U.lt;refine⟨λt Y=>Ext w Y/\Ext w0 Y/\ ∃i:Nat,t=Δ i/\i<=l.length/\ad Y an ac (ints .i64 ((cF l n).take i++o8 (l.length-i) 0)),λt _=>l.length-(bS t).toNat,
  ⟨ax,W.trans ah,0,rfl,X7 _,by simpa using aw⟩,?_⟩
 rintro _ Y ⟨aj,al,i,rfl,hi,ap⟩;simp only[aQ,ak];refine⟨λam=>?_,λaW=>?_⟩
 .have am:i<l.length:=Ω
  rw[br bx.p bx.i rfl (U.ext al).range];refine (GI (h.ext aj) J am).mono ?_;rintro _ aX _ ⟨rfl,ay⟩;simp only[cK];intro aY aA _ _;have ab:=ay.trans aA;have aq:=aj.trans ab;obtain⟨k,hk⟩:∃k,l[i]? =σ k:=⟨l[i],x6 Ω⟩;have aZ:=J.2 k (x5 hk);have a1:=prod_bound (J.drop (i+1));have aB:0<=n / aJ (l.drop (i+1)):=Int.ediv_nonneg ae Ω;have a2:n / aJ (l.drop (i+1))<=n:=Int.ediv_le_self _ ae;rw[pr Ω,Int.tdiv_eq_ediv_of_nonneg ae,wrap_i64 Ω Ω,
   av bx.p 0 ((U.ext al).ext ab) rfl,bf af.u ac.i Ψ (h.ext aq) hk,
   kc Ω,Int.tmod_eq_emod_of_nonneg aB,fz af.u ac.i am (λ_=>rfl),S2]
  refine bj ac.i rfl rfl (ap.ext ab) (by simp[iC];omega) ?_;intro a6 au a7 aC;simp only[aL];rw[wrap_i64 Ω Ω];have a8:=ah.size;have ba:=X.size;refine⟨⟨aq.then au (by rintro r aD rfl;omega),(al.trans ab).then au (by rintro r aD rfl;omega),i+1,rfl,Ω,?_⟩,?_⟩
  .have aE:=yJ (n:=n) hk;have e:(ints .i64 ((cF l n).take i++o8 (l.length-i) 0)).set (0+i) (Δ (n / aJ (l.drop (i+1)) % k))=ints .i64 ((cF l n).take (i+1)++o8 (l.length-(i+1)) 0):=by
    have aG:((cF l n).take i).length=i:=by rw[o5,iC];omega
    rw[V8,ints,<-T8];congr 1;rw[List.set_append,if_neg Ω,aG,V9,show l.length-i=(l.length-(i+1))+1 by omega,List.replicate_succ,List.set_cons_zero,r9,aE];simp
   rw[<-e];exact aC
  .simp only[bS];omega
 .have aI:i=l.length:=Ω
  subst aI;refine⟨aj,_,an,rfl,by have:=X.size;omega,ao.of (n:=l.length) (b1.full ?_ (by simp[ints,iC]) (by simp[maxLen];omega))⟩;have e:(cF l n).take l.length++o8 (l.length-l.length) 0=cF l n:=by rw[V9,n0 (by rw[iC];omega)];simp
  rw[<-e];exact ap
def hG (x:Int):Prop:=1<=x/\x<=32
instance (x:Int):Decidable (hG x):=by unfold hG;infer_instance
theorem GO {x:Int}:ai x3 rj [Δ x] w λv w'=>v= .bool (decide (¬hG x))/\Ext w w':=by
 refine az func215 ?_;simp only[bJ,aQ,bY,ak];refine⟨λh=>⟨?_,Ext.refl _⟩,λh=>⟨?_,Ext.refl _⟩⟩
 .rw[decide_eq_true];intro J;have:=J.1;omega
 .congr 1;have:(32<x)=(¬hG x):=propext ⟨λU J=>by have:=J.2;omega,λU=>by
   by_cases V:32<x
   .exact V
   .exact absurd ⟨Ω,Ω⟩ U⟩
  simp only[this]
theorem GP (h:aH .i64 w sv l):
  ai x3 tR [sv,.func (.func rj) #[] #[]] w λv w'=>Ext w w'/\ ∃n:Int,v=Δ n/\((0<=n)=¬∀x∈l,hG x):=by
 have ag:=h.le;refine az func131 ?_;rw[aU af.u h];refine⟨λ_ t V=>Ext w V/\ ∃i:Nat,t=Δ i/\i<=l.length/\ ∀x∈l.take i,hG x,λ_ t _=>l.length-(bS t).toNat,⟨Ext.refl _,0,rfl,X7 _,Ξ⟩,?_⟩;rintro _ _ V ⟨U,i,rfl,hi,W⟩;simp only[aQ,ak];refine⟨λah=>?_,λaj=>⟨U,-1,rfl,?_⟩⟩
 .obtain⟨x,X⟩:=aN (l:=l) (i:=i) Ω;rw[bf af.u ac.i Ψ (h.ext U) X];show ai x3 rj [Δ x] V _;refine GO.mono ?_;rintro _ aa _ ⟨rfl,Y⟩;simp only[ak,aL];refine⟨λab=>⟨U.trans Y,i,rfl,?_⟩,λad=>?_⟩
  .exact propext ⟨λ_ ae=>ab (ae x (x5 X)),λ_=>Ω⟩
  .rw[wrap_i64 Ω Ω];refine⟨⟨U.trans Y,i+1,rfl,Ω,λy J=>?_⟩,?_⟩
   .rw[r9,X] at J;rcases l5.1 J with J|J
    .exact W y J
    .simp at J;subst J;exact X9.1 ad
   .simp only[bS];omega
 .have:i=l.length:=Ω
  rw[this,o9] at W;exact propext ⟨λh=>Ω,λh=>absurd W h⟩
theorem GQ (h:aH .i64 w sv l):
  ai x3 rk [sv,.func (.func rj) #[] #[]] w λv w'=>v= .bool (decide (¬∀x∈l,hG x))/\Ext w w':=by
 refine az func216 ?_;refine (GP h).mono ?_;rintro _ V _ ⟨J,n,rfl,U⟩;simp only[cr];exact⟨by congr 1;simp only[U],J⟩
def GR (w:x2) (l:Λ) (v:y0) (w':x2):Prop:=
 Ext w w'/\
   (¬bZ l->v= .tuple #[.agg #[.slice ν 0 0],Δ 1])/\
   (bZ l->4096<aJ l->v= .tuple #[.agg #[.slice ν 0 0],Δ 5])/\
   (bZ l->aJ l<=4096-> ∃g aF,v= .tuple #[.agg #[aF],Δ 0]/\w.heap.size<=g/\ao .i64 ac w' g aF l)
theorem GS (h:aH .i64 w sv l):ai x3 EX [sv] w (GR w l):=by
 refine az func132 ?_;refine bp bx.i λaM V a1 U ag=>?_;have a2:=ag.lt;refine aR (λv aa=>Ext w aa/\Ext V aa/\ ∃c:Bool,v= .bool c/\((c=true)=¬bZ l)) ?_ ?_
 .rintro _ aa ⟨ah,aj,c,rfl,aw⟩;simp only[bt];refine⟨λaN=>?_,λaO=>?_⟩
  .have ax:¬bZ l:=by rw[<-aw];exact aN
   rw[c8 (cs:=#[.slice ν 0 0]) Ψ];refine bK (vs:=[.slice ν 0 0]) bx.i rfl rfl (by simp;rfl) (ag.ext aj) ?_;intro a6 aP a7 aQ;rw[eZ bx.p bx.i rfl aQ.range];exact⟨ah.then aP (by rintro r al rfl;omega),λ_=>rfl,λh=>absurd h ax,λh=>absurd h ax⟩
  .have W:bZ l:=by
    have ay:¬(c=true):=by simp[aO]
    rw[aw] at ay;exact Classical.not_not.1 ay
   have a8:=W.1;refine (h7 (h.ext ah) Ω).mono ?_;rintro aF aA _ ⟨am,aB,ba,hm⟩;have aC:=hm.ls.cells;rw[c8 (cs:=#[aF]) (by obtain⟨_,_,_,_,_,rfl,_⟩:=hm.ls;kernel_rfl)];refine bp bx.i λgs bb bc an aS=>?_;refine bK (vs:=[aF]) bx.i rfl rfl (by intro u hu;simp at hu;subst hu;exact aC.2) aS ?_;intro ap aD bd aE;rw[br bx.p bx.i rfl aE.range];have be:=am.size;have bf:=an.size;have bg:=aj.size;have bh:ae (λr=>r=gs) aA ap:=(an.ab _).trans aD;have aq:Ext aA ap:=an.then aD (by rintro r al rfl;omega);have aT:=(ah.trans am).trans aq;have aG:ao .i64 ac ap aB aF l:=hm.ext aq;refine (n1 aG.ls W).mono ?_;rintro _ aV _ ⟨rfl,X⟩;have aI:=aT.trans X;have aJ:ad aV aM bx [.slice ν 0 0]:=ag.ext (((aj.trans am).trans aq).trans X);simp only[bY,ak];refine⟨λaW=>?_,λaX=>?_⟩
   .rw[c8 (cs:=#[.slice ν 0 0]) Ψ];refine bK (vs:=[.slice ν 0 0]) bx.i rfl rfl (by simp;rfl) aJ ?_;intro aY Y aZ au;rw[eZ bx.p bx.i rfl au.range];exact⟨aI.then Y (by rintro r al rfl;omega),λh=>absurd W h,λ_ _=>rfl,λ_ h=>Ω⟩
   .rw[br bx.p bx.i rfl (aE.ext X).range];refine bK (vs:=[aF]) bx.i rfl rfl (by intro u hu;simp at hu;subst hu;exact aC.2) aJ ?_;intro aY Y aZ au;rw[eZ bx.p bx.i rfl au.range];have bi:=U.size;exact⟨aI.then Y (by rintro r al rfl;omega),λh=>absurd W h,λ_ h=>Ω,λ_ _=>⟨aB,aF,rfl,Ω,(aG.ext X).ab Y Ω⟩⟩
 .intro bj aK;rw[aU af.u (h.ext U)];simp only[bY,ak];refine⟨λaW=>aK _ _ ⟨U,Ext.refl _,true,rfl,?_⟩,λaX=>?_⟩
  .exact propext ⟨λ_ J=>by have:=J.1;omega,λ_=>rfl⟩
  .refine (GQ (h.ext U)).mono ?_;rintro _ aa _ ⟨rfl,aL⟩;refine aK _ _ ⟨U.trans aL,aL,_,rfl,?_⟩;rw[decide_eq_true_eq];exact propext ⟨λav J=>av J.2,λav J=>av ⟨Ω,J⟩⟩
theorem uj {P:V2} (J:0<=a) (h1:a<4294967296):
  U P (aA .and t cx cy (.int .u64 a) (.int .u64 4294967295)) w K=K (.int .u64 a):=U.of λw' _=>by
 obtain⟨n,rfl⟩:=Int.eq_ofNat_of_zero_le J;have Y:n<4294967296:=Ω
 have e:(T4 64 (n:Int) &&& T4 64 4294967295).toNat=n:=by
  rw[BitVec.toNat_and,BitVec.toNat_ofInt,BitVec.toNat_ofInt];have V:((n:Int) % ((2 ^ 64:Nat):Int)).toNat=n:=Ω
  have W:((4294967295:Int) % ((2 ^ 64:Nat):Int)).toNat=2 ^ 32-1:=Φ
  rw[V,W,Nat.and_two_pow_sub_one_eq_mod];omega
 have X:(T4 T0.bits (n:Int) &&& T4 T0.bits 4294967295).toNat=n:=e;simp only[aA,eqGuard,binOp,Op.intBits,X];rw[wrap_u64 Ω Ω];rfl
theorem pv {P:V2} (J:0<=a) (h1:a<4294967296):
  U P (aA .shr t cx cy (.int .u64 a) (.int .u64 32)) w K=K (.int .u64 0):=U.of λw' _=>by
 have e:a.fdiv (2 ^ min 32 T0.bits)=0:=by
  have:(2:Int) ^ min 32 T0.bits=4294967296:=rfl;rw[this,Int.fdiv_eq_ediv_of_nonneg _ Ω];omega
 simp[aA,eqGuard,binOp,Op.shift,e]
theorem GU {x:Int} (U:0<=x/\x<65536) (J:0<=y/\y<65536):
  ai x3 FM [.int .u64 x,.int .u64 y] w λv w'=>v= .tuple #[.int .u64 0,.int .u64 (x*y)]/\Ext w w':=by
 have X:0<=x*y/\x*y<4294967296:=⟨Int.mul_nonneg U.1 J.1,by
  have:x*y<=65535*65535:=Int.mul_le_mul Ω Ω J.1 Ω;omega⟩
 refine az func218 ?_;refine ai.mono (K:=λv w'=>v= .tuple #[.int .u64 0,.int .u64 (x*y)]/\Ext w w') ?_ ?_
 .refine az func261 ?_;rw[uj Ω Ω,pv Ω Ω,uj Ω Ω,pv Ω Ω];simp only[fL,Int.zero_mul,Int.mul_zero];rw[wrap_u64 (x:=x*y) Ω Ω,show T0.wrap 0=0 from rfl,pv (a:=x*y) Ω Ω];simp only[aL,Int.add_zero];rw[show T0.wrap 0=0 from rfl,uj Ω Ω,pv Ω Ω];simp only[fL,aL,Int.zero_mul,Int.mul_zero,Int.add_zero,show T0.wrap 0=0 from rfl];rw[pv Ω Ω];simp only[fL,aL,Int.add_zero,show T0.wrap 0=0 from rfl];exact⟨trivial,Ext.refl _⟩
 .rintro _ V _ ⟨rfl,W⟩;rw[bL,bM];exact⟨rfl,W⟩
theorem yL {iD:y0} {c:Int} (h:aH .i64 w iD [c]) (aK:n<65536):
  ai x3 EZ [iD,Δ n] w λv w'=>Ext w w'/\ ∃g,w.heap.size<=g/\ao .i64 an w' g v (o8 n c):=by
 refine az func134 ?_;refine dv (λV=>w=V) ?_ ?_
 .rintro _ rfl;rw[aU au.u h,fi ac.u nU.u,fi ac.u nU.u,wrap_u64 Ξ Ξ,wrap_u64 Ω Ω];refine (GU (x:=([c].length:Int)) Ξ Ω).mono ?_;rintro _ aa _ ⟨rfl,af⟩;rw[bL,bM];have am:(([c].length:Int)*n)=(n:Int):=Ξ
  rw[am];refine dv (λJ=>aa=J) ?_ ?_
  .rintro _ rfl;rw[fi nU.u ac.u,wrap_i64 Ω Ω];refine jx au.u an.i Ω Ω ?_;intro g aM aN ap aq;have ag:=af.trans ap;have aO:=af.size;refine yz au.u an.i aq (o:=0) (λ_=>rfl) Ξ (h.ext ag) (ps _ _) ?_;intro aP av aS ah;have aw:=ag.then av (by rintro r ax rfl;omega);have st:over (ints .i64 (o8 n 0)) 0 ((ints .i64 [c]).take n)=ints .i64 (o8 (min 1 n) c++o8 (n-min 1 n) 0):=by
    rcases Nat.eq_zero_or_pos n with rfl|U
    .simp[over]
    .rw[n0 Θ,lP Θ];have:min 1 n=1:=Ω
     simp[this,ints]
   rw[st] at ah;refine⟨λt W=>Ext w W/\ ∃i:Nat,t=Δ i/\i<=n/\(0<n->0<i)/\ad W g an (ints .i64 (o8 i c++o8 (n-i) 0)),λt _=>n-(bS t).toNat,
    ⟨aw,min 1 n,Ξ,Ω,Ω,ah⟩,?_⟩
   rintro _ W ⟨X,i,rfl,hi,aV,Y⟩;simp only[gP au.u,aQ,ak,cK];refine⟨λay aA ab _ _=>?_,λaW=>?_⟩
   .have ay:i<n:=Ω
    have aj:=Y.ext ab;rw[fM au.u an.i (l:=i) (h:=n) (m:=n) mA h5 eJ Ω Ω Ω,
     fM au.u an.i (l:=0) (h:=i) (m:=n) h4 mD eJ Ω Ω Ω]
    have aB:b6 aA 1 (.slice (σ ⟨g,0,ν⟩) n n) n (ints .i64 (o8 i c++o8 (n-i) 0)):=(b1.full aj (by simp<;>omega) (by simp[maxLen]<;>omega)).sl;have U:=aB.part (l:=0) (h:=i) (m:=n) Ω Ω Ω Ω;have aC:((ints .i64 (o8 i c++o8 (n-i) 0)).drop (0*1)).take ((i-0)*1)=ints .i64 (o8 i c):=by
     simp[ints]
    rw[aC] at U;refine yz au.u an.i aj (o:=i) (λ_=>?_) (by simp<;>omega) U (ps _ _) ?_
    .rw[if_neg Ω];simp[T3]
    .intro aX aD aY al;have aZ:=X.size;have a1:=ab.size;have aE:over (ints .i64 (o8 i c++o8 (n-i) 0)) i ((ints .i64 (o8 i c)).take (n-i))=ints .i64 (o8 (i+min i (n-i)) c++o8 (n-(i+min i (n-i))) 0):=by
      apply W5;intro j;rw[mE _ _ _ (by simp[ints]<;>omega)];simp only[ints,j9,List.map_replicate,List.getElem?_append,List.getElem?_take,List.getElem?_replicate,o5,List.length_replicate]
      repeat' split
      all_goals first|rfl|omega
     rw[aE] at al;have aF:min (i-0) (n-i)=min i (n-i):=Ω
     simp only[aL,aF];have aG:X2.wrap ((i:Int)+((min i (n-i):Nat):Int))=((i+min i (n-i):Nat):Int):=by rw[wrap_i64 Ω Ω];omega
     rw[aG];refine⟨⟨(X.trans ab).then aD (by rintro r ax rfl;omega),_,rfl,Ω,Ω,al⟩,?_⟩;simp only[bS,j0];omega
   .have:i=n:=Ω
    subst this;rw[V9,List.replicate_zero,X6] at Y;exact⟨X,g,Ω,ao.of (n:=i) (b1.full Y Ξ (by simp[maxLen];omega))⟩
  .intro aI ae;refine aR (λv J=>v= .bool false/\aa=J) ?_ ?_
   .rintro _ _ ⟨rfl,rfl⟩;rw[aT];exact ae _ rfl
   .intro a2 aJ;simp only[bY,ak];refine⟨λh=>Ω,λ_=>aJ _ _ ⟨?_,rfl⟩⟩;rw[decide_eq_false];omega
 .intro aI ae;simp only[aQ,ak];exact⟨λh=>Ω,λ_=>ae _ rfl⟩
def leads (v:y0) (r:Nat):Prop:=∃a n c,v= .slice (σ a) n c/\a.block=r
theorem bz {g:Nat} (h:ao k e w g v l) {r:Nat} (J:leads v r):r=g/\g<w.heap.size:=by
 obtain⟨a,n,c,rfl,rfl⟩:=J;obtain⟨_,⟨h,_⟩|⟨cap,cs,h,U,_⟩⟩:=h
 .cases h
 .cases h;exact⟨rfl,U.lt⟩
theorem be {g:Nat} (h:ao k e w g v l) (J:ae S w w') (U:∀r,leads v r->¬S r):ao k e w' g v l:=by
 refine⟨h.1,h.2.imp id λ⟨cap,cs,h1,V,W⟩=>⟨cap,cs,h1,V.ab J (U g ⟨_,_,_,h1,rfl⟩),W⟩⟩
def cV (w:x2) (g J:Nat) (sv:y0) (szs:Λ) (k:Int) (cs:Λ):Prop:=
 (∃aI gs,ad w g cT [sv,Δ k,aI]/\ao .i64 ac w gs sv szs/\ao .i64 an w J aI cs)/\(g≠J/\¬leads sv J/\aJ szs<=4096)/\bZ szs/\cs.length=(aJ szs).toNat
theorem cV.ext {g U:Nat} {k:Int} {cs:Λ} (h:cV w g U sv szs k cs) (J:Ext w w'):cV w' g U sv szs k cs:=by
 obtain⟨⟨aI,gs,h1,V,W⟩,X⟩:=h;exact⟨⟨aI,gs,h1.ext J,V.ext J,W.ext J⟩,X⟩
def yM (w:x2) (l:Λ) (k J:Int) (v:y0) (w':x2):Prop:=
 Ext w w'/\
  (¬bZ l->v= .tuple #[.pointer ν,Δ 1])/\
  (bZ l->4096<aJ l->v= .tuple #[.pointer ν,Δ 5])/\
  (bZ l->aJ l<=4096->¬c5 J k->v= .tuple #[.pointer ν,Δ 3])/\
  (bZ l->aJ l<=4096->c5 J k-> ∃g U sv,v= .tuple #[Γ g,Δ 0]/\w.heap.size<=g/\w.heap.size<=U/\(∀r,leads sv r->w.heap.size<=r)/\
   cV w' g U sv l k (o8 (aJ l).toNat J))
theorem rz {k ah:Int} (h:aH .i64 w sv l):ai x3 tJ [sv,Δ k,Δ ah] w (yM w l k ah):=by
 refine az func51 ?_;refine (GS h).mono ?_;rintro v V _ ⟨ax,aN,aO,aP⟩;obtain⟨aF,e,rfl,aQ,he⟩:∃ (aF:y0) (e:Int),v= .tuple #[.agg #[aF],Δ e]/\aF.oneCell'=true/\
   ((e=1/\¬bZ l)\/(e=5/\bZ l/\4096<aJ l)\/(e=0/\bZ l/\aJ l<=4096/\ ∃g,w.heap.size<=g/\ao .i64 ac V g aF l)):=by
  by_cases J:bZ l
  .by_cases ag:aJ l<=4096
   .obtain⟨g,aF,rfl,h1,aA⟩:=aP J ag;exact⟨aF,0,rfl,aA.ls.cells.2,.inr (.inr ⟨rfl,J,ag,g,h1,aA⟩)⟩
   .exact⟨_,_,aO J Ω,rfl,.inr (.inl ⟨rfl,J,Ω⟩)⟩
  .exact⟨_,_,aN J,rfl,.inl ⟨rfl,J⟩⟩
 rw[bL,bM];refine bp bx.i λbj aa bk aR aS=>?_;refine bK (vs:=[aF]) bx.i rfl rfl (by intro u hu;simp at hu;subst hu;exact aQ) aS ?_;intro aT aU bl aV;have aB:Ext V aT:=aR.then aU (by rintro r Y rfl;omega);have aC:=ax.trans aB;simp only[bH,ak];refine⟨λaW=>⟨aC,?_⟩,λbm=>?_⟩
 .rcases he with⟨rfl,aj⟩|⟨rfl,J,ag⟩|⟨rfl,_⟩
  .exact⟨λ_=>rfl,λh=>absurd h aj,λh=>absurd h aj,λh=>absurd h aj⟩
  .exact⟨λh=>absurd J h,λ_ _=>rfl,λ_ h=>Ω,λ_ h=>Ω⟩
  .exact absurd rfl aW
 .obtain⟨rfl,J,ag,gs,bn,hm⟩:e=0/\bZ l/\aJ l<=4096/\ ∃g,w.heap.size<=g/\ao .i64 ac V g aF l:=by
   rcases he with⟨rfl,aj⟩|⟨rfl,J,ag⟩|h
   .omega
   .omega
   .exact h
  have bo:=prod_bound J;refine k3.mono ?_;rintro _ bq _ ⟨rfl,ap⟩;have aD:=aC.trans ap;simp only[bg,bt];refine⟨λaX=>⟨aD,λh=>absurd J h,λ_ h=>Ω,λ_ _ _=>rfl,λ_ _ h=>by simp[h] at aX⟩,λaY=>?_⟩;have aZ:c5 ah k:=by simpa using aY
  simp only[bJ,cK];intro aE aq _ _;have a1:=aD.trans aq;have al:=(aB.trans ap).trans aq;have aG:=(aV.ext ap).ext aq;rw[br bx.p bx.i rfl aG.range,br bx.p bx.i rfl aG.range];have s1:=ax.size;have bu:=al.size;have aI:((aJ l).toNat:Int)=aJ l:=Ω
  have aK:∀ {ae:x2} {ad:y0} {af:Nat},Ext aE ae->aE.heap.size<=af->ao .i64 an ae af ad (o8 (aJ l).toNat ah)->
    U x3 (Instr.build cT #[(0,.agg #[aF]),(1,Δ k),(2,ad)]) ae λa2=>ay x3 (Instr.box cT a2) ae λa6 aL=>yM w l k ah (.tuple #[a6,Δ 0]) aL:=by
   intro ae ad af ab aM Y;rw[c8 (cs:=#[aF,Δ k,ad]) (by
    obtain⟨_,_,_,_,_,rfl,_⟩:=Y.ls;obtain⟨_,_,_,_,_,rfl,_⟩:=hm.ls;kernel_rfl)]
   refine bP λg aL bw av a7=>?_;have bA:=ab.size;have a8:leads ad af:=by
    obtain⟨bB,⟨_,ba⟩|⟨cap,cs,rfl,_⟩⟩:=Y
    .simp at ba;omega
    .exact⟨_,_,_,rfl,rfl⟩
   have bC:=(bz Y a8).2;refine⟨(a1.trans ab).trans av,λh=>absurd J h,λ_ h=>Ω,λ_ _ h=>absurd aZ h,λ_ _ _=>⟨g,af,aF,rfl,Ω,Ω,λr bb=>?_,⟨ad,gs,a7,((hm.ext al).ext ab).ext av,Y.ext av⟩,⟨Ω,λbc=>?_,ag⟩,J,Ξ⟩⟩
   .have:=(bz hm bb).1;omega
   .have:=bz hm bc;omega
  constructor
  .refine dJ au.u an.i rfl λiD am bd be W aw=>⟨.inl W,?_⟩;refine (n1 ((hm.ext al).ext W).ls J).mono ?_;rintro _ bf _ ⟨rfl,X⟩;refine⟨.inl (W.trans X),?_⟩;rw[<-aI];refine (yL (aw.ext X).ls Ω).mono ?_;rintro ad ae _ ⟨ab,af,aM,Y⟩;have bh:=W.size;have bi:=X.size;exact⟨.inl ((W.trans X).trans ab),aK ((W.trans X).trans ab) Ω Y⟩
  .refine (n1 (hm.ext al).ls J).mono ?_;rintro _ bd _ ⟨rfl,W⟩;refine⟨.inl W,?_⟩;refine dJ au.u an.i rfl λiD am bf be X aw=>⟨.inl (W.trans X),?_⟩;rw[<-aI];refine (yL aw.ls Ω).mono ?_;rintro ad ae _ ⟨ab,af,aM,Y⟩;have bh:=W.size;have bi:=X.size;exact⟨.inl ((W.trans X).trans ab),aK ((W.trans X).trans ab) Ω Y⟩
theorem mM {g:Nat} {J:List y0} (h:ad w g e cs) (U:∀j v,J[j]? =σ v->cs[o+j]? =σ v):w.rangeAt g o J:=λj v V=>h.cell (U j v V)
theorem yN {g:Nat} {t:Λ} {k:Int} {cs:Λ} (h:cV w g X sv szs k cs) (Y:aH .i64 w aF t):
  ai x3 E1 [Γ g,aF] w λv w'=>v=kh szs t/\Ext w w':=by
 obtain⟨⟨aI,gs,aa,hm,ab⟩,_,J,_⟩:=h;refine az func136 ?_;rw[cR eB.u];simp only[Z7,aT];rw[bu,aM cT.p rfl,br (cs:=[sv]) bx.p bx.i rfl (mM aa (by
  intro j v U
  match j,U with
  |0,U=>exact U))]
 refine (yK hm.ls Y J).mono ?_;rintro _ V _ ⟨rfl,W⟩;unfold kh;cases cB szs t 0 with
 |none=>rw[bL,bM];exact⟨rfl,W⟩
 |some n=>rw[bL,bM];exact⟨rfl,W⟩
def n2 (szs t cs:Λ):y0:=match cB szs t 0 with
 |some n=>.tuple #[Δ (cs.getD n.toNat 0),Δ 0]
 |none=>.tuple #[Δ 0,Δ 3]
theorem yO {t cs:Λ} {n:Int} (J:bZ szs) (U:cs.length=(aJ szs).toNat) (h:cB szs t 0=σ n):n=(n.toNat:Int)/\n.toNat<cs.length:=by
 have:=mL J.2 h;simp only[Int.zero_mul,Int.zero_add,Int.one_mul] at this;omega
theorem uk {g:Nat} {t:Λ} {k:Int} {cs:Λ} (h:cV w g X sv szs k cs) (Y:aH .i64 w aF t):
  ai x3 F2 [Γ g,aF] w λv w'=>v=n2 szs t cs/\Ext w w':=by
 refine az func242 ?_;refine (yN h Y).mono ?_;rintro _ V _ ⟨rfl,U⟩;obtain⟨⟨aI,gs,aa,hm,ab⟩,_,J,ac⟩:=h.ext U;unfold kh n2;cases hi:cB szs t 0 with
 |none=>
  rw[bL,bM];simp only[bH,ak];exact⟨λ_=>⟨trivial,U⟩,λh=>by simp at h⟩
 |some n=>
  obtain⟨ad,W⟩:=yO J ac hi;rw[bL,bM];simp only[bH,ak];refine⟨λh=>absurd rfl h,λ_=>?_⟩;rw[aK cT.p 2 aa rfl,
   dY ad au.u an.i Ψ ab.ls (x6 W)]
  refine⟨?_,U⟩;rw[u9,x6 W];rfl
def n3 (szs t:Λ) (k c:Int) (cs:Λ):Λ:=match cB szs t 0 with
 |some n=>if c5 c k then cs.set n.toNat c else cs
 |none=>cs
def yP (szs t:Λ) (k c:Int):Int:=match cB szs t 0 with
 |some _=>if c5 c k then 0 else 3
 |none=>3
theorem yQ {g:Nat} {t:Λ} {k c:Int} {cs:Λ} (h:cV w g X sv szs k cs) (am:aH .i64 w aF t):
  ai x3 tL [Γ g,aF,Δ c] w λv w'=>v=Δ (yP szs t k c)/\ae (λr=>r=X) w w'/\cV w' g X sv szs k (n3 szs t k c cs):=by
 refine az func53 ?_;refine (yN h am).mono ?_;rintro _ V _ ⟨rfl,U⟩;have h1:=h.ext U;obtain⟨⟨aI,gs,W,hm,Y⟩,_,J,ac⟩:=h1;unfold kh yP n3;cases hi:cB szs t 0 with
 |none=>
  rw[bL,bM];simp only[bH,ak];exact⟨λ_=>⟨trivial,U.ab _,h.ext U⟩,λh=>by simp at h⟩
 |some n=>
  obtain⟨aB,aC⟩:=yO J ac hi;rw[bL,bM];simp only[bH,ak];refine⟨λh=>absurd rfl h,λ_=>?_⟩;rw[aK cT.p 1 W rfl];refine k3.mono ?_;rintro _ aa _ ⟨rfl,ad⟩;have ag:=(h.ext U).ext ad;by_cases ah:c5 c k
  .simp only[ah,decide_true,bg,Y6,aT,if_true];obtain⟨⟨aI,gs,W,hm,Y⟩,⟨ao,aj⟩,J,ac⟩:=ag;have aD:=Y;obtain⟨aE,⟨rfl,aG⟩|⟨cap,full,rfl,ap,aq,av,aw,al⟩⟩:=Y
   .omega
   .rw[aK cT.p 2 W rfl,
     yv (i:=n) au.u an.i Ω Ω (λ_=>rfl)]
    refine bj an.i rfl rfl ap Ω ?_;intro aJ af aL ax;refine⟨trivial,((U.trans ad).ab _).trans af,⟨_,gs,W.ab af Ω,be hm af (λr ay aA=>aj.1 (aA▸ay)),?_⟩,⟨ao,aj⟩,J,by simp[ac]⟩;refine⟨Ξ,.inr ⟨cap,full.set (0+n.toNat*1) (Δ c),?_,ax,by simpa using aq,av,by simpa using aw,?_⟩⟩
    .simp
    .simp only[W0,V8,S2] at al ⊢;rw[List.take_set,al,ints,ints,T8]
  .simp only[ah,decide_false,bg,W6,bX,if_false];exact⟨trivial,(U.trans ad).ab _,ag⟩
def ct (b:Int):Bool:=decide (b=32\/b=9\/b=10\/b=13)
def bQ (b:Int):Bool:=decide (33<=b/\b<=126)
def mN:Nat->Λ->List (Λ)×Bool
 |0,_=>([],true)
 |n+1,p=>
  match p.dropWhile ct with
  |[]=>([],true)
  |b::q=>
   if bQ b then
    match (b::q).dropWhile bQ with
    |[]=>([(b::q).takeWhile bQ],true)
    |c::r=>if ct c then (((b::q).takeWhile bQ)::(mN n (c::r)).1,(mN n (c::r)).2) else ([],false)
   else ([],false)
def lex (p:Λ):List (Λ)×Bool:=mN (p.length+1) p
theorem n4 (f:Int->Bool):∀ (l:Λ),(l.dropWhile f).length<=l.length
 |[]=>n9 _
 |x::l=>by
  rw[List.dropWhile_cons];split
  .exact X8 (n4 f l) (R6 _)
  .exact n9 _
theorem rA {f:Int->Bool} {x:Int} (h:f x=true):((x::l).dropWhile f).length<=l.length:=by
 rw[List.dropWhile_cons,if_pos h];exact n4 f l
theorem yR:∀ {n m:Nat} {p:Λ},p.length<n->p.length<m->mN n p=mN m p
 |n+1,m+1,p,X,hm=>by
  unfold mN;have h1:=n4 ct p;cases V:p.dropWhile ct with
  |nil=>rfl
  |cons b q=>
   rw[V] at h1;simp only;by_cases J:bQ b=true
   .rw[if_pos J,if_pos J];have U:=rA (l:=q) J;cases W:(b::q).dropWhile bQ with
    |nil=>rfl
    |cons c r=>
     rw[W] at U;simp only[Z5] at h1 U;simp only;rw[yR (n:=n) (m:=m) (p:=c::r) (by rw[Z5];omega) (by rw[Z5];omega)]
   .rw[if_neg J,if_neg J]
theorem jz (p:Λ):lex p=match p.dropWhile ct with
  |[]=>([],true)
  |b::q=>
   if bQ b then
    match (b::q).dropWhile bQ with
    |[]=>([(b::q).takeWhile bQ],true)
    |c::r=>if ct c then (((b::q).takeWhile bQ)::(lex (c::r)).1,(lex (c::r)).2) else ([],false)
   else ([],false):=by
 unfold lex
 conv=>lhs;unfold mN
 have h1:=n4 ct p;cases V:p.dropWhile ct with
 |nil=>rfl
 |cons b q=>
  rw[V] at h1;simp only;by_cases J:bQ b=true
  .rw[if_pos J,if_pos J];have U:=rA (l:=q) J;cases W:(b::q).dropWhile bQ with
   |nil=>rfl
   |cons c r=>
    rw[W] at U;simp only[Z5] at h1 U;simp only;rw[yR (n:=p.length) (m:=(c::r).length+1) (p:=c::r) (by rw[Z5];omega) Ω]
  .rw[if_neg J,if_neg J]
theorem n5:∀ (n:Nat) (p:Λ),p.length<=n->(lex p).1.length<=p.length
 |n,p,Y=>by
  rw[jz];have h1:=n4 ct p;cases W:p.dropWhile ct with
  |nil=>simp
  |cons b q=>
   rw[W] at h1;simp only;by_cases J:bQ b=true
   .rw[if_pos J];have U:=rA (l:=q) J;cases X:(b::q).dropWhile bQ with
    |nil=>simp only[Z5,List.length_nil] at h1 ⊢;omega
    |cons c r=>
     rw[X] at U;simp only[Z5] at h1 U;simp only;by_cases V:ct c=true
     .rw[if_pos V]
      match n with
      |0=>omega
      |n+1=>
       have:=n5 n (c::r) (by rw[Z5];omega);simp only[Z5] at this ⊢;omega
     .rw[if_neg V];simp
   .rw[if_neg J];simp
theorem rB:∀ (n:Nat) (p:Λ),p.length<=n-> ∀w∈(lex p).1,w≠[]/\(∀b∈w,bQ b=true)/\w.length<=p.length
 |n,p,ac,w,hw=>by
  rw[jz] at hw;have h1:=n4 ct p;cases U:p.dropWhile ct with
  |nil=>rw[U] at hw;simp at hw
  |cons b q=>
   rw[U] at h1 hw;simp only at hw;have aa:(b::q).length<=p.length:=h1;by_cases J:bQ b=true
   .rw[if_pos J] at hw;have V:=rA (l:=q) J;have W:(b::q).takeWhile bQ≠[]/\(∀x∈(b::q).takeWhile bQ,bQ x=true)/\((b::q).takeWhile bQ).length<=p.length:=
     ⟨by rw[List.takeWhile_cons,if_pos J];simp,λx ab=>List.all_takeWhile (l:=b::q) (p:=bQ) |> List.all_eq_true.1 |> λh=>h x ab,X8 (List.takeWhile_sublist _).length_le aa⟩
    cases X:(b::q).dropWhile bQ with
    |nil=>
     rw[X] at hw;simp only[l9] at hw;subst hw;exact W
    |cons c r=>
     rw[X] at V hw;simp only[Z5] at h1 V;simp only at hw;by_cases Y:ct c=true
     .rw[if_pos Y] at hw;rcases T1.1 hw with rfl|hw
      .exact W
      .match n with
       |0=>omega
       |n+1=>
        have:=rB n (c::r) (by rw[Z5];omega) w hw;exact⟨this.1,this.2.1,X8 this.2.2 (by rw[Z5];omega)⟩
     .rw[if_neg Y] at hw;simp at hw
   .rw[if_neg J] at hw;simp at hw
def aq:Int:=4611686018427387904
def fO (b:Int):Bool:=decide (48<=b/\b<=57)
def eS (n b:Int):Int:=min aq (10*n+(b-48))
def jA:Λ->Option Int
 |[]=>ν
 |l=>if l.all fO then σ (l.foldl eS 0) else ν
def fP:Λ->Option Int
 |45::l=>(jA l).map λn=>-n
 |l=>jA l
theorem GV {n b:Int} (U:0<=n) (J:fO b=true):0<=eS n b/\eS n b<=aq:=by
 have J:=of_decide_eq_true J;unfold eS aq;omega
theorem rC:∀ {l:Λ} {n:Int},l.all fO=true->0<=n/\n<=aq->0<=l.foldl eS n/\l.foldl eS n<=aq
 |[],n,_,J=>J
 |b::l,n,h,J=>by
  rw[List.all_cons,U8] at h;exact rC (l:=l) h.2 (GV J.1 h.1)
structure aE where
 toks:List (Λ)
 told:Int
 big:Bool
 shared:List (Λ×List (Λ×Int))
deriving DecidableEq
def dD (s:aE):Option (Λ×aE):=match s.toks with
 |[]=>ν
 |w::l=>σ (w,{s with toks:=l})
def ba (lo hi:Int) (s:aE):Option (Int×aE):=match dD s with
 |none=>ν
 |some (w,s)=>match fP w with
  |none=>ν
  |some n=>if lo<=n/\n<=hi then σ (n,s) else ν
def a6 (b:Bool) (s:aE):aE:={s with big:=s.big||b}
def cD {α:Type} (f:List α->aE->Option (α×aE)):Nat->List α->aE->Option (List α×aE)
 |0,acc,s=>σ (acc,s)
 |n+1,acc,s=>match f acc s with
  |none=>ν
  |some (a,s)=>cD f n (acc++[a]) s
def eK (n:Int) (J:Nat) (s:aE):Option (Λ×aE):=cD (λacc s=>match ba 0 (n-1) s with
 |none=>ν
 |some (v,s)=>if v∈acc then ν else σ (v,s)) J [] s
def h8:Λ->Λ->aE->Option (Λ×aE)
 |[],acc,s=>σ (acc,s)
 |k::l,acc,s=>match ba 0 (k-1) s with
  |none=>ν
  |some (v,s)=>h8 l (acc++[v]) s
def dK (sizes:Λ) (acc:List (Λ×Int)) (s:aE):Option ((Λ×Int)×aE):=match h8 sizes [] s with
 |none=>ν
 |some (t,s)=>match ba 0 aq s with
  |none=>ν
  |some (c,s)=>if t∈acc.map (·.1) then ν else σ ((t,c),s)
def ds (sizes:Λ) (s:aE):Option (List (Λ×Int)×aE):=match ba (-aq) aq s with
 |none=>ν
 |some (n,s)=>
  if n<0 then match s.shared[(-n-1).toNat]? with
   |none=>ν
   |some (z,l)=>if z=sizes then σ (l,s) else ν
  else cD (dK sizes) n.toNat [] (a6 (decide (16384<min (s.told+n) aq)) {s with told:=min (s.told+n) aq})
def df (sizes:Λ):Bool:=decide (4096<aJ (sizes.map λk=>min k 4097))
structure ce where
 scope:Λ
 sizes:Λ
 other:Int
 lines:List (Λ×Int)
deriving DecidableEq
def cW (all:Λ) (s:aE):Option (ce×aE):=match ba (-aq) aq s with
 |none=>ν
 |some (a,s)=>match eK all.length a.natAbs s with
  |none=>ν
  |some (scope,s)=>
   let sizes:=scope.map λv=>all.getD v.toNat 0
   match ba 0 aq (a6 (decide (6<a.natAbs)||df sizes) s) with
   |none=>ν
   |some (other,s)=>match ds sizes s with
    |none=>ν
    |some (lines,s)=>σ (⟨scope,sizes,other,lines⟩,if a<0 then {s with shared:=s.shared++[(sizes,lines)]} else s)
def e0 (most:Int) (_:Λ) (s:aE):Option (Int×aE):=match ba 1 most s with
 |none=>ν
 |some (z,s)=>σ (z,a6 (decide (32<z)) s)
structure b4 where
 name:Λ
 k:Int
 sizes:Λ
 funs:List ce
deriving DecidableEq
def gx (s:aE):Option (b4×aE):=match dD s with
 |none=>ν
 |some (name,s)=>match ba 1 aq (a6 (decide (64<name.length)) s) with
  |none=>ν
  |some (n,s)=>match ba 1 aq (a6 (decide (64<n)) s) with
   |none=>ν
   |some (most,s)=>match ba 0 aq s with
    |none=>ν
    |some (count,s)=>match ba 1 aq (a6 (decide (256<count)) s) with
     |none=>ν
     |some (k,s)=>match cD (e0 most) n.toNat [] (a6 (decide (2147483648<k)) s) with
      |none=>ν
      |some (sizes,s)=>match cD (λ_ s=>cW sizes s) count.toNat [] s with
       |none=>ν
       |some (funs,s)=>σ (⟨name,k,sizes,funs⟩,s)
def fj (p:Λ):Option b4:=if 65536<p.length then ν else match gx ⟨(lex p).1,0,false,[]⟩ with
 |none=>ν
 |some (f,s)=>if s.toks=[]/\(lex p).2=true/\s.big=false then σ f else ν
def lS (n:Int) (J:Bool) (v:Int):Prop:=0<=n/\n<=4611686018427387909/\(J=true->v=aq)/\(J=false->v=min aq n)
theorem GW {n b v:Int} {J:Bool} (h:lS n J v) (Y:48<=b/\b<=57):
  lS (if J=true\/461168601842738790<n then n else 10*n+(b-48)) (J||decide (461168601842738790<n)) (eS v b):=by
 obtain⟨h1,V,W,X⟩:=h;unfold eS lS aq at*;cases J with
 |true=>
  have:=W rfl;rw[if_pos (.inl rfl)];exact⟨h1,V,λ_=>Ω,λh=>by cases h⟩
 |false=>
  have:=X rfl;by_cases U:461168601842738790<n
  .rw[if_pos (.inr U),decide_eq_true U];exact⟨h1,V,λ_=>Ω,λh=>by cases h⟩
  .rw[if_neg (by simp[U]),decide_eq_false U];exact⟨Ω,Ω,(λh=>by cases h),λ_=>Ω⟩
theorem GX:lS 0 false 0:=by unfold lS aq;exact⟨Ω,Ω,(λh=>by cases h),λ_=>Ω⟩
theorem GY {n v:Int} {J:Bool} (h:lS n J v):v=if J=true\/4611686018427387904<n then 4611686018427387904 else n:=by
 obtain⟨h1,X,V,W⟩:=h;unfold aq at*;cases J with
 |true=>rw[if_pos (.inl rfl)];exact V rfl
 |false=>
  have:=W rfl;by_cases U:4611686018427387904<n
  .rw[if_pos (.inr U)];omega
  .rw[if_neg (by simp[U])];omega
end Go.Proofs.YthjegppepbbojaaGreatDoor
