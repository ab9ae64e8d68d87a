/- own texts, made small by a tool (wip/ holds them as they were written): no statement of the seat. -/
import Derived.RangeFuncNested
import Derived.RangeFuncLeaves
import Derived.OrdersIn
import Derived.KernelRfl
import Derived.Deep.Upon
import Derived.RangeFuncBound
import Derived.Deep.MidRow
import Derived.Laws.Cover3
import Derived.Laws.Pointers
import Derived.Laws.StructEq
import Derived.Laws.Tables
import Derived.Below
import Derived.Laws.MakeOwn
import Derived.Lib.Overlaps
import Derived.Lib.AppendZerosOnto
import Derived.Lib.SliceRun
import Derived.OpenShut
import Derived.Lib.ConvBytes
import Derived.Laws.BytesArg
import Derived.Laws.Concat
import Derived.MapKept
import Derived.Carry
import Derived.WideKeyArr
import Derived.WideKeyMaps
import Derived.Laws.IdiomRangeMap
import Derived.Shelf.SlSortCmp.NoneTotal
import Derived.Shelf.SlSortCmp.WholeK
import Derived.Ground.SlsfProg
import Derived.WideKeyEntry
import Derived.WalkKit
import Derived.Test.YtjjhhcfgfdepdaaGreatDoorProg
import Derived.Test.YtjjhhcfgfdepdaaGreatDoorChecked
set_option linter.unusedVariables false
set_option linter.unusedSimpArgs false
set_option linter.unnecessarySimpa false
open Array renaming getElem?_eq_some_iff→o9,getElem?_toList→T8
open BitVec renaming ofInt→U3
open Bool renaming not_true→Z8,not_false→X3,and_eq_true→U2,or_eq_false_iff→T7
open Decidable renaming not_not→Y4
open Go renaming Value→x1,World→x3,TypeId→r9,IntKind→o4,Builtin→Z0,Program→W0,Oper→U7,Operand→T5,FuncId→S6
open Go.Addr renaming add_mid→T2
open Go.Builtin renaming append_→b8,len_→W3
open Go.Instr renaming loadAt→u5,fieldAt→u6,storeAt→o7,indexAt→j5,extract→Z1,buildSlice→Z9,sliceAt→V3,alloc→R2
open Go.IntKind renaming i64→Y9,u64→V9
open Go.Proofs.Tryz renaming prog→x7
open Go.Result renaming andThen→X9
open Go.Sem renaming run_bind→X8,run_pure→W8
open Go.Sort renaming Holds→T6
open Go.Value renaming int→V1
open Go.World renaming putObj_heap_other→S7
open Int renaming toNat_natCast→u9,eq_ofNat_of_zero_le→W5
open List renaming getElem?_eq_some_iff→x4,mem_of_getElem?→x5,getElem?_eq_getElem→x6,getElem?_map→x8,getD_eq_getElem?_getD→u4,length_map→u7,take_add_one→r8,replicate→p8,length_append→o5,take_length→o6,mem_map→o8,mem_singleton→n9,mem_append→l7,length_take→j0,take_of_length_le→j6,eq_nil_of_length_eq_zero→j9,getElem?_set_self→c7,map_append→c8,length_cons→b9,length_set→Z4,getElem?_append_left→Y0,getElem?_append_right→Y1,getElem?_take_of_lt→Y3,getElem?_set_ne→Y5,ext_getElem?→Y8,drop_eq_getElem_cons→X7,length_eq_one_iff→W6,range→W7,mem_cons→V0,map_set→U1,map_cons→U4,append_nil→U5,set_append_right→U9,mem_of_mem_take→S8,getElem_mem→R5
open Nat renaming le_refl→p9,le_trans→Y7,zero_add→X1,zero_le→X2,mul_le_mul_right→X5,sub_self→V7,add_mul→V8,mul_one→U6,beq→T1,add_assoc→S2,lt_of_lt_of_le→R3,eq_zero_or_pos→R4
open Option renaming toList_some→l9,map_some→Z2,isNone_some→Z3,getD_some→V4,map→V6
open Option.some renaming injEq→Y6
open Prod.mk renaming injEq→T4
set_option maxHeartbeats 16000000
open Option renaming some→σ,none→ν
abbrev Λ:=List Int
namespace Go
theorem Ω{p:Prop}(h:p:=by omega):p:=h
theorem Ψ{p:Prop}(h:p:=by kernel_rfl):p:=h
theorem Φ{p:Prop}(h:p:=by decide):p:=h
theorem Ξ{p:Prop}(h:p:=by simp):p:=h
theorem Θ{p:Prop}(h:p:=by simp;omega):p:=h
abbrev Γ(n:Nat):Value:=.pointer (some ⟨n,0,none⟩)
abbrev Δ:Int→Value:=Value.int .i64
end Go
variable {a y:Int}{c w w':x3}{S:Nat->Prop}{I X h j m n:Nat}{aI sv v z:x1}{args cs vs xs:List x1}{K:x1->Prop}{af l:Λ}{D:List Nat}{J k:o4}{V e t:r9}{cx cy:Bool}
namespace Go.Vc
open Go Go.RowKit
def ff:Obj->Bool
 | .loop _=>false
 | .deferred _=>false
 | .mapIter ..=>false
 |_=>true
def book:Obj->Bool
 | .loop _=>true
 | .deferred _=>true
 |_=>false
theorem xj {o:Obj} (h:book o=true):ff o=false:=by cases o<;>first|rfl|cases h
def qP:Obj->Bool
 | .mapIter ..=>true
 |_=>false
theorem Ei {o:Obj} (h:qP o=true):ff o=false:=by cases o<;>first|rfl|cases h
structure Ext (w w':x3):Prop where
 size:w.heap.size<=w'.heap.size
 aX:∀ (r:Nat) (o:Obj),w.heap[r]? =σ o->ff o=true->w'.heap[r]? =σ o
theorem Ext.refl (w:x3):Ext w w:=⟨p9 _,λ_ _ h _=>h⟩
theorem Ext.trans {a b:x3} (h:Ext a b) (k:Ext b c):Ext a c:=
 ⟨Y7 h.size k.size,λr o J I=>k.aX r o (h.aX r o J I) I⟩
structure ae (S:Nat->Prop) (w w':x3):Prop where
 size:w.heap.size<=w'.heap.size
 aX:∀ (r:Nat) (o:Obj),w.heap[r]? =σ o->ff o=true->¬S r->w'.heap[r]? =σ o
theorem Ext.aa (S:Nat->Prop) (h:Ext w w'):ae S w w':=⟨h.size,λr o J I _=>h.aX r o J I⟩
theorem ae.ext (h:ae S w w') (U:∀r,r<w.heap.size->¬S r):Ext w w':=
 ⟨h.size,λr o J I=>h.aX r o J I (U r (o9.1 J).1)⟩
theorem ae.refl (S:Nat->Prop) (w:x3):ae S w w:=⟨p9 _,λ_ _ h _ _=>h⟩
theorem ae.trans {a b:x3} (h:ae S a b) (k:ae S b c):ae S a c:=
 ⟨Y7 h.size k.size,λr o U I J=>k.aX r o (h.aX r o U I J) I J⟩
theorem ae.mono {T:Nat->Prop} {a b:x3} (h:ae S a b) (U:∀r,r<a.heap.size->S r->T r):ae T a b:=
 ⟨h.size,λr o J I V=>h.aX r o J I λW=>V (U r (o9.1 J).1 W)⟩
theorem Ext.then {a b:x3} (h:Ext a b) (k:ae S b c) (U:∀r,r<a.heap.size->¬S r):Ext a c:=
 ⟨Y7 h.size k.size,λr o J I=>k.aX r o (h.aX r o J I) I (U r (o9.1 J).1)⟩
def jg (w w':x3):Prop:=w'.tape=w.tape/\w.drawn<=w'.drawn
theorem jg.jI (h:w'.tape=w.tape:=by rfl) (k:w'.drawn=w.drawn:=by rfl):jg w w':=⟨h,Nat.le_of_eq k.symm⟩
theorem jg.trans {a b:x3} (k:jg b c) (h:jg a b):jg a c:=⟨k.1.trans h.1,Y7 h.2 k.2⟩
structure cG (w w':x3):Prop where
 os:w'.os=w.os
 tape:jg w w'
 output:w'.output=w.output
 size:w.heap.size<=w'.heap.size
 aX:∀ (r:Nat) (o:Obj),w.heap[r]? =σ o->ff o=false->w'.heap[r]? =σ o
structure cr (n:Nat) (w w':x3):Prop where
 os:w'.os=w.os
 tape:jg w w'
 output:w'.output=w.output
 size:w.heap.size<=w'.heap.size
 aX:∀ (r:Nat) (o:Obj),w.heap[r]? =σ o->book o=true->w'.heap[r]? =σ o
 old:∀ (r:Nat) (o:Obj),r<n->w.heap[r]? =σ o->ff o=false->w'.heap[r]? =σ o
theorem cG.b (h:cG w w'):cr n w w':=⟨h.os,h.tape,h.output,h.size,λr o J I=>h.aX r o J (xj I),λr o _ J I=>h.aX r o J I⟩
theorem cr.refl (n:Nat) (w:x3):cr n w w:=⟨rfl,.jI,rfl,p9 _,λ_ _ h _=>h,λ_ _ _ h _=>h⟩
theorem cr.trans {a b:x3} (h:cr n a b) (k:cr n b c):cr n a c:=
 ⟨k.os.trans h.os,k.tape.trans h.tape,k.output.trans h.output,Y7 h.size k.size,λr o J I=>k.aX r o (h.aX r o J I) I,λr o U J I=>k.old r o U (h.old r o U J I) I⟩
theorem cr.ck (h:cr n w w') (U:w.heap.size<=n):cG w w':=
 ⟨h.os,h.tape,h.output,h.size,λr o J I=>h.old r o (R3 (o9.1 J).1 U) J I⟩
structure fg (n:Nat) (w w':x3):Prop where
 os:w'.os=w.os
 tape:jg w w'
 output:w'.output=w.output
 size:w.heap.size<=w'.heap.size
 old:∀ (r:Nat) (o:Obj),r<n->w.heap[r]? =σ o->ff o=false->w'.heap[r]? =σ o
theorem cr.o (h:cr n w w'):fg n w w':=⟨h.os,h.tape,h.output,h.size,h.old⟩
theorem cG.o (h:cG w w'):fg n w w':=⟨h.os,h.tape,h.output,h.size,λr o _ J I=>h.aX r o J I⟩
theorem fg.mono (h:fg n w w') (hm:m<=n):fg m w w':=⟨h.os,h.tape,h.output,h.size,λr o I=>h.old r o (R3 I hm)⟩
theorem cr.xk {a b:x3} (h:cr n a b) (k:fg m b c) (hm:a.heap.size<=m):cr n a c:=
 ⟨k.os.trans h.os,k.tape.trans h.tape,k.output.trans h.output,Y7 h.size k.size,
  λr o J I=>k.old r o (R3 (o9.1 J).1 hm) (h.aX r o J I) (xj I),
  λr o U J I=>k.old r o (R3 (o9.1 J).1 hm) (h.old r o U J I) I⟩
def eN (w w':x3):Prop:=∀ (r:Nat) (o:Obj),w.heap[r]? =σ o->qP o=true->w'.heap[r]? =σ o
theorem eN.refl (w:x3):eN w w:=λ_ _ h _=>h
theorem eN.trans {a b:x3} (h:eN a b) (k:eN b c):eN a c:=λr o J I=>k r o (h r o J I) I
theorem cG.jJ (h:cG w w'):eN w w':=λr o J I=>h.aX r o J (Ei I)
abbrev fh:=Bool×Nat
theorem cG.refl (w:x3):cG w w:=⟨rfl,.jI,rfl,p9 _,λ_ _ h _=>h⟩
theorem cG.trans {a b:x3} (h:cG a b) (k:cG b c):cG a c:=
 ⟨k.os.trans h.os,k.tape.trans h.tape,k.output.trans h.output,Y7 h.size k.size,λr o J I=>k.aX r o (h.aX r o J I) I⟩
theorem qQ (w:x3) (n:Nat):Ext w {w with drawn:=n}:=⟨p9 _,λ_ _ h _=>h⟩
theorem pa (w:x3) (n:Nat) (h:w.drawn<=n):cG w {w with drawn:=n}:=⟨rfl,⟨rfl,h⟩,rfl,p9 _,λ_ _ h _=>h⟩
theorem pb (w:x3) (o:Obj):Ext w {w with heap:=w.heap.push o}:=
 ⟨Ξ,λr o' h _=>by
  have I:=(o9.1 h).1;simp only[Array.getElem?_push];rw[if_neg Ω];exact h⟩
theorem pc (w:x3) (o:Obj):cG w {w with heap:=w.heap.push o}:=
 ⟨rfl,.jI,rfl,Ξ,λr o' h _=>by
  have I:=(o9.1 h).1;simp only[Array.getElem?_push];rw[if_neg Ω];exact h⟩
inductive ei where
 |v (x:x1)
 |b (c:Bool)
 |u
def ei.val:ei->x1
 | .v x=>x
 | .b c=>.bool c
 | .u=>undef
def ei.ofConst:x1->ei
 | .bool c=>.b c
 |x=>.v x
theorem ei.Ej (x:x1):(ei.ofConst x).val=x:=by cases x<;>rfl
abbrev Env:=List (Nat×ei)
def look:Env->Nat->Option ei
 |[],_=>ν
 |(s,x)::r,t=>bif T1 s t then σ x else look r t
def ew (e:Env):T5->Option ei
 | .tmp t=>look e t
 | .const x=>σ (ei.ofConst x)
 | .global g=>σ (.v (Γ g))
 | .func f=>σ (.v (.func (.func f) #[] #[]))
def cN (e:Env) (x:T5):x1:=
 match ew e x with
 |some y=>y.val
 |none=>undef
def known (e:Env):List T5->Bool
 |[]=>true
 |x::r=>(ew e x).isSome&&known e r
def T6 (N:Nat) (e:Env) (a:Act):Prop:=
 a.tmps.size=N/\ ∀t x,look e t=σ x->a.tmps.getD t undef=x.val
theorem T6.ew {N:Nat} {e:Env} {a:Act} (h:T6 N e a) {x:T5} {y:ei} (I:Vc.ew e x=σ y):a.eval x=y.val:=by
 cases x with
 |tmp t=>exact h.2 t y I
 |const v=>simp[Vc.ew] at I;subst I;simp[Act.eval,ei.Ej]
 |global g=>simp[Vc.ew] at I;subst I;rfl
 |func f=>simp[Vc.ew] at I;subst I;rfl
theorem T6.eval {N:Nat} {e:Env} {a:Act} (h:T6 N e a) {x:T5} (J:(Vc.ew e x).isSome=true):a.eval x=cN e x:=by
 obtain⟨y,I⟩:=Option.isSome_iff_exists.1 J;rw[h.ew I];simp[cN,I]
theorem tv {e:Env}:∀ {l:List T5},known e l=true-> ∀x∈l,(ew e x).isSome=true
 |[],_,_,I=>by cases I
 |y::r,h,x,I=>by
  simp only[known,U2] at h;cases I with
  |head=>exact h.1
  |tail _ I=>exact tv h.2 x I
def dO (e:Env) (d:Option Tmp) (x:ei):Env:=
 match d with
 |some t=>(t,x)::e
 |none=>e
def jh (N:Nat) (d:Option Tmp):Bool:=
 match d with
 |some t=>Nat.blt t N
 |none=>true
theorem T6.put {N:Nat} {e:Env} {a:Act} (h:T6 N e a) {d:Option Tmp} (V:jh N d=true) {x:ei} (W:x.val=v):
  T6 N (dO e d x) (a.put d v):=by
 cases d with
 |none=>exact h
 |some t=>
  have X:t<N:=by simpa[jh,Nat.blt_eq] using V
  refine⟨by simp[Act.put,h.1],λs y I=>?_⟩;simp only[dO,look] at I;cases J:T1 t s with
  |true=>
   have U:t=s:=Nat.eq_of_beq_eq_true J;subst U;simp only[J,cond_true,Y6] at I;subst I;simp[Act.put,h.1,X,W]
  |false=>
   have U:t≠s:=Nat.ne_of_beq_eq_false J;simp only[J,cond_false] at I;have:=h.2 s y I;simp only[Act.put,Array.getD_eq_getD_getElem?] at this ⊢;rw[Array.getElem?_setIfInBounds_ne U];exact this
def eg (r:Option Nat):Fence:={Fence.wide with round:=r}
theorem tw (r:Option Nat) (n:Nat):(eg r).depth.isSome=true->1<=n:=λh=>by simp[eg,Fence.wide] at h
theorem xl {r:Option Nat} {P:W0} {f:S6} {args:Array x1} {R:Ending->x3->Prop}
  (h:Calls P f args w R):CallsIn (eg r) n P f args w R:=by
 have:=(callsIn_wide (n:=n)).2 h;exact this
section
variable (P:W0)
def ax {α:Type} (s:Sem α) (w:x3) (K:α->x3->Prop):Prop:=∃v w',s.run P w= .ok v w'/\cG w w'/\K v w'
def qR {α:Type} (free:fh) (s:Sem α) (w:x3) (K:α->x3->Prop):Prop:=∃v w',s.run P w= .ok v w'/\(free.1=false->cr free.2 w w')/\K v w'
def Split (x:x1) (A B:Prop):Prop:=∃c,x= .bool c/\(c=true->A)/\(c=false->B)
def aW:Bool->T5
 |true=>.const (.bool true)
 |false=>.tmp 0
def nM:T5->Bool
 | .const _=>true
 |_=>false
theorem Ek (op:BinOp) (t:r9) (x y:T5) (a b:x1):eqGuard op t x y a b=eqGuard op t (aW (nM x)) (aW (nM y)) a b:=by
 cases x<;>cases y<;>rfl
def aE (op:BinOp) (t:r9) (cx cy:Bool) (a b:x1):Sem x1:=do eqGuard op t (aW cx) (aW cy) a b;binOp op t a b
def qS (s:Sem Next):Sem x1:=do
 match <-s with
 | .value v=>pure v
 |_=>stuck "no value"
def bF (x:x1):Sem x1:=qS (execOp (λ_=>x) {dst:=ν,op:=.nilCheck (.tmp 0),type:=0,pos:= "",after:=#[],guard:=ν})
def bL (I:T5->x1):List T5->List x1
 |[]=>[]
 |x::r=>I x::bL I r
theorem qT (I:T5->x1):∀l,bL I l=l.map I
 |[]=>rfl
 |x::r=>by simp[bL,qT I r]
theorem tx (I:T5->x1) (l:Array T5):(bL I l.toList).toArray=l.map I:=by
 apply Array.toList_inj.1;simp[qT]
def partsOf (I:T5->x1):List (Nat×T5)->List (Nat×x1)
 |[]=>[]
 |x::r=>(x.1,I x.2)::partsOf I r
theorem xm (I:T5->x1):∀l,partsOf I l=l.map λ(i,x)=>(i,I x)
 |[]=>rfl
 |x::r=>by simp[partsOf,xm I r]
theorem El (I:T5->x1) (l:Array (Nat×T5)):(partsOf I l.toList).toArray=l.map λ(i,x)=>(i,I x):=by
 apply Array.toList_inj.1;simp[xm]
def opsOf:Op->List T5
 | .alloc _| .ready _| .waits _=>[]
 | .move x| .assign x| .box _ x| .load _ x| .nilCheck x| .unOp _ _ x| .convert _ _ x| .sliceToArrayPointer _ x| .makeInterface _ x
 | .makeChan _ x| .fieldAddr _ x _| .field _ x _| .range _ x| .next x _| .entry x| .typeAssert x _ _ _| .extract x _| .panic x| .recv _ x _=>[x]
 | .pick c a b=>[c,a,b]
 | .build _ I| .buildSlice _ _ I=>I.toList.map (·.2)
 | .store _ a v| .binOp _ _ a v _| .makeSlice _ a v| .indexAddr _ a v| .index _ a v| .lookup _ a v _| .mapEntry _ a v| .send a v=>[a,v]
 | .makeFunc _ first J=>first.toList++J.toList
 | .makeMap _ r=>match r with
  |some x=>[x]
  |none=>[]
 | .slice _ x l h m=>x::((match l with
  |some y=>[y]
  |none=>[])++((match h with
  |some y=>[y]
  |none=>[])++(match m with
  |some y=>[y]
  |none=>[])))
 | .mapUpdate _ m k v| .entryStore _ m k v| .insert _ m k v=>[m,k,v]
 | .call c=>match c.callee with
  | .value f=>f::c.args.toList
  | .invoke r _=>r::c.args.toList
  | .builtin _=>c.args.toList
 | .go _| .defer _| .select ..=>[]
theorem Em {op:Op} (h1:∀c,op≠ .go c) (J:∀c,op≠ .defer c) (U:∀cs b,op≠ .select cs b):∀x∈op.operands,x∈opsOf op:=by
 intro x I;cases op<;>simp only[Op.operands,opsOf] at I ⊢<;>try (first|(simp at I;done)|(simp at I ⊢;exact I))
 case go c=>exact absurd rfl (h1 c)
 case defer c=>exact absurd rfl (J c)
 case select cs b=>exact absurd rfl (U cs b)
 case makeMap t r=>cases r<;>simp at I ⊢<;>exact I
 case slice t y l h m=>cases l<;>cases h<;>cases m<;>simpa[or_assoc] using I
 case call c=>cases V:c.callee<;>simpa[Call.operands,V] using I
def pd (I:T5->x1):Op->Option (Sem x1)
 | .pick c a b=>σ (do pure (if <-asBool (I c) then I a else I b))
 | .alloc U=>σ (R2 U true (.tuple #[]))
 | .box U x=>σ (Instr.box U (I x))
 | .build t parts=>σ (Instr.build t (partsOf I parts.toList).toArray)
 | .buildSlice t len parts=>σ (Z9 t len (partsOf I parts.toList).toArray)
 | .load t a=>σ (u5 t (I a))
 | .nilCheck x=>σ (bF (I x))
 | .binOp op hG x y _=>σ (aE op hG (nM x) (nM y) (I x) (I y))
 | .unOp op _ x=>σ (Op.unary op (I x))
 | .convert src dst x=>σ (convert src dst (I x))
 | .makeInterface hG x=>σ (Instr.makeInterface hG (I x))
 | .makeFunc fn first V=>σ (Instr.makeFunc fn (bL I first.toList).toArray (bL I V.toList).toArray)
 | .makeMap t r=>σ (Instr.makeMap t (r.map I))
 | .makeSlice t l c=>σ (Instr.makeSlice t (I l) (I c))
 | .slice t x lo hi mx=>σ (V3 t (I x) (lo.map I) (hi.map I) (mx.map I))
 | .fieldAddr s x f=>σ (u6 s (I x) f)
 | .field hG x f=>σ (Instr.field hG (I x) f)
 | .indexAddr t x J=>σ (j5 t (I x) (I J))
 | .index hG x J=>σ (Instr.index hG (I x) (I J))
 | .lookup hG x J ok=>σ (Instr.lookup hG (I x) (I J) ok)
 | .mapEntry t m k=>σ (Instr.mapEntry t (I m) (I k))
 | .range hG x=>σ (Instr.range hG (I x))
 | .entry W=>σ (Instr.entry (I W))
 | .typeAssert x hG X ok=>σ (Instr.typeAssert (I x) hG X ok)
 | .extract t J=>σ (Z1 (I t) J)
 |_=>ν
def tz (I:T5->x1):Op->Option (Sem Unit)
 | .store t a x=>σ (o7 t (I a) (I x))
 | .mapUpdate t m k x=>σ (Instr.mapUpdate t (I m) (I k) (I x))
 | .insert t m k x=>σ (Instr.mapUpdate t (I m) (I k) (I x))
 | .entryStore t m s x=>σ (Instr.entryStore t (I m) (I s) (I x))
 |_=>ν
def nN (b:Z0) (ats:Array r9) (I:r9) (args:Array x1):Option (Sem x1):=
 match b with
 | .append=>σ (b8 ats I args)
 | .cap=>σ (Z0.cap_ ats I args)
 | .clear=>σ (Z0.clear_ ats I args)
 | .copy=>σ (Z0.copy_ ats I args)
 | .delete=>σ (Z0.delete_ ats I args)
 | .len=>σ (W3 ats I args)
 | .max=>σ (Z0.max_ ats I args)
 | .min=>σ (Z0.min_ ats I args)
 |_=>ν
theorem En {s:Sem Next} (h:(qS s).run P w= .ok v w'):s.run P w= .ok (.value v) w':=by
 unfold qS at h;rw[X8] at h;cases I:s.run P w with
 |halt x J=>rw[I] at h;simp[X9] at h
 |ok x J=>
  rw[I] at h;cases x<;>simp_all [X9,stuck,W8]
theorem Eo (x:x1) (b:Bool) (t:r9):Instr.next x b 0=Instr.next x b t:=rfl
theorem tA {V:T5->x1} {o:U7} {s:Sem x1} (h:pd V o.op=σ s) (I:s.run P w= .ok v w'):
  (execOp V o).run P w= .ok (.value v) w':=by
 cases U:o.op with
 |nilCheck x=>
  rw[U] at h;cases h;have:=En P I;unfold execOp at this ⊢;simpa[U] using this
 |pick c x y=>
  rw[U] at h;cases h;unfold execOp;simp only[U,X8,W8] at I ⊢;cases W:(asBool (V c)).run P w with
  |halt x J=>rw[W] at I;simp[X9] at I
  |ok x J=>rw[W] at I;simp only[X9,Result.ok.injEq] at I ⊢;simp[I]
 |binOp op hG x y X=>
  rw[U] at h;cases h;unfold execOp;simp only[U];unfold aE at I;rw[<-Ek] at I;simp only[X8,W8] at I ⊢;rw[I];rfl
 |_=>
  rw[U] at h
  first
   |(cases h;done)
   |(cases h;simp only[tx,El] at I;unfold execOp;simp only[U,X8,I,X9,W8])
   |(cases h;unfold execOp;simp only[U,X8,I,X9,W8])
theorem Ep {I:T5->x1} {o:U7} {s:Sem Unit} (h:tz I o.op=σ s) {v:Unit} (U:s.run P w= .ok v w'):
  (execOp I o).run P w= .ok .skip w':=by
 cases J:o.op with
 |_=>
  rw[J] at h
  first
   |(cases h;done)
   |(cases h;unfold execOp;simp only[J,X8,U,X9,W8])
def Enters (f:S6):Prop:=∀args w,(callFunc f args).run P w= .ok (.enter f args) w
inductive aj (f:S6) (args:List x1) (w:x3) (K:x1->x3->Prop):Prop
 |code (h1:Enters P f) (h2:Calls P f args.toArray w λe w'=>∃v,e= .returned v/\cG w w'/\K v w')
 |ext (v:x1) (w':x3) (h1:(callFunc f args.toArray).run P w= .ok (.value v) w') (h2:cG w w') (h3:K v w')
inductive gb (f:S6) (args:List x1) (w:x3) (K:x1->x3->Prop):Prop
 |code (h1:Enters P f) (h2:Calls P f args.toArray w λe w'=>∃v,e= .returned v/\K v w')
 |ext (v:x1) (w':x3) (h1:(callFunc f args.toArray).run P w= .ok (.value v) w') (h3:K v w')
theorem gb.calls {f:S6} {K:x1->x3->Prop} (h:gb P f args w K) (I:Enters P f):Calls P f args.toArray w λe w'=>∃v,e= .returned v/\K v w':=by
 cases h with
 |code _ h=>exact h
 |ext v w' h1=>rw[I] at h1;cases h1
def hh (l:Nat) (args:List x1) (w:x3) (K:x1->x3->Prop):Prop:=
 YieldAt Fence.wide 0 P l args.toArray w λe w'=>∃v,e= .returned v/\K v w'
theorem hh.mono {P:W0} {l:Nat} {K I:x1->x3->Prop} (h:hh P l args w K) (J:∀v w',K v w'->I v w'):hh P l args w I:=by
 obtain⟨fn,tmps,U,body,V,W⟩:=h;exact⟨fn,tmps,U,body,V,RoundIn.mono W λ_ w' ⟨v,h1,X⟩=>⟨v,h1,J v w' X⟩⟩
def qU (free:Bool) (f:x1) (args:List x1) (w:x3) (K:x1->x3->Prop):Prop:=
 match f with
 | .func (.func g) first cap=>bif free then gb P g (first.toList++args++cap.toList) w K else aj P g (first.toList++args++cap.toList) w K
 | .func (.yield l) first _=>bif free then free=true/\hh P l (first.toList++args) w K else hh P l (first.toList++args) w λv w'=>cG w w'/\K v w'
 |_=>False
def U (s:Sem x1) (w:x3) (K:x1->Prop):Prop:=∃v,(∀w',Ext w w'->s.run P w'= .ok v w')/\K v
def Er:List (Nat×Nat):=[(9,22),(22,22)]
def Es (s d:Nat):Bool:=Er.any λp=>T1 p.1 s&&T1 p.2 d
def iH (o:U7):Bool:=
 match o.op with
 | .convert s d _=>!Es s d
 | .move _| .assign _| .pick .. | .load .. | .nilCheck _| .binOp .. | .unOp .. | .makeInterface .. | .makeFunc .. | .slice .. | .fieldAddr .. | .field ..
 | .indexAddr .. | .index .. | .lookup .. | .extract .. | .build .. | .typeAssert ..=>true
 | .call c=>
  match c.callee with
  | .builtin .len| .builtin .cap| .builtin .min| .builtin .max=>true
  |_=>false
 |_=>false
def ct (s:Sem x1) (v:x1) (w':x3):Prop:=∀I,Ext w' I->s.run P I= .ok v I
def k6 (o:U7) (e:Env) (w:x3) (K:Env->(x3->Prop)->Prop):Prop:=
 bif known e (opsOf o.op) then
  match o.op with
  | .move x| .assign x=>
   match ew e x with
   |some y=>K (dO e o.dst y) (λ_=>True)
   |none=>False
  | .pick c a b=>
   match ew e c with
   |some (.b true)=>(match ew e a with|some y=>K (dO e o.dst y) (λ_=>True)|none=>False)
   |some (.b false)=>(match ew e b with|some y=>K (dO e o.dst y) (λ_=>True)|none=>False)
   |some (.v x)=>Split x (K (dO e o.dst (.v (cN e a))) (λ_=>True)) (K (dO e o.dst (.v (cN e b))) (λ_=>True))
   |some .u=>False
   |none=>False
  | .call c=>
   match c.callee with
   | .builtin b=>
    match nN b c.argTypes o.type (bL (cN e) c.args.toList).toArray with
    |some s=>U P s w λv=>K (dO e o.dst (.v v)) (ct P s v)
    |none=>False
   |_=>False
  |op=>
   match pd (cN e) op with
   |some s=>U P s w λv=>K (dO e o.dst (.v v)) (ct P s v)
   |none=>False
 else False
def tB (free:fh) (o:U7) (e:Env) (w:x3) (K:Env->x3->Prop):Prop:=
 bif known e (opsOf o.op) then
  match o.op with
  | .call c=>
   match c.callee with
   | .builtin b=>
    match nN b c.argTypes o.type (bL (cN e) c.args.toList).toArray with
    |some s=>ax P s w λv w'=>K (dO e o.dst (.v v)) w'
    |none=>False
   | .value (.func f)=>
    bif free.1 then gb P f (bL (cN e) c.args.toList) w λv w'=>K (dO e o.dst (.v v)) w'
    else aj P f (bL (cN e) c.args.toList) w λv w'=>K (dO e o.dst (.v v)) w'
   | .value x=>qU P free.1 (cN e x) (bL (cN e) c.args.toList) w λv w'=>K (dO e o.dst (.v v)) w'
   | .invoke _ _=>False
  | .next x str=>qR P free (Instr.next (cN e x) str 0) w λv w'=>K (dO e o.dst (.v v)) w'
  |op=>
   match pd (cN e) op with
   |some s=>ax P s w λv w'=>K (dO e o.dst (.v v)) w'
   |none=>
    match tz (cN e) op with
    |some s=>ax P s w λ_ w'=>K (dO e o.dst (.v undef)) w'
    |none=>False
 else False
def nO (free:fh) (o:U7) (e:Env) (w:x3) (K:Env->x3->Prop):Prop:=
 bif iH o then k6 P o e w (λI _=>K I w) else tB P free o e w K
theorem Enters.of {f:S6} {fn:Func} {c:Code} (I:P.funcs[f]? =σ fn) (J:fn.body=σ c) (U:(fn.name == "runtime.NumGoroutine")=false):Enters P f:=by
 intro args w;have V:fn.name≠ "runtime.NumGoroutine":=by simpa using U
 unfold callFunc;simp[X8,program,Sem.run,X9,I,V,J,W8]
variable {P}
variable {N:Nat} {r:Option Nat} {o:U7} {e:Env} {a:Act} {w:x3}
theorem jK (J:T6 N e a) (hk:known e (opsOf o.op)=true) (I:∀cs b,o.op≠ .select cs b) (U:∀c,o.op≠ .go c:=by simp_all) (V:∀c,o.op≠ .defer c:=by simp_all):
  execOp a.eval o=execOp (cN e) o:=
 execOp_congr o I λx W=>J.eval (tv hk x (Em U V I x W))
theorem pe {next:Act->x3->Prop} {Q:Exit->Act->x3->Prop} (U:T6 N e a) (hk:known e (opsOf o.op)=true) (I:∀cs b,o.op≠ .select cs b)
  (J:∀c,o.op≠ .defer c) {v:x1} {w':x3} (V:(execOp (cN e) o).run P w= .ok (.value v) w') (h:next (a.put o.dst v) w') (W:∀c,o.op≠ .go c:=by simp_all):o.wpIn (eg r) 0 P a w next Q:=by
 refine⟨λ_ _=>trivial,?_⟩;rw[U7.semAt_eq _ _ _ J,jK U hk I W J,V,U7.uponIn_value];exact h
theorem Et {next:Act->x3->Prop} {Q:Exit->Act->x3->Prop} (U:T6 N e a) (hk:known e (opsOf o.op)=true) (I:∀cs b,o.op≠ .select cs b)
  (J:∀c,o.op≠ .defer c) {w':x3} (V:(execOp (cN e) o).run P w= .ok .skip w') (h:next (a.put o.dst undef) w') (W:∀c,o.op≠ .go c:=by simp_all):o.wpIn (eg r) 0 P a w next Q:=by
 refine⟨λ_ _=>trivial,?_⟩;rw[U7.semAt_eq _ _ _ J,jK U hk I W J,V,U7.uponIn_skip];exact h
def e3 (N:Nat) (free:fh) (K:Env->x3->Prop) (o:U7) (a:Act) (w:x3) (a':Act) (w':x3):Prop:=
 ∃I v,K I w'/\T6 N I a'/\a'=a.put o.dst v/\(free.1=false->cr free.2 w w')
theorem e3.of {free:fh} {K:Env->x3->Prop} {x:ei} (I:K (dO e o.dst x) w') (J:T6 N e a) (U:jh N o.dst=true) (V:x.val=v)
  (W:free.1=false->cr free.2 w w'):e3 N free K o a w (a.put o.dst v) w':=⟨_,v,I,J.put U V,rfl,W⟩
theorem xn {free:fh} {K:Env->x3->Prop} {Q:Exit->Act->x3->Prop} {f:S6} {args:Array x1} (J:T6 N e a) (U:jh N o.dst=true)
  (h:Calls P f args w λI w'=>∃v,I= .returned v/\(free.1=false->cr free.2 w w')/\K (dO e o.dst (.v v)) w'):
  o.uponIn (eg r) 0 P a (e3 N free K o a w) Q (.ok (.enter f args) w):=by
 rw[U7.uponIn_enter];refine⟨tw _ _,CallsIn.mono (xl h) ?_⟩;rintro I w' ⟨v,rfl,V,W⟩;exact e3.of W J U rfl V
theorem k7 {x:T5} {y:ei} (h:ew e x=σ y):cN e x=y.val:=by simp[cN,h]
theorem xo {l:List T5} {x:T5} (hk:known e l=true) (I:x∈l):∃y,ew e x=σ y:=Option.isSome_iff_exists.1 (tv hk x I)
theorem xp {K:Env->(x3->Prop)->Prop} (h:k6 P o e w K) (Y:T6 N e a) (ah:jh N o.dst=true):
  ∃v,∃st:x3->Prop,(∀w',Ext w w'->(execOp a.eval o).run P w'= .ok (.value v) w')/\(∃aa,K aa st/\T6 N aa (a.put o.dst v))/\(∀c,o.op≠ .defer c)/\
   (∀w',st w'-> ∀U,Ext w' U->(execOp a.eval o).run P U= .ok (.value v) U):=by
 unfold k6 at h;cases hk:known e (opsOf o.op) with
 |false=>rw[hk] at h;exact h.elim
 |true=>
  rw[hk] at h;simp only[cond_true] at h;have put:∀ {x:ei} {v:x1} {st:x3->Prop},K (dO e o.dst x) st->x.val=v-> ∃aa,K aa st/\T6 N aa (a.put o.dst v):=λh1 ab=>⟨_,h1,Y.put ah ab⟩;cases J:o.op with
  |move x=>
   rw[J] at h;simp only at h;cases W:ew e x with
   |none=>rw[W] at h;exact h.elim
   |some y=>
    rw[W] at h;have all:∀w':x3,(execOp a.eval o).run P w'= .ok (.value y.val) w':=λw'=>by
     rw[jK Y hk (by simp[J])];unfold execOp;simp only[J,W8,k7 W]
    exact⟨y.val,_,λw' _=>all w',put h rfl,Ξ,λ_ _ U _=>all U⟩
  |assign x=>
   rw[J] at h;simp only at h;cases W:ew e x with
   |none=>rw[W] at h;exact h.elim
   |some y=>
    rw[W] at h;have all:∀w':x3,(execOp a.eval o).run P w'= .ok (.value y.val) w':=λw'=>by
     rw[jK Y hk (by simp[J])];unfold execOp;simp only[J,W8,k7 W]
    exact⟨y.val,_,λw' _=>all w',put h rfl,Ξ,λ_ _ U _=>all U⟩
  |pick c x y=>
   rw[J] at h;simp only at h;have ad:=hk;rw[J] at ad;obtain⟨al,W⟩:=xo ad (x:=x) (by simp[opsOf]);obtain⟨am,ag⟩:=xo ad (x:=y) (by simp[opsOf]);have ac:∀ (t:Bool) (w':x3),cN e c= .bool t->(execOp a.eval o).run P w'= .ok (.value (if t=true then cN e x else cN e y)) w':=by
    intro t w' ae;rw[jK Y hk (by simp[J])];unfold execOp;simp[J,ae,asBool,W8]
   cases V:ew e c with
   |none=>rw[V] at h;exact h.elim
   |some ai=>
    rw[V] at h;cases ai with
    |b t=>
     cases t with
     |true=>
      simp only[W] at h;exact⟨_,_,λw' _=>ac true w' (k7 V),put h (by simp[k7 W]),Ξ,λ_ _ w' _=>ac true w' (k7 V)⟩
     |false=>
      simp only[ag] at h;exact⟨_,_,λw' _=>ac false w' (k7 V),put h (by simp[k7 ag]),Ξ,λ_ _ w' _=>ac false w' (k7 V)⟩
    |v z=>
     obtain⟨t,aj,ae,ak⟩:=h;have X:=λw'=>ac t w' (by rw[k7 V];exact aj);cases t with
     |true=>exact⟨_,_,λw' _=>X w',put (ae rfl) rfl,Ξ,λ_ _ w' _=>X w'⟩
     |false=>exact⟨_,_,λw' _=>X w',put (ak rfl) rfl,Ξ,λ_ _ w' _=>X w'⟩
    |u=>exact h.elim
  |call c=>
   rw[J] at h;simp only at h;cases V:c.callee with
   |builtin b=>
    rw[V] at h;simp only at h;rw[tx] at h;cases I:nN b c.argTypes o.type (c.args.map (cN e)) with
    |none=>rw[I] at h;exact h.elim
    |some s=>
     rw[I] at h;obtain⟨v,X,af⟩:=h;have all:∀w':x3,s.run P w'= .ok v w'->(execOp a.eval o).run P w'= .ok (.value v) w':=λw' X=>by
      rw[jK Y hk (by simp[J])];unfold execOp;cases b<;>simp only[nN] at I<;>first|(cases I;done)|(cases I;simp[J,V,resolve,invoke,builtin,X,X9])
     exact⟨v,_,λw' hw=>all w' (X w' hw),put af rfl,Ξ,λw' h1 U ab=>all U (h1 U ab)⟩
   |value x=>rw[V] at h;exact h.elim
   |invoke x m=>rw[V] at h;exact h.elim
  |_=>
   rw[J] at h
   first
    |(simp only[pd] at h;done)
    |(obtain⟨v,X,af⟩:=h
      refine⟨v,_,λw' hw=>?_,put af rfl,Ξ,λw' h1 U ab=>?_⟩
      .rw[jK Y hk (by simp[J])];exact tA P (by rw[J];rfl) (X w' hw)
      .rw[jK Y hk (by simp[J])];exact tA P (by rw[J];rfl) (h1 U ab))
theorem Eu {free:fh} {K:Env->x3->Prop} {Q:Exit->Act->x3->Prop} (h:tB P free o e w K) (U:T6 N e a) (aa:jh N o.dst=true):
  o.wpIn (eg r) 0 P a w (e3 N free K o a w) Q:=by
 unfold tB at h;cases hk:known e (opsOf o.op) with
 |false=>rw[hk] at h;exact h.elim
 |true=>
  rw[hk] at h;simp only[cond_true] at h;cases J:o.op with
  |call c=>
   rw[J] at h;simp only at h;cases ab:c.callee with
   |builtin b=>
    rw[ab] at h;simp only at h;rw[tx] at h;cases I:nN b c.argTypes o.type (c.args.map (cN e)) with
    |none=>rw[I] at h;exact h.elim
    |some s=>
     rw[I] at h;obtain⟨v,w',V,X,Y⟩:=h;refine pe U hk (by simp[J]) (by simp[J]) (v:=v) (w':=w') ?_ (e3.of Y U aa rfl λ_=>X.b);unfold execOp;cases b<;>simp only[nN] at I<;>first|(cases I;done)|(cases I;simp[J,ab,resolve,invoke,builtin,V,X9])
   |value x=>
    rw[ab] at h;have step:∀ (d:Deferred) (y:x1),cN e x=y->Deferred.ofValue y (c.args.map (cN e))=pure d->
      (invoke d.target d.args).run P w=(execOp (cN e) o).run P w:=by
     intro d y W al;unfold execOp;simp only[J,ab,resolve,W,al,X8,W8,X9]
    have ae:∀ (g:S6) (first cap:Array x1),cN e x= .func (.func g) first cap->
      (execOp (cN e) o).run P w=(callFunc g (first.toList++bL (cN e) c.args.toList++cap.toList).toArray).run P w:=by
     intro g first cap W
     rw[<-step {target:=.fn (.func g) cap,args:=first++c.args.map (cN e)} _ W rfl];simp only[invoke];have af:first++c.args.map (cN e)++cap=(first.toList++bL (cN e) c.args.toList++cap.toList).toArray:=by apply Array.toList_inj.1;simp[qT]
     rw[af]
    have enter:∀ (g:S6) (first cap:Array x1),cN e x= .func (.func g) first cap->Enters P g->
      (execOp (cN e) o).run P w= .ok (.enter g (first.toList++bL (cN e) c.args.toList++cap.toList).toArray) w:=by
     intro g first cap W ac
     rw[ae g first cap W,ac]
    have go:∀ (g:S6) (first cap:Array x1),cN e x= .func (.func g) first cap->
      (bif free.1 then gb P g (first.toList++bL (cN e) c.args.toList++cap.toList) w λv w'=>K (dO e o.dst (.v v)) w'
       else aj P g (first.toList++bL (cN e) c.args.toList++cap.toList) w λv w'=>K (dO e o.dst (.v v)) w')->
      o.wpIn (eg r) 0 P a w (e3 N free K o a w) Q:=by
     intro g first cap W h
     obtain⟨fr,am⟩:=free;cases fr with
     |true=>
      rcases h with⟨ac,ag⟩|⟨v,w',V,Y⟩
      .refine⟨λ_ _=>trivial,?_⟩;rw[U7.semAt_eq _ _ _ (by simp[J]),jK U hk (by simp[J])];rw[enter g first cap W ac];exact xn U aa (ag.mono λad w' ⟨v,h1,ah⟩=>⟨v,h1,(λh=>by cases h),ah⟩)
      .rw[<-ae g first cap W] at V;exact pe U hk (by simp[J]) (by simp[J]) V (e3.of Y U aa rfl λh=>by cases h)
     |false=>
      rcases h with⟨ac,ag⟩|⟨v,w',V,X,Y⟩
      .refine⟨λ_ _=>trivial,?_⟩;rw[U7.semAt_eq _ _ _ (by simp[J]),jK U hk (by simp[J])];rw[enter g first cap W ac];exact xn U aa (ag.mono λad w' ⟨v,h1,X,ah⟩=>⟨v,h1,λ_=>X.b,ah⟩)
      .rw[<-ae g first cap W] at V;exact pe U hk (by simp[J]) (by simp[J]) V (e3.of Y U aa rfl λ_=>X.b)
    have ai:qU P free.1 (cN e x) (bL (cN e) c.args.toList) w (λv w'=>K (dO e o.dst (.v v)) w')->
      o.wpIn (eg r) 0 P a w (e3 N free K o a w) Q:=by
     intro h;unfold qU at h;split at h
     .rename_i g first cap W
      exact go g first cap W h
     .rename_i l first cap W
      obtain⟨fn,tmps,ak,body,an,ao⟩:hh P l (first.toList++bL (cN e) c.args.toList) w λv w'=>(free.1=false->cr free.2 w w')/\K (dO e o.dst (.v v)) w':=by
       obtain⟨fr,am⟩:=free;cases fr with
       |true=>exact hh.mono h.2 λv w' hk=>⟨(λh=>by cases h),hk⟩
       |false=>exact hh.mono h λv w' hk=>⟨λ_=>hk.1.b,hk.2⟩
      refine⟨λ_ _=>trivial,?_⟩;rw[U7.semAt_eq _ _ _ (by simp[J]),jK U hk (by simp[J])];have:(execOp (cN e) o).run P w= .ok (.round l fn tmps ak body) w:=by
       rw[<-step {target:=.fn (.yield l) cap,args:=first++c.args.map (cN e)} _ W rfl,<-an];have af:(first.toList++bL (cN e) c.args.toList).toArray=first++c.args.map (cN e):=by apply Array.toList_inj.1;simp[qT]
       rw[af];rfl
      rw[this,U7.uponIn_round];refine⟨tw _ _,?_⟩;have ap:RoundIn (eg r) (0-1) P l fn tmps ak body w λad w'=>∃v,ad= .returned v/\(free.1=false->cr free.2 w w')/\K (dO e o.dst (.v v)) w':=ao;refine RoundIn.mono ap ?_;rintro ad w' ⟨v,rfl,X,Y⟩;exact e3.of Y U aa rfl X
     .exact h.elim
    cases x with
    |func f=>exact go f #[] #[] rfl (by simpa using h)
    |tmp t=>exact ai h
    |const v=>exact ai h
    |global g=>exact ai h
   |invoke x m=>rw[ab] at h;exact h.elim
  |next x str=>
   rw[J] at h;obtain⟨v,w',V,X,Y⟩:=h;refine pe U hk (by simp[J]) (by simp[J]) (v:=v) (w':=w') ?_ (e3.of Y U aa rfl X);rw[Eo _ _ o.type] at V;unfold execOp;simp only[J,X8,V,X9,W8]
  |_=>
   rw[J] at h
   first
    |(simp only[pd,tz] at h;done)
    |(obtain⟨v,w',V,X,Y⟩:=h
      exact pe U hk (by simp[J]) (by simp[J]) (tA P (by rw[J];rfl) V) (e3.of Y U aa rfl λ_=>X.b))
    |(obtain⟨v,w',V,X,Y⟩:=h
      exact Et U hk (by simp[J]) (by simp[J]) (Ep P (by rw[J];rfl) V) (e3.of Y U aa rfl λ_=>X.b))
theorem qV {free:fh} {K:Env->x3->Prop} {Q:Exit->Act->x3->Prop} (h:nO P free o e w K) (J:T6 N e a) (U:jh N o.dst=true):
  o.wpIn (eg r) 0 P a w (e3 N free K o a w) Q:=by
 unfold nO at h;cases V:iH o with
 |false=>rw[V] at h;exact Eu h J U
 |true=>
  rw[V] at h;have h:k6 P o e w (λI _=>K I w):=h;obtain⟨v,st,W,⟨I,X,Y⟩,aa,_⟩:=xp h J U;refine⟨λ_ _=>trivial,?_⟩;rw[U7.semAt_eq _ _ _ aa,W w (Ext.refl _),U7.uponIn_value];exact⟨I,v,X,Y,rfl,λ_=>cr.refl _ _⟩
end
section
variable {P:W0}
def Still {α:Type} (P:W0) (s:Sem α):Prop:=∀w v J,s.run P w= .ok v J->J=w/\ ∀w',s.run P w'= .ok v w'
theorem Still.pure {α:Type} (a:α):Still P (Pure.pure a:Sem α):=λw v J h=>by
 rw[W8] at h;cases h;exact⟨rfl,λw'=>by rw[W8]⟩
theorem Still.bind {α β:Type} {s:Sem α} {f:α->Sem β} (I:Still P s) (W:∀a,Still P (f a)):Still P (s >>= f):=λw v J h=>by
 rw[X8] at h;cases U:s.run P w with
 |halt x V=>rw[U] at h;simp[X9] at h
 |ok a V=>
  rw[U] at h;obtain⟨rfl,X⟩:=I w a V U;obtain⟨rfl,Y⟩:=W a _ v J h;exact⟨rfl,λw'=>by rw[X8,X w'];exact Y w'⟩
theorem Still.never {α:Type} {s:Sem α} (h:∀w v J,s.run P w≠ .ok v J):Still P s:=λw v J h'=>absurd h' (h w v J)
theorem Still.stuck {α:Type} (m:String):Still P (stuck m:Sem α):=.never λw v J h=>by simp[Go.stuck] at h
theorem Still.unsupported {α:Type} (m):Still P (unsupported m:Sem α):=.never λw v J h=>by simp[Go.unsupported] at h
theorem Still.program:Still P program:=λw v J h=>by cases h;exact⟨rfl,λ_=>rfl⟩
theorem Still.underlying (t:r9):Still P (underlying t):=Still.bind .program λp=>by
 cases p.underlying t with
 |some d=>exact Still.pure d
 |none=>exact Still.stuck _
theorem Still.typeInfo (t:r9):Still P (typeInfo t):=Still.bind .program λp=>by
 cases p.info? t with
 |some d=>exact Still.pure d
 |none=>exact Still.stuck _
theorem Still.sizeOf (t:r9):Still P (sizeOf t):=Still.bind (.typeInfo t) λ_=>Still.pure _
theorem Still.boundsPanic {α:Type} (k:o4) (x y:Int) (c:BoundsCode):Still P (boundsPanic k x y c:Sem α):=.never λw v J h=>by
 have I:∀ (s:Sem Bool) (w:x3) (v:α) (J:x3),(s >>= λb=>(runtimePanic (.bounds (Y9.wrap x) y b c):Sem α)).run P w≠ .ok v J:=by
  intro s w v J h;rw[X8] at h;cases U:s.run P w with
  |halt x V=>rw[U] at h;simp[X9] at h
  |ok a V=>rw[U] at h;simp[X9,Go.runtimePanic,Go.goPanic] at h
 unfold Go.boundsPanic at h;dsimp only at h;split at h
 .exact I _ _ _ _ h
 .exact I _ _ _ _ h
theorem Still.asIntOf (v:x1):Still P (asIntOf v):=by
 unfold Go.asIntOf;split
 .exact Still.pure _
 .exact Still.unsupported _
 .exact Still.stuck _
theorem Still.sureAddr (v:x1):Still P (Instr.sureAddr v):=by
 unfold Instr.sureAddr;split
 .exact Still.pure _
 .exact Still.stuck _
theorem Still.extract (v:x1) (i:Nat):Still P (Z1 v i):=by
 unfold Z1;split
 .split
  .exact Still.pure _
  .exact Still.stuck _
 .exact Still.stuck _
theorem Still.indexAt (t:r9) (x i:x1):Still P (j5 t x i):=by
 have tail:∀ (t:r9) (k:o4) (i:Int) (base:Option Addr) (len:Nat) (I:r9),Still P (do
   let J:=len<=1&&(match <-Go.underlying t with| .array ..=>true|_=>false)
   match base with
   |some a=>
    if 0<=i/\i<len then Pure.pure (x1.pointer (σ (a.add (i.toNat*(<-Go.sizeOf I)))))
    else if J then Go.unsupported (.noEntry "op/indexAddr.an index out of range at an array of length 0 or 1 (ledger 616)")
    else Go.boundsPanic k i len .index
   |none=>Go.boundsPanic k i 0 .index):=by
  intro t k i base len I;refine .bind (.underlying t) λd=>?_;cases base with
  |none=>exact Still.boundsPanic _ _ _ _
  |some a=>
   dsimp only;split
   .exact .bind (.sizeOf I) λ_=>.pure _
   .split<;>split<;>first|exact Still.unsupported _|exact Still.boundsPanic _ _ _ _
 unfold j5;refine .bind (.asIntOf i) λU=>?_;refine .bind (.underlying t) λd=>?_;split
 .refine .bind (.sureAddr _) λb=>?_;refine .bind (.pure _) λy=>?_;exact tail _ _ _ _ _ _
 .refine .bind (.pure _) λy=>?_;exact tail _ _ _ _ _ _
 .refine .bind (.stuck _) λy=>?_;exact tail _ _ _ _ _ _
end
section
variable (P:W0)
def qW (free:fh) (ops:Array U7) (o:U7) (e:Env) (w:x3) (K:Env->x3->Prop):Prop:=
 match o.guard with
 |none=>nO P free o e w K
 |some (j,b)=>
  match (ops[j]?).bind (·.dst) with
  |none=>False
  |some s=>
   match look e s with
   |some (.b c)=>bif xor c b then K (dO e o.dst .u) w else nO P free o e w K
   |some (.v x)=>
    Split x (bif b then nO P free o ((s,.b true)::e) w K else K (dO ((s,.b true)::e) o.dst .u) w)
     (bif b then K (dO ((s,.b false)::e) o.dst .u) w else nO P free o ((s,.b false)::e) w K)
   |some .u=>K (dO e o.dst .u) w
   |none=>False
def nP (free:fh) (ops:Array U7):List U7->Env->x3->(Env->x3->Prop)->Prop
 |[],e,w,K=>K e w
 |o::l,e,w,K=>qW P free ops o e w λI w'=>nP free ops l I w' K
def tC (ops:Array U7) (o:U7) (e:Env) (w:x3) (K:Env->(x3->Prop)->Prop):Prop:=
 match o.guard with
 |none=>k6 P o e w K
 |some (j,b)=>
  match (ops[j]?).bind (·.dst) with
  |none=>False
  |some s=>
   match look e s with
   |some (.b c)=>bif xor c b then K (dO e o.dst .u) (λ_=>True) else k6 P o e w K
   |some (.v x)=>
    Split x (bif b then k6 P o ((s,.b true)::e) w K else K (dO ((s,.b true)::e) o.dst .u) (λ_=>True))
     (bif b then K (dO ((s,.b false)::e) o.dst .u) (λ_=>True) else k6 P o ((s,.b false)::e) w K)
   |some .u=>K (dO e o.dst .u) (λ_=>True)
   |none=>False
def k8 (o:U7):Bool:=
 match o.op with
 | .move _| .assign _| .extract .. | .indexAddr ..=>true
 |_=>false
def lM (ops:Array U7):List Nat->Option Nat
 |[]=>ν
 |i::r=>match ops[i]? with
  |some o=>bif iH o then σ i else lM ops r
  |none=>lM ops r
def tD (p:Nat->Prop):List Nat->Prop
 |[]=>True
 |[i]=>p i
 |i::r=>p i/\tD p r
def kt (bs:Array Nat) (j k:Nat):Bool:=!(T1 k j)&&(!((bs.getD j 0).testBit k)&& !((bs.getD k 0).testBit j))
def pf (same:Bool) (q:Nat) (w:x3) (st:x3->Prop) (I:List (x3×List (Nat×(x3->Prop)))):List (x3×List (Nat×(x3->Prop))):=
 match same,I with
 |true,g::r=>(g.1,(q,st)::g.2)::r
 |_,I=>(w,[(q,st)])::I
def pg (bs:Array Nat) (j:Nat):List (Nat×(x3->Prop))->Bool
 |[]=>false
 |x::r=>kt bs j x.1||pg bs j r
def nQ (bs:Array Nat) (j:Nat) (w':x3):List (Nat×(x3->Prop))->Prop
 |[]=>True
 |x::r=>bif kt bs j x.1 then x.2 w'/\nQ bs j w' r else nQ bs j w' r
def mF (bs:Array Nat) (j:Nat) (w':x3) (C:Prop):List (x3×List (Nat×(x3->Prop)))->Prop
 |[]=>C
 |g::r=>bif pg bs j g.2 then (Ext g.1 w'\/nQ bs j w' g.2)/\mF bs j w' C r else mF bs j w' C r
def lN (free:fh) (ops:Array U7) (bs:Array Nat):Nat->Array Bool->Bool->List (x3×List (Nat×(x3->Prop)))->Env->x3->(Env->x3->Prop)->Prop
 |0,I,_,_,e,w,K=>match Region.ready .any ops I with|[]=>K e w|_=>False
 |fuel+1,I,same,J,e,w,K=>
  match Region.ready .any ops I with
  |[]=>K e w
  |i::r=>
   match lM ops (i::r) with
   |some q=>
    bif Region.free .any ops I q then
     match ops[q]? with
     |some o=>tC P ops o e w λU st=>
       bif k8 o then lN free ops bs fuel (I.setIfInBounds q true) same J U w K
       else lN free ops bs fuel (I.setIfInBounds q true) true (pf same q w st J) U w K
     |none=>False
    else False
   |none=>
    tD (λj=>match ops[j]? with
     |some o=>qW P free ops o e w λU w'=>mF bs j w' (lN free ops bs fuel (I.setIfInBounds j true) false J U w' K) J
     |none=>False) (i::r)
def tE (free:fh) (ops:Array U7) (e:Env) (w:x3) (K:Env->x3->Prop):Prop:=
 bif Region.noSelect ops then lN P free ops (Region.before ops) ops.size (Array.replicate ops.size false) false [] e w K else False
end
section
variable {P:W0} {N:Nat} {r:Option Nat} {free:fh} {ops:Array U7}
theorem Ev {e:Env} {a:Act} (U:T6 N e a) {s:Nat} {c:Bool} (V:(ops[j]?).bind (·.dst)=σ s) {x:ei} (I:look e s=σ x) (W:x.val= .bool c):
  yielded ops a.tmps j=σ c:=by
 have h:=U.2 s x I;rw[W] at h;have X:a.tmps[s]? =σ (.bool c):=by
  rw[Array.getD_eq_getD_getElem?] at h;cases J:a.tmps[s]? with
  |none=>rw[J] at h;simp[undef] at h
  |some y=>rw[J] at h;simpa using h
 simp[yielded,V,X]
theorem qX {e:Env} {a:Act} (J:T6 N e a) {o:U7} {s:Nat} {b c:Bool} (U:o.guard=σ (j,b)) (V:(ops[j]?).bind (·.dst)=σ s) {x:ei}
  (I:look e s=σ x) (W:x.val= .bool c):Region.wanted o (yielded ops a.tmps)= !(xor c b):=by
 simp only[Region.wanted,U,Ev J V I W];cases c<;>cases b<;>rfl
theorem xq {e:Env} {a:Act} (U:T6 N e a) {o:U7} {s:Nat} {b:Bool} (V:o.guard=σ (j,b)) (W:(ops[j]?).bind (·.dst)=σ s)
  (I:look e s=σ .u):Region.wanted o (yielded ops a.tmps)=false:=by
 have h:=U.2 s .u I;have X:yielded ops a.tmps j=ν:=by
  rw[Array.getD_eq_getD_getElem?] at h;unfold yielded;rw[W];cases J:a.tmps[s]? with
  |none=>simp[J]
  |some y=>
   rw[J] at h;simp only[V4,ei.val] at h;subst h;simp[J,undef]
 simp[Region.wanted,V,X]
theorem T6.lit {e:Env} {a:Act} (U:T6 N e a) {s:Nat} {x:ei} {c:Bool} (I:look e s=σ x) (W:x.val= .bool c):T6 N ((s,.b c)::e) a:=by
 refine⟨U.1,λt y J=>?_⟩;simp only[look] at J;cases V:T1 s t with
 |true=>
  have:s=t:=Nat.eq_of_beq_eq_true V;subst this;simp only[V,cond_true,Y6] at J;subst J;rw[U.2 s x I,W];rfl
 |false=>simp only[V,cond_false] at J;exact U.2 t y J
theorem xr {o:U7} {e:Env} {a:Act} {K:Env->x3->Prop} {Q:Exit->Act->x3->Prop} (h:qW P free ops o e w K) (J:T6 N e a) (U:jh N o.dst=true):
  (Region.wanted o (yielded ops a.tmps)=true/\o.wpIn (eg r) 0 P a w (e3 N free K o a w) Q)\/
  (Region.wanted o (yielded ops a.tmps)=false/\e3 N free K o a w (a.put o.dst undef) w):=by
 unfold qW at h;cases V:o.guard with
 |none=>rw[V] at h;exact .inl ⟨by simp[Region.wanted,V],qV h J U⟩
 |some ac=>
  obtain⟨j,b⟩:=ac;rw[V] at h;simp only at h;cases W:(ops[j]?).bind (·.dst) with
  |none=>rw[W] at h;exact h.elim
  |some s=>
   rw[W] at h;simp only at h;cases I:look e s with
   |none=>rw[I] at h;exact h.elim
   |some x=>
    rw[I] at h;cases x with
    |b c=>
     simp only at h;have hw:=qX J V W I (c:=c) rfl;cases ab:xor c b with
     |true=>
      rw[ab] at h hw;exact .inr ⟨hw,e3.of h J U rfl λ_=>cr.refl _ _⟩
     |false=>
      rw[ab] at h hw;exact .inl ⟨hw,qV h J U⟩
    |v y=>
     simp only at h;obtain⟨c,rfl,X,Y⟩:=h;have hw:=qX J V W I (c:=c) rfl;have aa:=J.lit I (c:=c) rfl;cases c with
     |true=>
      have X:=X rfl;cases b with
      |true=>exact .inl ⟨hw,qV X aa U⟩
      |false=>exact .inr ⟨hw,e3.of X aa U rfl λ_=>cr.refl _ _⟩
     |false=>
      have Y:=Y rfl;cases b with
      |true=>exact .inr ⟨hw,e3.of Y aa U rfl λ_=>cr.refl _ _⟩
      |false=>exact .inl ⟨hw,qV Y aa U⟩
    |u=>exact .inr ⟨xq J V W I,e3.of h J U rfl λ_=>cr.refl _ _⟩
def gd (D:List Nat) (a a':Act):Prop:=a'.defers=a.defers/\ ∀t,t∉D->a'.tmps.getD t undef=a.tmps.getD t undef
theorem gd.refl (D:List Nat) (a:Act):gd D a a:=⟨rfl,λ_ _=>rfl⟩
theorem gd.trans {a b c:Act} (h:gd D a b) (k:gd D b c):gd D a c:=⟨k.1.trans h.1,λt I=>(k.2 t I).trans (h.2 t I)⟩
theorem gd.put (a:Act) {d:Option Tmp} (v:x1) (I:∀t,d=σ t->t∈D):gd D a (a.put d v):=by
 cases d with
 |none=>exact gd.refl _ _
 |some s=>
  refine⟨rfl,λt J=>?_⟩;have U:s≠t:=λh=>J (h▸I s rfl);simp only[Act.put,Array.getD_eq_getD_getElem?];rw[Array.getElem?_setIfInBounds_ne U]
def lO (N:Nat) (free:fh) (K:Env->x3->Prop) (D:List Nat) (a:Act) (w:x3) (a':Act) (w':x3):Prop:=
 ∃I,K I w'/\T6 N I a'/\gd D a a'/\(free.1=false->cr free.2 w w')
theorem lO.step {K:Env->x3->Prop} {a I a':Act} {J:x3} (h:lO N free K D I J a' w') (hk:gd D a I) (V:free.1=false->cr free.2 w J):
  lO N free K D a w a' w':=by
 obtain⟨W,h1,X,Y,aa⟩:=h;exact⟨W,h1,X,hk.trans Y,λU=>(V U).trans (aa U)⟩
def mG (N:Nat) (l:List U7):Bool:=l.all λo=>jh N o.dst
theorem Ew {K:Env->x3->Prop} {Q:Exit->Act->x3->Prop} (ac:∀o∈ops.toList,∀t,o.dst=σ t->t∈D) (Y:mG N ops.toList=true):
  ∀ (l:List U7) (k:Nat) (e:Env) (a:Act) (w:x3),(∀j,l[j]? =ops[k+j]?)->nP P free ops l e w K->T6 N e a->
   (∀a' w',lO N free K D a w a' w'->Q .normal a' w')->wpOpsIn (eg r) 0 P ops Q (List.range' k l.length) a w:=by
 intro l;induction l with
 |nil=>
  intro k e a w _ h I U;exact U a w ⟨e,h,I,gd.refl _ _,λ_=>cr.refl _ _⟩
 |cons o l ad=>
  intro k e a w aa h I U;have V:=aa 0;simp only[List.getElem?_cons_zero,Nat.add_zero] at V;have ab:o∈ops.toList:=by
   have:=V.symm;rw[<-T8] at this;exact x5 this
  have ae:jh N o.dst=true:=by
   simp only[mG,List.all_eq_true] at Y;exact Y o ab
  have af:∀j,l[j]? =ops[k+1+j]?:=λj=>by
   have:=aa (j+1);rw[List.getElem?_cons_succ] at this;rw[this];congr 1;omega
  have next:∀W J,e3 N free (λag w'=>nP P free ops l ag w' K) o a w W J->wpOpsIn (eg r) 0 P ops Q (List.range' (k+1) l.length) W J:=by
   rintro W J ⟨ah,v,ai,aj,rfl,ak⟩;refine ad (k+1) ah _ J af ai aj λa' w' al=>U a' w' (al.step (gd.put a v λt am=>ac o ab t am) ak)
  simp only[nP] at h;show wpOpsIn (eg r) 0 P ops Q (k::List.range' (k+1) l.length) a w;unfold wpOpsIn;rw[<-V];simp only;rcases xr (r:=r) (Q:=Q) h I ae with⟨hw,X⟩|⟨hw,X⟩
  .rw[if_pos hw];exact U7.wpIn_mono next X
  .rw[hw];exact⟨λ_ _=>trivial,next _ _ X⟩
theorem Ex {K:Env->x3->Prop} {Q:Exit->Act->x3->Prop} {id:Nat} {e:Env} {a:Act} (I:∀o∈ops.toList,∀t,o.dst=σ t->t∈D)
  (J:mG N ops.toList=true) (h:nP P free ops ops.toList e w K) (U:T6 N e a) (V:∀a' w',lO N free K D a w a' w'->Q .normal a' w'):
  (Code.region id ops false).wpIn (eg r) 0 P Q a w:=by
 refine wpIn_region ?_;have:=Ew (r:=r) I J ops.toList 0 e a w (λj=>Ξ) h U V;rw[List.range_eq_range'];simpa using this
end
section
variable {P:W0} {N:Nat} {r:Option Nat} {free:fh} {ops:Array U7} {Q:Exit->Act->x3->Prop}
theorem Ey (J:Option Nat) (o:U7) (I:∀cs b,o.op≠ .select cs b) (a:Act) (d:Option Tmp) (v:x1) (h:∀t,d=σ t->t∉o.looksAt ops):
  o.semAt J (a.put d v).eval=o.semAt J a.eval:=by
 have he:=execOp_put o I a d v h;unfold U7.semAt;split
 .rename_i l c U;have:resolve (a.put d v).eval c o.type=resolve a.eval c o.type:=resolve_congr c o.type λx V=>Act.eval_put λt W X=>h t W (by
   subst X;refine List.mem_append_left _ (List.mem_filterMap.2 ⟨.tmp t,?_,rfl⟩);rw[U];simpa[Op.operands] using V)
  rw[this]
 .exact he
def lP (o:U7) (w0:x3) (st:x3->Prop) (w':x3):Prop:=k8 o=true\/Ext w0 w'\/ ∃J,st J/\Ext J w'
theorem lP.ext {o:U7} {w0:x3} {st:x3->Prop} (h:lP o w0 st w) (k:Ext w w'):lP o w0 st w':=by
 rcases h with h|h|⟨J,h1,I⟩
 .exact .inl h
 .exact .inr (.inl (h.trans k))
 .exact .inr (.inr ⟨J,h1,I.trans k⟩)
theorem Ez {o:U7} (hm:k8 o=true) {J:T5->x1} (h:(execOp J o).run P w= .ok (.value v) w):(execOp J o).run P w'= .ok (.value v) w':=by
 unfold k8 at hm;split at hm
 .rename_i x I;unfold execOp at h ⊢;simp only[I,W8,Result.ok.injEq,and_true] at h ⊢;exact h
 .rename_i x I;unfold execOp at h ⊢;simp only[I,W8,Result.ok.injEq,and_true] at h ⊢;exact h
 .rename_i x i I;unfold execOp at h ⊢;simp only[I] at h ⊢;exact ((Still.bind (Still.extract _ _) λ_=>Still.pure _) _ _ _ h).2 _
 .rename_i t x i I;unfold execOp at h ⊢;simp only[I] at h ⊢;exact ((Still.bind (Still.indexAt _ _ _) λ_=>Still.pure _) _ _ _ h).2 _
 .cases hm
def hI (P:W0) (ops:Array U7) (o:U7) (v:x1) (a:Act) (w0:x3->Prop):Prop:=
 (Region.wanted o (yielded ops a.tmps)=true/\(∀c,o.op≠ .defer c)/\ ∀w',w0 w'->(execOp a.eval o).run P w'= .ok (.value v) w')\/
 (Region.wanted o (yielded ops a.tmps)=false/\v=undef)
theorem hI.put {o J:U7} {a:Act} {w0:x3->Prop} (U:hI P ops o v a w0) (I:∀cs b,o.op≠ .select cs b) (h:∀t,J.dst=σ t->t∉o.looksAt ops) (u:x1):
  hI P ops o v (a.put J.dst u) w0:=by
 unfold hI at*;rw[execOp_put o I a J.dst u h,wanted_put o a J.dst u h];exact U
theorem hI.go {i:Nat} {I:U7} {a:Act} {w0:x3->Prop} (hi:ops[i]? =σ I) (J:hI P ops I v a w0) (hw:w0 w) {K:Act->x3->Prop} (h:K (a.put I.dst v) w):
  wpOpIn (eg r) 0 P ops Q i K a w:=by
 unfold wpOpIn;simp only[hi];rcases J with⟨h1,U,V⟩|⟨h1,rfl⟩
 .rw[if_pos h1];refine⟨λ_ _=>trivial,?_⟩;rw[U7.semAt_eq _ _ _ U,V w hw,U7.uponIn_value];exact h
 .rw[h1];exact⟨λ_ _=>trivial,h⟩
theorem EA {I U:U7} (Y:ops[j]? =σ U) (aa:I.apart ops U=true) (ab:∀cs b,I.op≠ .select cs b) (ac:∀cs b,U.op≠ .select cs b)
  (W:∀c a w,¬Q (.panic c) a w) {K:Act->x3->Prop} {a:Act} {w:x3} {w0:x3->Prop} (J:hI P ops I v a w0) (h:wpOpIn (eg r) 0 P ops Q j K (a.put I.dst v) w):
  wpOpIn (eg r) 0 P ops Q j (λa' w'=>hI P ops I v a' w0/\K (a'.put I.dst v) w') a w:=by
 obtain⟨h1,V,ad⟩:=U7.apart_spec aa;have aX:∀ (a:Act),hI P ops I v a w0-> ∀u,hI P ops I v (a.put U.dst u) w0:=λa J u=>J.put ab ad u;have ae:∀d,hI P ops I v {a with defers:=d::a.defers} w0:=λd=>J;unfold wpOpIn at*;simp only[Y] at*;rw[wanted_put U a I.dst v h1] at h;split
 .rename_i hw;simp only[hw,if_true] at h;obtain⟨_,h⟩:=h;refine⟨λ_ _=>trivial,?_⟩;rw[Ey _ U ac a I.dst v h1] at h;generalize (U.semAt (eg r).round a.eval).run P w=res at*;cases res with
  |ok n w'=>
   cases n<;>simp only[U7.uponIn] at h ⊢
   case value u=>exact⟨aX a J u,by rw[<-Act.put_comm a v u V];exact h⟩
   case skip=>exact⟨aX a J _,by rw[<-Act.put_comm a v undef V];exact h⟩
   case defer d=>
    refine⟨aX _ (ae d) _,?_⟩;rw[<-Act.put_comm _ v undef V,<-Act.put_defers];exact h
   case enter f args=>
    refine⟨h.1,CallsIn.mono h.2 λe X he=>?_⟩;cases e with
    |returned u=>exact⟨aX a J u,by rw[<-Act.put_comm a v u V];exact he⟩
    |panicked c=>exact absurd he (W _ _ _)
    |outgrown=>exact he
   case row row args=>exact⟨h.1,RowsIn.mono h.2 λu X he=>⟨aX a J u,by rw[<-Act.put_comm a v u V];exact he⟩⟩
   case round l f tmps af body=>
    refine⟨h.1,RoundIn.mono h.2 λe X he=>?_⟩;cases e with
    |returned u=>exact⟨aX a J u,by rw[<-Act.put_comm a v u V];exact he⟩
    |panicked c=>exact absurd he (W _ _ _)
    |outgrown=>exact he
  |halt x w'=>
   cases x<;>simp only[U7.uponIn] at h ⊢
   case panic u=>exact absurd h (W _ _ _)
 .rename_i hw;simp only[hw] at h;exact⟨λ_ _=>trivial,aX a J _,by rw[<-Act.put_comm a v undef V];exact h.2⟩
def k9 (ops:Array U7) (bs:Array Nat):Bool:=
 (W7 ops.size).all λj=>(W7 ops.size).all λk=>!((bs.getD j 0).testBit k)||
  (match ops[j]? with
   |some o=>o.after.any λe=>Region.binds .any e&&Nat.blt e.on j&&(T1 e.on k||(bs.getD e.on 0).testBit k)
   |none=>false)
def Down (ops:Array U7) (I:Array Bool):Prop:=
 ∀ (x:Nat) (o:U7),ops[x]? =σ o->I.getD x false=true-> ∀e∈o.after,Region.binds .any e=true->I.getD e.on false=true
theorem xt {bs:Array Nat} (J:k9 ops bs=true) {k:Nat} (V:j<ops.size) (hk:k<ops.size) (h:(bs.getD j 0).testBit k=true):
  ∃o,ops[j]? =σ o/\ ∃e∈o.after,Region.binds .any e=true/\e.on<j/\(e.on=k\/(bs.getD e.on 0).testBit k=true):=by
 simp only[k9,List.all_eq_true,List.mem_range] at J;have:=J j V k hk;rw[h] at this;simp only[Z8,Bool.false_or] at this;cases U:ops[j]? with
 |none=>rw[U] at this;cases this
 |some o=>
  rw[U] at this;obtain⟨e,he,I⟩:=Array.any_eq_true'.1 this;simp only[U2,Nat.blt_eq,Bool.or_eq_true] at I;exact⟨o,rfl,e,he,I.1.1,I.1.2,I.2.imp (λh=>Nat.eq_of_beq_eq_true h) id⟩
theorem EB {bs:Array Nat} {I:Array Bool} (U:k9 ops bs=true) (V:Down ops I):∀ (j k:Nat),j<ops.size->k<ops.size->I.getD j false=true->
  (bs.getD j 0).testBit k=true->I.getD k false=true:=by
 intro j;induction j using Nat.strongRecOn with
 |_ j W=>
  intro k X hk Y h;obtain⟨o,aa,e,he,ab,ac,h⟩:=xt U X hk h;have J:=V j o aa Y e he ab;rcases h with rfl|h
  .exact J
  .exact W e.on ac k Ω hk J h
theorem xu {bs:Array Nat} {I:Array Bool} (J:k9 ops bs=true) (X:Down ops I) {k:Nat} (hk:k<ops.size) (Y:j∈Region.ready .any ops I)
  (h:(bs.getD j 0).testBit k=true):I.getD k false=true:=by
 obtain⟨_,o,U,aa⟩:=mem_ready.1 Y;have ab:=(o9.1 U).1;obtain⟨o',V,e,he,ac,ad,h⟩:=xt J ab hk h;rw[U] at V;cases V;have W:=aa e he ac;rcases h with rfl|h
 .exact W
 .exact EB J X e.on k Ω hk W h
theorem Down.set {I:Array Bool} (Y:Down ops I) {i:Nat} (aa:i∈Region.ready .any ops I):Down ops (I.setIfInBounds i true):=by
 intro x o J U e he V;by_cases W:x=i
 .subst W;obtain⟨_,o',X,ab⟩:=mem_ready.1 aa;rw[J] at X;cases X;exact getD_set_true (ab e he V)
 .rw[getD_set_ne false (Ne.symm W)] at U;exact getD_set_true (Y x o J U e he V)
theorem tF {I:Array Bool} {k:Nat} (h:I.getD k true=false):I.getD k false=false:=by
 rcases Nat.lt_or_ge k I.size with h'|h'
 .simpa[h'] using h
 .simp[Array.getElem?_eq_none h'] at h
def lQ (ops:Array U7) (i:Nat):Bool:=match ops[i]? with
 |some o=>iH o
 |none=>false
def lR (bs:Array Nat) (I:List (x3×List (Nat×(x3->Prop)))) (j:Nat) (w':x3):Prop:=∀g∈I,∀x∈g.2,kt bs j x.1=true->Ext g.1 w'\/x.2 w'
theorem tG {bs:Array Nat} {j:Nat} {w':x3}:∀ {l:List (Nat×(x3->Prop))},nQ bs j w' l-> ∀x∈l,kt bs j x.1=true->x.2 w'
 |[],_,_,h,_=>by cases h
 |y::l,h,x,I,hu=>by
  unfold nQ at h;cases J:kt bs j y.1 with
  |true=>
   rw[J] at h;cases I with
   |head=>exact h.1
   |tail _ I=>exact tG h.2 x I hu
  |false=>
   rw[J] at h;cases I with
   |head=>rw[J] at hu;cases hu
   |tail _ I=>exact tG (show nQ bs j w' l from h) x I hu
theorem xv {bs:Array Nat} {j:Nat}:∀ {l:List (Nat×(x3->Prop))},pg bs j l=false-> ∀x∈l,kt bs j x.1=false
 |[],_,_,h=>by cases h
 |y::l,h,x,I=>by
  simp only[pg,T7] at h;cases I with
  |head=>exact h.1
  |tail _ I=>exact xv h.2 x I
theorem tH {bs:Array Nat} {j:Nat} {w':x3} {C:Prop}:∀ {X:List (x3×List (Nat×(x3->Prop)))},mF bs j w' C X->C/\lR bs X j w'
 |[],h=>⟨h,λg Y=>by cases Y⟩
 |g::r,h=>by
  unfold mF at h;cases hu:pg bs j g.2 with
  |true=>
   rw[hu] at h;obtain⟨h1,V⟩:=tH h.2;refine⟨h1,λW I x U J=>?_⟩;cases I with
   |head=>exact h.1.imp id λh=>tG h x U J
   |tail _ I=>exact V W I x U J
  |false=>
   rw[hu] at h;obtain⟨h1,V⟩:=tH (show mF bs j w' C r from h);refine⟨h1,λW I x U J=>?_⟩;cases I with
   |head=>rw[xv hu x U] at J;cases J
   |tail _ I=>exact V W I x U J
def tI (ops:Array U7) (bs:Array Nat) (I:List (x3×List (Nat×(x3->Prop)))) (j:Nat) (w w':x3):Prop:=(lQ ops j=true->Ext w w')/\(lQ ops j=false->lR bs I j w')
def h9 (r:Option Nat) (P:W0) (ops:Array U7) (bs:Array Nat) (Q:Exit->Act->x3->Prop):Nat->Array Bool->List (x3×List (Nat×(x3->Prop)))->Act->x3->Prop
 |0,I,_,a,w=>Region.ready .any ops I=[]/\Q .normal a w
 |fuel+1,I,J,a,w=>(Region.ready .any ops I=[]->Q .normal a w)/\
  ∀i∈Region.ready .any ops I,wpOpIn (eg r) 0 P ops Q i (λa' w'=>tI ops bs J i w w'/\h9 r P ops bs Q fuel (I.setIfInBounds i true) J a' w') a w
theorem h9.any {bs:Array Nat}:∀ (fuel:Nat) (I:Array Bool) (J:List (x3×List (Nat×(x3->Prop)))) (a:Act) (w:x3),h9 r P ops bs Q fuel I J a w->wpAnyIn (eg r) 0 P .any ops Q fuel I a w
 |0,_,_,_,_,h=>h
 |fuel+1,_,_,_,_,h=>⟨h.1,λi hi=>wpOpIn_mono (λa' w' h'=>h9.any fuel _ _ a' w' h'.2) (h.2 i hi)⟩
theorem EC {bs:Array Nat} {I:Array Bool} (J:k9 ops bs=true) (U:Down ops I) {i:Nat} {X:U7} (hi:ops[i]? =σ X)
  (V:i∈Region.ready .any ops I) (W:j∈Region.ready .any ops I) (Y:j≠i):kt bs j i=true:=by
 have aa:=(o9.1 hi).1;obtain⟨ab,af,ac,_⟩:=mem_ready.1 W;have ad:=(o9.1 ac).1;have ae:=(mem_ready.1 V).1;simp only[kt,U2,Bool.not_eq_true'];refine⟨?_,?_,?_⟩
 .cases h:T1 i j with
  |true=>exact absurd (Nat.eq_of_beq_eq_true h).symm Y
  |false=>rfl
 .cases h:(bs.getD j 0).testBit i with
  |true=>have:=xu J U aa W h;rw[tF ae] at this;cases this
  |false=>rfl
 .cases h:(bs.getD i 0).testBit j with
  |true=>have:=xu J U ad V h;rw[tF ab] at this;cases this
  |false=>rfl
theorem h9.take {bs:Array Nat} (ao:k9 ops bs=true) (ap:Region.noSelect ops=true) (aq:∀c a w,¬Q (.panic c) a w) {i:Nat} {J:U7} (hi:ops[i]? =σ J) (au:iH J=true)
  {w0:x3} {aa ev':List (x3×List (Nat×(x3->Prop)))} (af:∀j w',lR bs ev' j w'->lR bs aa j w') {st:x3->Prop} (av:k8 J=false-> ∀j w',kt bs j i=true->lR bs ev' j w'->Ext w0 w'\/st w'):
  ∀ (fuel:Nat) (I:Array Bool) (a:Act) (w:x3),Down ops I->
   (∀j X,ops[j]? =σ X->j≠i->I.getD j true=false->(∀e∈X.after,Region.binds .any e=true->e.on≠i)->J.apart ops X=true)->
   i∈Region.ready .any ops I->hI P ops J v a (lP J w0 st)->lP J w0 st w->
   h9 r P ops bs Q fuel (I.setIfInBounds i true) ev' (a.put J.dst v) w->h9 r P ops bs Q (fuel+1) I aa a w:=by
 have ag:=Region.noSelect_spec ap;have aw:lQ ops i=true:=by simp[lQ,hi,au]
 have hj:∀ (fuel:Nat) (I:Array Bool) (a:Act) (w:x3),h9 r P ops bs Q fuel I ev' a w->h9 r P ops bs Q fuel I aa a w:=by
  intro fuel;induction fuel with
  |zero=>intro I a w h;exact h
  |succ fuel ac=>intro I a w h;exact⟨h.1,λj V=>wpOpIn_mono (λa' w' h'=>⟨⟨h'.1.1,λad=>af _ _ (h'.1.2 ad)⟩,ac _ a' w' h'.2⟩) (h.2 j V)⟩
 have ah:∀w,tI ops bs aa i w w:=λw=>⟨λ_=>Ext.refl _,λh=>by rw[aw] at h;cases h⟩;intro fuel;induction fuel with
 |zero=>
  intro I a w _ _ W ab hw H;refine⟨λh=>(by rw[h] at W;cases W),λj V=>?_⟩;by_cases U:j=i
  .subst U;exact ab.go hi hw ⟨ah w,hj _ _ _ _ H⟩
  .have:=ready_mono V U;rw[H.1] at this;cases this
 |succ fuel ac=>
  intro I a w ai aj W ab hw H;refine⟨λh=>(by rw[h] at W;cases W),λj V=>?_⟩;by_cases U:j=i
  .subst U;exact ab.go hi hw ⟨ah w,hj _ _ _ _ H⟩
  .have h1:=H.2 j (ready_mono V U);have hu:=EC ao ai hi W V U;obtain⟨ak,X,ae,ax⟩:=mem_ready.1 V;have ay:∀e∈X.after,Region.binds .any e=true->e.on≠i:=λe he az aA=>by
    have h1:=ax e he az;rw[aA,tF (mem_ready.1 W).1] at h1;cases h1
   have aB:=EA ae (aj j X ae U ak ay) (λcs b=>ag i J cs b hi) (λcs b=>ag j X cs b ae) aq ab h1;have aC:∀k ok,ops[k]? =σ ok->k≠i->(I.setIfInBounds j true).getD k true=false->
     (∀e∈ok.after,Region.binds .any e=true->e.on≠i)->J.apart ops ok=true:=λk ok hk aD al aE=>by
    refine aj k ok hk aD ?_ aE;by_cases am:j=k
    .subst am;exact ak
    .rw[getD_set_ne true am] at al;exact al
   refine wpOpIn_mono (λa' w' Y=>⟨⟨Y.2.1.1,λad=>af _ _ (Y.2.1.2 ad)⟩,ac (I.setIfInBounds j true) a' w' (ai.set V) aC (ready_mono W (Ne.symm U)) Y.1 ?_ ?_⟩) aB
   .cases hm:k8 J with
    |true=>exact .inl hm
    |false=>
     cases an:lQ ops j with
     |true=>exact hw.ext (Y.2.1.1 an)
     |false=>exact .inr ((av hm j w' hu (Y.2.1.2 an)).imp id λh=>⟨w',h,Ext.refl _⟩)
   .rw[Array.setIfInBounds_comm _ _ U];exact Y.2.2
theorem xw {p:Nat->Prop}:∀ {l:List Nat},tD p l-> ∀i∈l,p i
 |[],_,_,h=>by cases h
 |[i],h,j,I=>by cases I with
  |head=>exact h
  |tail _ h=>cases h
 |i::k::l,h,j,I=>by
  obtain⟨h1,J⟩:=h;cases I with
  |head=>exact h1
  |tail _ I=>exact xw J j I
theorem tJ:∀ {l:List Nat} {q:Nat},lM ops l=σ q->q∈l/\ ∃o,ops[q]? =σ o/\iH o=true
 |[],q,h=>by cases h
 |i::l,q,h=>by
  simp only[lM] at h;cases I:ops[i]? with
  |none=>rw[I] at h;obtain⟨h1,J⟩:=tJ h;exact⟨.tail _ h1,J⟩
  |some o=>
   rw[I] at h;simp only at h;cases U:iH o with
   |true=>rw[U] at h;simp only[cond_true,Y6] at h;subst h;exact⟨.head _,o,I,U⟩
   |false=>rw[U] at h;obtain⟨h1,J⟩:=tJ h;exact⟨.tail _ h1,J⟩
theorem ED {o:U7} {e:Env} {a:Act} {K:Env->(x3->Prop)->Prop} (h:tC P ops o e w K) (U:T6 N e a) (ae:jh N o.dst=true):
  ∃v st,hI P ops o v a (lP o w st)/\ ∃V,K V st/\T6 N V (a.put o.dst v):=by
 unfold tC at h;have Y:∀ {e:Env},T6 N e a->k6 P o e w K->Region.wanted o (yielded ops a.tmps)=true-> ∃v st,hI P ops o v a (lP o w st)/\ ∃V,K V st/\T6 N V (a.put o.dst v):=λU h hw=>by
  obtain⟨v,st,h1,af,ag,ah⟩:=xp h U ae;exact⟨v,st,.inl ⟨hw,ag,λw' aa=>aa.elim (λhm=>Ez hm (h1 w (Ext.refl w))) λh=>h.elim (h1 w') λ⟨J,ai,aj⟩=>ah J ai w' aj⟩,af⟩
 have skip:∀ {e:Env},T6 N e a->K (dO e o.dst .u) (λ_=>True)->Region.wanted o (yielded ops a.tmps)=false-> ∃v st,hI P ops o v a (lP o w st)/\ ∃V,K V st/\T6 N V (a.put o.dst v):=λU h hw=>
  ⟨undef,_,.inr ⟨hw,rfl⟩,_,h,U.put ae rfl⟩
 cases W:o.guard with
 |none=>rw[W] at h;exact Y U h (by simp[Region.wanted,W])
 |some ak=>
  obtain⟨j,b⟩:=ak;rw[W] at h;simp only at h;cases X:(ops[j]?).bind (·.dst) with
  |none=>rw[X] at h;exact h.elim
  |some s=>
   rw[X] at h;simp only at h;cases I:look e s with
   |none=>rw[I] at h;exact h.elim
   |some x=>
    rw[I] at h;cases x with
    |b c=>
     simp only at h;have hw:=qX U W X I (c:=c) rfl;cases aa:xor c b with
     |true=>rw[aa] at h hw;exact skip U h hw
     |false=>rw[aa] at h hw;exact Y U h hw
    |v y=>
     simp only at h;obtain⟨c,rfl,ab,ac⟩:=h;have hw:=qX U W X I (c:=c) rfl;have ad:=U.lit I (c:=c) rfl;cases c with
     |true=>
      have ab:=ab rfl;cases b with
      |true=>exact Y ad ab hw
      |false=>exact skip ad ab hw
     |false=>
      have ac:=ac rfl;cases b with
      |true=>exact skip ad ac hw
      |false=>exact Y ad ac hw
    |u=>exact skip U h (xq U W X I)
theorem tK:∀ {l:List Nat},lM ops l=ν-> ∀j∈l,lQ ops j=false
 |[],_,_,h=>by cases h
 |i::l,h,j,I=>by
  simp only[lM] at h;cases J:ops[i]? with
  |none=>
   rw[J] at h;cases I with
   |head=>simp[lQ,J]
   |tail _ I=>exact tK h j I
  |some o=>
   rw[J] at h;simp only at h;cases U:iH o with
   |true=>rw[U] at h;cases h
   |false=>
    rw[U] at h;cases I with
    |head=>simp[lQ,J,U]
    |tail _ I=>exact tK h j I
theorem EE {bs:Array Nat} {same:Bool} {q:Nat} {st:x3->Prop} {J:List (x3×List (Nat×(x3->Prop)))} (I:same=true-> ∃ks r,J=(w,ks)::r):
  (∀j w',lR bs (pf same q w st J) j w'->lR bs J j w')/\(∀j w',kt bs j q=true->lR bs (pf same q w st J) j w'->Ext w w'\/st w')/\ ∃ks r,pf same q w st J=(w,ks)::r:=by
 cases same with
 |true=>
  obtain⟨ks,r,rfl⟩:=I rfl;refine⟨λj w' h g U x V hu=>?_,λj w' hu h=>h (w,(q,st)::ks) (.head _) (q,st) (.head _) hu,_,_,rfl⟩;cases U with
  |head=>exact h (w,(q,st)::ks) (.head _) x (.tail _ V) hu
  |tail _ U=>exact h g (.tail _ U) x V hu
 |false=>
  refine⟨λj w' h g U x V hu=>h g (.tail _ U) x V hu,λj w' hu h=>h (w,[(q,st)]) (.head _) (q,st) (.head _) hu,_,_,rfl⟩
theorem EF {K:Env->x3->Prop} {bs:Array Nat} (ap:k9 ops bs=true) (aq:Region.noSelect ops=true) (au:∀c a w,¬Q (.panic c) a w)
  (aj:∀o∈ops.toList,∀t,o.dst=σ t->t∈D) (av:mG N ops.toList=true):
  ∀ (fuel:Nat) (U:Array Bool) (same:Bool) (V:List (x3×List (Nat×(x3->Prop)))) (e:Env) (a:Act) (w:x3),Down ops U->(same=true-> ∃ks r,V=(w,ks)::r)->
   lN P free ops bs fuel U same V e w K->T6 N e a->
   (∀a' w',lO N free K D a w a' w'->Q .normal a' w')->h9 r P ops bs Q fuel U V a w:=by
 have ae:∀ {j:Nat} {o:U7},ops[j]? =σ o->o∈ops.toList:=λh=>by
  rw[<-T8] at h;exact x5 h
 have ok:∀ {j:Nat} {o:U7},ops[j]? =σ o->jh N o.dst=true:=λh=>by
  simp only[mG,List.all_eq_true] at av;exact av _ (ae h)
 intro fuel;induction fuel with
 |zero=>
  intro U same V e a w aa ak h ac ab;unfold lN at h;cases X:Region.ready .any ops U with
  |nil=>rw[X] at h;exact⟨X,ab a w ⟨e,h,ac,gd.refl _ _,λ_=>cr.refl _ _⟩⟩
  |cons i l=>rw[X] at h;exact h.elim
 |succ fuel al=>
  intro U same V e a w aa ak h ac ab;unfold lN at h;cases X:Region.ready .any ops U with
  |nil=>
   rw[X] at h;refine⟨λ_=>ab a w ⟨e,h,ac,gd.refl _ _,λ_=>cr.refl _ _⟩,λi hi=>?_⟩;rw[X] at hi;cases hi
  |cons i l=>
   rw[X] at h;simp only at h;cases af:lM ops (i::l) with
   |some q=>
    rw[af] at h;simp only at h;obtain⟨aB,o,I,aw⟩:=tJ af;cases ag:Region.free .any ops U q with
    |false=>rw[ag] at h;exact h.elim
    |true=>
     rw[ag,I] at h;simp only[cond_true] at h;obtain⟨v,st,ax,ah,Y,ay⟩:=ED h ac (ok I);have ai:q∈Region.ready .any ops U:=by rw[X];exact aB
     cases hm:k8 o with
     |true=>
      rw[hm] at Y;refine h9.take ap aq au I aw (w0:=w) (ev':=V) (λ_ _ h=>h) (λh=>by rw[hm] at h;cases h) fuel U a w aa (Region.free_spec I ag) ai ax (.inr (.inl (Ext.refl _))) ?_;exact al _ same V ah _ w (aa.set ai) ak Y ay λa' w' W=>ab a' w' (W.step (gd.put a v λt ad=>aj o (ae I) t ad) λ_=>cr.refl _ _)
     |false=>
      rw[hm] at Y;obtain⟨h1,aC,aD⟩:=EE (bs:=bs) (q:=q) (st:=st) ak;refine h9.take ap aq au I aw (w0:=w) (ev':=pf same q w st V) h1 (λ_=>aC) fuel U a w aa (Region.free_spec I ag) ai ax (.inr (.inl (Ext.refl _))) ?_;exact al _ true _ ah _ w (aa.set ai) (λ_=>aD) Y ay λa' w' W=>ab a' w' (W.step (gd.put a v λt ad=>aj o (ae I) t ad) λ_=>cr.refl _ _)
   |none=>
    rw[af] at h;simp only at h;refine⟨(λaz=>by rw[X] at az;cases az),λj aA=>?_⟩;have am:=aA;rw[X] at am;have aE:=tK af j am;have W:=xw h j am;cases I:ops[j]? with
    |none=>rw[I] at W;exact W.elim
    |some o=>
     rw[I] at W;simp only at W;unfold wpOpIn;simp only[I];have next:∀an J,e3 N free (λah w'=>mF bs j w' (lN P free ops bs fuel (U.setIfInBounds j true) false V ah w' K) V) o a w an J->
       tI ops bs V j w J/\h9 r P ops bs Q fuel (U.setIfInBounds j true) V an J:=by
      rintro an J ⟨aF,v,Y,aG,rfl,aH⟩;obtain⟨Y,aI⟩:=tH Y;exact⟨⟨λh=>(by rw[aE] at h;cases h),λ_=>aI⟩,
       al _ false V aF _ J (aa.set aA) (λh=>by cases h) Y aG λa' w' W=>ab a' w' (W.step (gd.put a v λt ad=>aj o (ae I) t ad) aH)⟩
     rcases xr (r:=r) (Q:=Q) W ac (ok I) with⟨hw,ao⟩|⟨hw,ao⟩
     .rw[if_pos hw];exact U7.wpIn_mono next ao
     .rw[hw];exact⟨λ_ _=>trivial,next _ _ ao⟩
theorem EG (hm:P.follows .mixedOrders=true) {K:Env->x3->Prop} {id:Nat} {e:Env} {a:Act} (U:k9 ops (Region.before ops)=true) (V:∀c a w,¬Q (.panic c) a w)
  (W:∀o∈ops.toList,∀t,o.dst=σ t->t∈D) (X:mG N ops.toList=true)
  (h:∀w',Ext w w'->Ext w' w->cG w w'->tE P free ops e w' K) (Y:T6 N e a) (aa:∀a' w',lO N free K D a w a' w'->Q .normal a' w'):
  (Code.region id ops true).wpIn (eg r) 0 P Q a w:=by
 refine wpIn_region_any hm ?_;have h:=h {w with drawn:=w.drawn+1} (qQ w _) ⟨p9 _,λ_ _ h _=>h⟩ (pa w _ (Nat.le_succ _));unfold tE at h;cases I:Region.noSelect ops with
 |false=>rw[I] at h;exact h.elim
 |true=>
  rw[I] at h;refine h9.any _ _ _ _ _ (EF U I V W X ops.size _ false [] e a _ ?_ (λh=>by cases h) h Y λa' w' ab=>aa a' w' (ab.step (gd.refl _ _) λ_=>(pa w _ (Nat.le_succ _)).b));intro x o _ J;rcases Nat.lt_or_ge x ops.size with h'|h'
  .simp[h'] at J
  .simp[h'] at J
end
def iI (t:Nat):List Nat->Bool
 |[]=>false
 |s::r=>bif T1 s t then true else iI t r
theorem tL {t:Nat}:∀ {l:List Nat},iI t l=true↔t∈l
 |[]=>by simp[iI]
 |s::r=>by
  simp only[iI];cases h:T1 s t with
  |true=>simp[Nat.eq_of_beq_eq_true h]
  |false=>
   have:=Nat.ne_of_beq_eq_false h;simp[tL (l:=r),Ne.symm this]
def mH:List U7->List Nat
 |[]=>[]
 |o::l=>match o.dst with
  |some d=>d::mH l
  |none=>mH l
def tmpsOf:List T5->List Nat
 |[]=>[]
 | .tmp t::l=>t::tmpsOf l
 |_::l=>tmpsOf l
def EH (ops:Array U7) (o:U7):List Nat:=
 match o.guard with
 |some (j,_)=>match (ops[j]?).bind (·.dst) with
  |some s=>[s]
  |none=>[]
 |none=>[]
def qY (D:List Nat):List Nat->List Nat
 |[]=>[]
 |t::r=>bif iI t D then qY D r else t::qY D r
def tM (D:List Nat):List Nat->List Nat
 |[]=>[]
 |t::r=>bif iI t D then t::tM D r else tM D r
def xx (ops:Array U7):List U7->List Nat->List Nat
 |[],_=>[]
 |o::l,D=>qY D (tmpsOf (opsOf o.op)++EH ops o)++xx ops l (match o.dst with
  |some d=>d::D
  |none=>D)
def dm:Code->List Nat
 | .region _ ops _=>mH ops.toList
 | .seq a b=>dm a++dm b
 | .cond _ a b=>dm a++dm b
 | .block _ c=>dm c
 | .loop c=>dm c
 | .scope c=>dm c
 |_=>[]
def ji (id:Nat):Code->Nat
 | .seq a b=>ji id a+ji id b
 | .cond _ a b=>ji id a+ji id b
 | .block _ c=>ji id c
 | .loop c=>ji id c
 | .scope c=>ji id c
 | .exit i=>bif T1 i id then 1 else 0
 | .rangeFunc _ _ _ b=>ji id b
 |_=>0
def EI (ops:Array U7):Bool:=
 let bs:=Region.before ops;let I:=λ(i:Nat)=>match ops[i]? with|some o=>!(iH o)|none=>false
 (W7 ops.size).any λj=>I j&&((W7 j).any λi=>I i&&(!((bs.getD j 0).testBit i)&& !((bs.getD i 0).testBit j)))
def ku:Code->Nat
 | .region _ ops I=>bif (I&&EI ops)||ops.any (·.guard.isSome) then 2 else 1
 | .seq a b=>bif T1 (ku a) 0 then 0 else ku b
 | .cond _ a b=>ku a+ku b
 | .block id c=>ku c+ji id c
 | .loop _=>0
 | .scope c=>ku c
 | .exit _=>0
 | .goto _=>0
 | .ret=>0
 | .refuse _=>0
 |_=>1
def la:Code->List Nat
 | .region _ ops _=>mH ops.toList
 | .seq a b=>la a++la b
 | .cond _ a b=>bif T1 (ku a) 0 then la b else bif T1 (ku b) 0 then la a else tM (la a) (la b)
 | .block id c=>bif T1 (ji id c) 0 then la c else[]
 | .scope c=>la c
 |_=>[]
def reads:Code->List Nat
 | .region _ ops _=>xx ops ops.toList []
 | .seq a b=>reads a++qY (la a) (reads b)
 | .cond c a b=>tmpsOf [c]++(reads a++reads b)
 | .block _ c=>reads c
 | .loop c=>reads c
 | .scope c=>reads c
 | .rangeFunc f _ a b=>tmpsOf [f]++(reads a++reads b)
 |_=>[]
def jL:Code->Bool
 | .seq a b=>jL a||jL b
 | .cond _ a b=>jL a||jL b
 | .block _ c=>jL c
 | .loop c=>jL c
 | .scope c=>jL c
 | .rangeFunc ..=>true
 |_=>false
def wf (N:Nat):Code->Bool
 | .region _ ops I=>mG N ops.toList&&(!I||k9 ops (Region.before ops))
 | .seq a b=>wf N a&&wf N b
 | .cond _ a b=>wf N a&&wf N b
 | .block _ c=>wf N c
 | .loop c=>wf N c
 | .scope c=>wf N c
 | .rangeFunc _ J a b=>(J.toList.all λt=>Nat.blt t N)&&(wf N a&&wf N b)
 |_=>true
def mI:Nat->Type->Type
 |0,β=>β
 |n+1,β=>x1->mI n β
def app {β:Type}:(n:Nat)->mI n β->List x1->β
 |0,f,_=>f
 |n+1,f,[]=>app n (f undef) []
 |n+1,f,v::r=>app n (f v) r
def lam {β:Type}:(n:Nat)->(List x1->β)->mI n β
 |0,f=>f []
 |n+1,f=>λv=>lam n λr=>f (v::r)
def qZ:(n:Nat)->mI n Prop->Prop
 |0,p=>p
 |n+1,p=>∀v,qZ n (p v)
theorem q0 {β:Type}:∀ (n:Nat) (f:List x1->β) (vs:List x1),vs.length=n->app n (lam n f) vs=f vs
 |0,f,[],_=>rfl
 |n+1,f,v::r,h=>by
  simp only[app,lam];exact q0 n _ r (by simpa using h)
theorem q1:∀ (n:Nat) (p:mI n Prop) (vs:List x1),qZ n p->app n p vs
 |0,_,_,h=>h
 |n+1,_,[],h=>q1 n _ [] (h undef)
 |n+1,_,v::r,h=>q1 n _ r (h v)
def EJ (n:Nat) (vs:List x1) (w:x3) (B:List x1->x3->(List x1->x3->Prop)->Prop):Prop:=
 ∃ (I:mI n (x3->Prop)) (J:mI n (x3->Nat)),app n I vs w/\
  qZ n (lam n λus=>∀w',app n I us w'->B us w' λU V=>app n I U V/\app n J U V<app n J us w')
def EK (w:x3) (B:x3->(x3->Prop)->Prop):Prop:=
 ∃ (I:x3->Prop) (J:x3->Nat),I w/\ ∀w',I w'->B w' λU=>I U/\J U<J w'
def ce (a:x1) (w:x3) (B:x1->x3->(x1->x3->Prop)->Prop):Prop:=
 ∃ (I:x1->x3->Prop) (J:x1->x3->Nat),I a w/\ ∀a w',I a w'->B a w' λa' U=>I a' U/\J a' U<J a w'
def bU (a b:x1) (w:x3) (B:x1->x1->x3->(x1->x1->x3->Prop)->Prop):Prop:=
 ∃ (I:x1->x1->x3->Prop) (J:x1->x1->x3->Nat),I a b w/\ ∀a b w',I a b w'->B a b w' λa' U V=>I a' U V/\J a' U V<J a b w'
def nR (a b c:x1) (w:x3) (B:x1->x1->x1->x3->(x1->x1->x1->x3->Prop)->Prop):Prop:=
 ∃ (I:x1->x1->x1->x3->Prop) (J:x1->x1->x1->x3->Nat),I a b c w/\
  ∀a b c w',I a b c w'->B a b c w' λa' U V W=>I a' U V W/\J a' U V W<J a b c w'
def q2 (a b c d:x1) (w:x3) (B:x1->x1->x1->x1->x3->(x1->x1->x1->x1->x3->Prop)->Prop):Prop:=
 ∃ (I:x1->x1->x1->x1->x3->Prop) (J:x1->x1->x1->x1->x3->Nat),I a b c d w/\
  ∀a b c d w',I a b c d w'->B a b c d w' λa' U V W X=>I a' U V W X/\J a' U V W X<J a b c d w'
def nS (a b c d e:x1) (w:x3) (B:x1->x1->x1->x1->x1->x3->(x1->x1->x1->x1->x1->x3->Prop)->Prop):Prop:=
 ∃ (I:x1->x1->x1->x1->x1->x3->Prop) (J:x1->x1->x1->x1->x1->x3->Nat),I a b c d e w/\ ∀a b c d e w',I a b c d e w'->B a b c d e w' λa' U V W X Y=>I a' U V W X Y/\J a' U V W X Y<J a b c d e w'
def EL (a b c d e f:x1) (w:x3) (B:x1->x1->x1->x1->x1->x1->x3->(x1->x1->x1->x1->x1->x1->x3->Prop)->Prop):Prop:=
 ∃ (I:x1->x1->x1->x1->x1->x1->x3->Prop) (J:x1->x1->x1->x1->x1->x1->x3->Nat),I a b c d e f w/\ ∀a b c d e f w',I a b c d e f w'->B a b c d e f w' λa' U V W X Y aa=>I a' U V W X Y aa/\J a' U V W X Y aa<J a b c d e f w'
def cg {α:Type} (av:α) (B:α->Prop):Prop:=B av
def tN (n:Nat) (w:x3) (K:x3->Prop):Prop:=∀w',Ext w w'->Ext w' w/\fg n w w'->K w'
def Over (n:Nat) (w:x3) (K:x3->Prop):Prop:=∀w',Ext w w'->Ext w' w/\fg n w w'->eN w w'->K w'
def eh (w:x3) (K:x3->Prop):Prop:=∀w',Ext w w'->Ext w' w->cG w w'->K w'
def jM (e:Env):List Nat->Option (List x1)
 |[]=>σ []
 |t::r=>match look e t with
  |some x=>match jM e r with
   |some vs=>σ (x.val::vs)
   |none=>ν
  |none=>ν
def iJ:List Nat->List x1->Env->Env
 |t::r,v::vs,e=>(t,.v v)::iJ r vs e
 |_,_,e=>e
def lb (D:List Nat):Env->Env
 |[]=>[]
 |(t,x)::r=>bif iI t D then lb D r else (t,x)::lb D r
def ph (N:Nat) (D R:List Nat):List Nat:=(W7 N).filter λt=>iI t D&&iI t R
def pi (N:Nat) (D R:List Nat) (e:Env):List Nat:=(W7 N).filter λt=>iI t D&&((look e t).isSome&&iI t R)
def iK:Code->Bool
 | .seq a b=>iK a||iK b
 | .cond _ a b=>iK a||iK b
 | .block _ c=>iK c
 | .loop c=>iK c
 | .scope c=>iK c
 | .rangeFunc _ _ a b=>iK a||iK b
 | .ret=>true
 |_=>false
def EM (i:Nat) (l:List Nat):List Nat:=bif iI i l then l else i::l
def q3:List Nat->List Nat->List Nat
 |[],l=>l
 |i::r,l=>EM i (q3 r l)
def tO (i:Nat):List Nat->List Nat
 |[]=>[]
 |j::r=>bif T1 i j then tO i r else j::tO i r
def jj:Code->List Nat
 | .seq a b=>q3 (jj a) (jj b)
 | .cond _ a b=>q3 (jj a) (jj b)
 | .block id c=>tO id (jj c)
 | .loop c=>jj c
 | .scope c=>jj c
 | .rangeFunc _ _ a b=>q3 (jj a) (jj b)
 | .exit i=>[i]
 |_=>[]
def mJ:List (Nat×(x3->Prop))->Nat->x3->Prop
 |[],_,_=>False
 |(j,k)::r,i,w=>(i=j/\k w)\/mJ r i w
def tP (K:Nat->x3->Prop):List Nat->List (Nat×(x3->Prop))
 |[]=>[]
 |i::r=>(i,λw=>K i w)::tP K r
theorem xy {K:Nat->x3->Prop}:∀ {l:List Nat} {i:Nat} {w:x3},mJ (tP K l) i w->K i w
 |[],_,_,h=>h.elim
 |j::r,i,w,h=>by
  rcases h with⟨rfl,h⟩|h
  .exact h
  .exact xy h
section
variable (P:W0)
def nT {I:Type} (G:Bool) (g:S6) (cap:List x1) (aa:I) (ab:I->Prop) (ac:I->List x1->I->x3->Prop) (X:x3->Prop):Prop:=
 Enters P g/\ ∀ (l:Nat) (av U:I->x3->Prop) (w:x3),
  (∀k J V,Ext J V->cr w.heap.size J V->av k J->av k V)->(∀k J V,Ext J V->cr w.heap.size J V->U k J->U k V)->
  (∀k Y vs w',X w'->ac k vs Y w'->av k w'->hh P l vs w' λv W=>(v= .bool true/\X W/\av Y W/\(G=true->cG w' W))\/(v= .bool false/\U k W))->
  X w->av aa w->gb P g (.func (.yield l) #[] #[]::cap) w λ_ w'=>(∃k,ab k/\av k w')\/ ∃k,U k w'
def tQ (G:Bool) (g:S6) (cap:List x1) (n:Nat) (X:Nat->List x1->x3->Prop) (W:x3->Prop):Prop:=
 Enters P g/\ ∀ (l:Nat) (av I:Nat->x3->Prop) (w:x3),
  (∀k J V,Ext J V->cr w.heap.size J V->av k J->av k V)->(∀k J V,Ext J V->cr w.heap.size J V->I k J->I k V)->
  (∀k vs w',k<n->W w'->X k vs w'->av k w'->hh P l vs w' λv U=>(v= .bool true/\W U/\av (k+1) U/\(G=true->cG w' U))\/(v= .bool false/\I k U))->
  W w->av 0 w->gb P g (.func (.yield l) #[] #[]::cap) w λ_ w'=>av n w'\/ ∃k,k<n/\I k w'
def pj {U:Type} (o G:Bool) (g:S6) (cap:List x1) (aa:U) (ab:U->Prop) (ac:U->List x1->U->x3->Prop) (X:(Nat->Prop)->x3->Prop):Prop:=
 Enters P g/\ ∀ (l:Nat) (av W:(Nat->Prop)->U->x3->Prop) (w:x3),
  (∀D k J V,ae (λr=>o=true/\w.heap.size<=r/\¬D r) J V->fg w.heap.size J V->av D k J->av D k V)->
  (∀D k J V,ae (λr=>o=true/\w.heap.size<=r/\¬D r) J V->fg w.heap.size J V->W D k J->W D k V)->
  (∀D k Y vs w',(∀r,D r->w.heap.size<=r/\r<w'.heap.size)->w.heap.size<=w'.heap.size->X D w'->ac k vs Y w'->av D k w'->hh P l vs w' λv I=>
   (v= .bool true/\(∃D',(∀r,D' r->D r\/w'.heap.size<=r/\r<I.heap.size)/\(∀r,D r->D' r)/\X D' I/\av D' Y I)/\(G=true\/o=true->cG w' I)/\w'.heap.size<=I.heap.size/\(o=true->ae (λr=>r<w.heap.size\/D r) w' I))\/(o=false/\v= .bool false/\W D k I))->
  (X (λ_=>False) w)->av (λ_=>False) aa w->gb P g (.func (.yield l) #[] #[]::cap) w λ_ w'=>(∃D k,ab k/\av D k w')\/ ∃D k,W D k w'
abbrev nU (g:S6) (cap:List x1) (n:Nat) (I:Nat->List x1->x3->Prop) (J:x3->Prop):Prop:=tQ P false g cap n I J
def EN (ag:x1) (ab:Nat) (w:x3) (B:List x1->x3->(Exit->x3->Prop)->Prop) (ah ai:x3->Prop) (aj:List (Nat×(x3->Prop))):Prop:=
 ∃ (X:Type) (o G:Bool) (g:S6) (cap:Array x1) (ad:X) (af:X->Prop) (ac:X->List x1->X->x3->Prop) (U:(Nat->Prop)->x3->Prop) (W:(Nat->Prop)->X->x3->Prop) (Y:(Nat->Prop)->X->Exit->x3->Prop),
  ag= .func (.func g) #[] cap/\pj P o G g cap.toList ad af ac U/\(∀k vs aa w,ac k vs aa w->vs.length=ab)/\
  (∀m w w',Ext w w'->U m w->U m w')/\(∀m k J V,ae (λr=>o=true/\w.heap.size<=r/\¬m r) J V->fg w.heap.size J V->W m k J->W m k V)/\(∀m k ex J V,ae (λr=>o=true/\w.heap.size<=r/\¬m r) J V->fg w.heap.size J V->Y m k ex J->Y m k ex V)/\
  U (λ_=>False) w/\W (λ_=>False) ad w/\
  qZ ab (lam ab λvs=>∀m k aa w',(∀r,m r->w.heap.size<=r/\r<w'.heap.size)->w.heap.size<=w'.heap.size->U m w'->ac k vs aa w'->W m k w'->B vs w' λex I=>match ex with
   | .normal=>bif o then (∃ch,(∀r,ch r->m r\/w'.heap.size<=r/\r<I.heap.size)/\(∀r,m r->ch r)/\U ch I/\W ch aa I)/\eN w' I/\ae (λr=>r<w.heap.size\/m r) w' I else U m I/\W m aa I/\(G=true->eN w' I)
   |ex=>bif o then False else Y m k ex I)/\
  (∀m k w',af k->W m k w'->ah w')/\(∀m k w',Y m k .ret w'->ai w')/\(∀m k i w',Y m k (.exit i) w'->mJ aj i w')
def lS (af:x1) (w:x3) (B:x1->x3->(Exit->x3->Prop)->Prop) (ag ah:x3->Prop) (ai:List (Nat×(x3->Prop))):Prop:=
 ∃ (X:Type) (o G:Bool) (g:S6) (cap:Array x1) (ac:X) (ad:X->Prop) (ab:X->List x1->X->x3->Prop) (U:(Nat->Prop)->x3->Prop) (W:(Nat->Prop)->X->x3->Prop) (Y:(Nat->Prop)->X->Exit->x3->Prop),
  af= .func (.func g) #[] cap/\pj P o G g cap.toList ac ad ab U/\(∀k vs aa w,ab k vs aa w->vs.length=1)/\
  (∀m w w',Ext w w'->U m w->U m w')/\(∀m k J V,ae (λr=>o=true/\w.heap.size<=r/\¬m r) J V->fg w.heap.size J V->W m k J->W m k V)/\(∀m k ex J V,ae (λr=>o=true/\w.heap.size<=r/\¬m r) J V->fg w.heap.size J V->Y m k ex J->Y m k ex V)/\
  U (λ_=>False) w/\W (λ_=>False) ac w/\
  (∀a,∀m k aa w',(∀r,m r->w.heap.size<=r/\r<w'.heap.size)->w.heap.size<=w'.heap.size->U m w'->ab k [a] aa w'->W m k w'->B a w' λex I=>match ex with
   | .normal=>bif o then (∃ch,(∀r,ch r->m r\/w'.heap.size<=r/\r<I.heap.size)/\(∀r,m r->ch r)/\U ch I/\W ch aa I)/\eN w' I/\ae (λr=>r<w.heap.size\/m r) w' I else U m I/\W m aa I/\(G=true->eN w' I)
   |ex=>bif o then False else Y m k ex I)/\
  (∀m k w',ad k->W m k w'->ag w')/\(∀m k w',Y m k .ret w'->ah w')/\(∀m k i w',Y m k (.exit i) w'->mJ ai i w')
def nV (af:x1) (w:x3) (B:x1->x1->x3->(Exit->x3->Prop)->Prop) (ag ah:x3->Prop) (ai:List (Nat×(x3->Prop))):Prop:=
 ∃ (X:Type) (o G:Bool) (g:S6) (cap:Array x1) (ac:X) (ad:X->Prop) (ab:X->List x1->X->x3->Prop) (U:(Nat->Prop)->x3->Prop) (W:(Nat->Prop)->X->x3->Prop) (Y:(Nat->Prop)->X->Exit->x3->Prop),
  af= .func (.func g) #[] cap/\pj P o G g cap.toList ac ad ab U/\(∀k vs aa w,ab k vs aa w->vs.length=2)/\
  (∀m w w',Ext w w'->U m w->U m w')/\(∀m k J V,ae (λr=>o=true/\w.heap.size<=r/\¬m r) J V->fg w.heap.size J V->W m k J->W m k V)/\(∀m k ex J V,ae (λr=>o=true/\w.heap.size<=r/\¬m r) J V->fg w.heap.size J V->Y m k ex J->Y m k ex V)/\
  U (λ_=>False) w/\W (λ_=>False) ac w/\
  (∀a b,∀m k aa w',(∀r,m r->w.heap.size<=r/\r<w'.heap.size)->w.heap.size<=w'.heap.size->U m w'->ab k [a,b] aa w'->W m k w'->B a b w' λex I=>match ex with
   | .normal=>bif o then (∃ch,(∀r,ch r->m r\/w'.heap.size<=r/\r<I.heap.size)/\(∀r,m r->ch r)/\U ch I/\W ch aa I)/\eN w' I/\ae (λr=>r<w.heap.size\/m r) w' I else U m I/\W m aa I/\(G=true->eN w' I)
   |ex=>bif o then False else Y m k ex I)/\
  (∀m k w',ad k->W m k w'->ag w')/\(∀m k w',Y m k .ret w'->ah w')/\(∀m k i w',Y m k (.exit i) w'->mJ ai i w')
theorem tQ.s {P:W0} {G:Bool} {g:S6} {cap:List x1} {U:Nat->List x1->x3->Prop} {I:x3->Prop} (h:tQ P G g cap n U I):
  nT P G g cap 0 (λk=>k=n) (λk vs V w=>k<n/\V=k+1/\U k vs w) I:=by
 refine⟨h.1,λl av W w X Y aa hI ab=>?_⟩;have:=h.2 l av (λk w=>W k w) w X Y (λk vs w' hk hac ad ae=>aa k (k+1) vs w' hac ⟨hk,rfl,ad⟩ ae) hI ab;cases this with
 |code h1 af=>exact .code h1 (af.mono λ_ _ ⟨v,ag,J⟩=>⟨v,ag,J.elim (λh=>.inl ⟨n,rfl,h⟩) (λ⟨k,_,h⟩=>.inr ⟨k,h⟩)⟩)
 |ext v w' h1 J=>exact .ext v w' h1 (J.elim (λh=>.inl ⟨n,rfl,h⟩) (λ⟨k,_,h⟩=>.inr ⟨k,h⟩))
theorem nT.x {P:W0} {ad:Type} {G:Bool} {g:S6} {cap:List x1} {aj:ad} {ak:ad->Prop} {al:ad->List x1->ad->x3->Prop} {ae:x3->Prop} (h:nT P G g cap aj ak al ae):pj P false G g cap aj ak al λ_=>ae:=by
 refine⟨h.1,λl av am w an ao ap hae aq=>?_⟩;have:=h.2 l (λk w'=>w.heap.size<=w'.heap.size/\ ∃D,(∀r,D r->w.heap.size<=r/\r<w'.heap.size)/\av D k w') (λk w'=>∃D,am D k w') w
  (λk J V X ag ⟨I,D,U,Y⟩=>⟨Y7 I X.size,D,λr af=>⟨(U r af).1,R3 (U r af).2 X.size⟩,an D k J V (X.aa _) ag.o Y⟩) (λk J V X ag ⟨D,Y⟩=>⟨D,ao D k J V (X.aa _) ag.o Y⟩)
  (λk au vs w' haw ax ⟨I,D,U,Y⟩=>hh.mono (ap D k au vs w' U I haw ax Y) λv aA ay=>ay.imp (λ⟨h1,⟨D',d1,_,ab,ah⟩,ac,W,_⟩=>⟨h1,ab,⟨Y7 I W,D',λr af=>(d1 r af).elim (λh=>⟨(U r h).1,R3 (U r h).2 W⟩) λh=>⟨Y7 I h.1,h.2⟩,ah⟩,λaz=>ac (.inl az)⟩) λ⟨_,h1,ab⟩=>⟨h1,D,ab⟩) hae ⟨p9 _,_,λ_ h=>h.elim,aq⟩
 cases this with
 |code h1 ab=>exact .code h1 (ab.mono λ_ _ ⟨v,ah,ac⟩=>⟨v,ah,ac.imp (λ⟨k,W,_,D,_,ai⟩=>⟨D,k,W,ai⟩) (λ⟨k,D,h⟩=>⟨D,k,h⟩)⟩)
 |ext v w' h1 ac=>exact .ext v w' h1 (ac.imp (λ⟨k,W,_,D,_,ai⟩=>⟨D,k,W,ai⟩) (λ⟨k,D,h⟩=>⟨D,k,h⟩))
theorem lS.old {P:W0} {af:x1} {B:x1->x3->(Exit->x3->Prop)->Prop} {ag ah:x3->Prop} {ai:List (Nat×(x3->Prop))}
 (h:∃ (U:Type) (G:Bool) (g:S6) (cap:Array x1) (ab:U) (ac:U->Prop) (aa:U->List x1->U->x3->Prop) (I:x3->Prop) (W:U->x3->Prop) (X:U->Exit->x3->Prop),
  af= .func (.func g) #[] cap/\nT P G g cap.toList ab ac aa I/\(∀k vs Y w,aa k vs Y w->vs.length=1)/\
  (∀w w',Ext w w'->I w->I w')/\(∀k w w',Ext w w'->W k w->W k w')/\(∀k ex w w',Ext w w'->X k ex w->X k ex w')/\
  I w/\W ab w/\
  (∀a,∀k Y w',I w'->aa k [a] Y w'->W k w'->B a w' λex ad=>match ex with
   | .normal=>I ad/\W Y ad/\(G=true->eN w' ad)
   |ex=>X k ex ad)/\
  (∀k w',ac k->W k w'->ag w')/\(∀k w',X k .ret w'->ah w')/\(∀k i w',X k (.exit i) w'->mJ ai i w')):lS P af w B ag ah ai:=by
 obtain⟨U,G,g,cap,ab,ac,aa,I,W,X,h1,aj,ak,al,am,an,ao,ap,aq,au,av,aw⟩:=h;exact⟨U,false,G,g,cap,ab,ac,aa,λ_=>I,λ_=>W,λ_=>X,h1,aj.x,ak,λ_=>al,λ_ k J V ae _=>am k J V (ae.ext λ_ _ h=>nomatch h.1),λ_ k ex J V ae _=>an k ex J V (ae.ext λ_ _ h=>nomatch h.1),ao,ap,
  λa _ k Y w' _ _ hI ax ay=>aq a k Y w' hI ax ay,λ_=>au,λ_=>av,λ_=>aw⟩
theorem nV.old {P:W0} {af:x1} {B:x1->x1->x3->(Exit->x3->Prop)->Prop} {ag ah:x3->Prop} {ai:List (Nat×(x3->Prop))}
 (h:∃ (U:Type) (G:Bool) (g:S6) (cap:Array x1) (ab:U) (ac:U->Prop) (aa:U->List x1->U->x3->Prop) (I:x3->Prop) (W:U->x3->Prop) (X:U->Exit->x3->Prop),
  af= .func (.func g) #[] cap/\nT P G g cap.toList ab ac aa I/\(∀k vs Y w,aa k vs Y w->vs.length=2)/\
  (∀w w',Ext w w'->I w->I w')/\(∀k w w',Ext w w'->W k w->W k w')/\(∀k ex w w',Ext w w'->X k ex w->X k ex w')/\
  I w/\W ab w/\
  (∀a b,∀k Y w',I w'->aa k [a,b] Y w'->W k w'->B a b w' λex ad=>match ex with
   | .normal=>I ad/\W Y ad/\(G=true->eN w' ad)
   |ex=>X k ex ad)/\
  (∀k w',ac k->W k w'->ag w')/\(∀k w',X k .ret w'->ah w')/\(∀k i w',X k (.exit i) w'->mJ ai i w')):nV P af w B ag ah ai:=by
 obtain⟨U,G,g,cap,ab,ac,aa,I,W,X,h1,aj,ak,al,am,an,ao,ap,aq,au,av,aw⟩:=h;exact⟨U,false,G,g,cap,ab,ac,aa,λ_=>I,λ_=>W,λ_=>X,h1,aj.x,ak,λ_=>al,λ_ k J V ae _=>am k J V (ae.ext λ_ _ h=>nomatch h.1),λ_ k ex J V ae _=>an k ex J V (ae.ext λ_ _ h=>nomatch h.1),ao,ap,
  λa b _ k Y w' _ _ hI ax ay=>aq a b k Y w' hI ax ay,λ_=>au,λ_=>av,λ_=>aw⟩
def ej (N:Nat) (free:fh):Code->List Nat->Env->x3->(Exit->Env->x3->Prop)->Prop
 | .skip,_,e,w,K=>K .normal e w
 | .label _,_,e,w,K=>K .normal e w
 | .ret,_,e,w,K=>K .ret e w
 | .exit i,_,e,w,K=>K (.exit i) e w
 | .region _ ops V,_,e,w,K=>
  bif V then eh w λw'=>tE P free ops e w' (K .normal)
  else nP P free ops ops.toList e w (K .normal)
 | .seq x y,rd,e,w,K=>
  bif Nat.ble 2 (ku x) then
   cg (lam (ph N (dm x) (reads y++rd)).length λvs=>λw'=>ej N free y rd (iJ (ph N (dm x) (reads y++rd)) vs (lb (dm x) e)) w' K)
    λav=>ej N free x (reads y++rd) e w λex I w'=>match ex with
     | .normal=>match jM I (ph N (dm x) (reads y++rd)) with
      |some vs=>app (ph N (dm x) (reads y++rd)).length av vs w'
      |none=>False
     |ex=>K ex I w'
  else ej N free x (reads y++rd) e w λex I w'=>match ex with
   | .normal=>ej N free y rd I w' K
   |ex=>K ex I w'
 | .cond c x y,rd,e,w,K=>
  match ew e c with
  |some (.b true)=>ej N free x rd e w K
  |some (.b false)=>ej N free y rd e w K
  |some (.v v)=>Split v (ej N free x rd e w K) (ej N free y rd e w K)
  |some .u=>False
  |none=>False
 | .block id c,rd,e,w,K=>ej N free c rd e w λex I w'=>match ex with
  | .exit i=>bif T1 i id then K .normal I w' else K (.exit i) I w'
  |ex=>K ex I w'
 | .loop c,rd,e,w,K=>
  match jM e (pi N (dm c) (reads c++rd) e) with
  |some vs=>
   EJ (pi N (dm c) (reads c++rd) e).length vs w λus w' k=>
    ej N free c (reads c++rd) (iJ (pi N (dm c) (reads c++rd) e) us (lb (dm c) e)) w' λex I J=>match ex with
     | .normal=>match jM I (pi N (dm c) (reads c++rd) e) with
      |some W=>k W J
      |none=>False
     |ex=>K ex I J
  |none=>False
 | .scope c,rd,e,w,K=>ej N free c rd e w K
 | .rangeFunc f U X body,_,e,w,K=>
  bif free.1 then False else
  match ew e f with
  |some Y=>
   EN P Y.val U.size w
    (λvs w' k=>ej N free X (reads body) (iJ U.toList.reverse vs.reverse e) w' λex I J=>match ex with
     | .normal=>Over w.heap.size J λaa=>ej N free body [] I aa λex _ ab=>k ex ab
     |_=>False)
    (λw'=>K .normal e w') (bif iK body then λw'=>K .ret e w' else λ_=>False) (tP (λi w'=>K (.exit i) e w') (jj body))
  |none=>False
 | .goto _,_,_,_,_=>False
 | .refuse _,_,_,_,_=>False
end
theorem q4 {w0:x3} (h:cr n w0 w) {l:Nat} (W:w0.heap.size<=l) (o:Obj):cr n w0 (w.putObj l o):=
 ⟨h.os,h.tape,h.output,by simpa using h.size,λr x J I=>by
  have U:=(o9.1 J).1;rw[S7 Ω];exact h.aX r x J I,λr x V J I=>by
  have U:=(o9.1 J).1;rw[S7 Ω];exact h.old r x V J I⟩
theorem EO {w0:x3} (h:eN w0 w) {l:Nat} {J:Obj} (V:w.heap[l]? =σ J) (W:qP J=false) (o:Obj):eN w0 (w.putObj l o):=λr x X I=>by
 have h1:=h r x X I;by_cases U:r=l
 .subst U;rw[V] at h1;cases h1;rw[W] at I;cases I
 .rw[S7 U];exact h1
theorem pk {l:Nat} {U:Obj} (W:w.heap[l]? =σ U) (X:ff U=false) (o:Obj):Ext w (w.putObj l o):=
 ⟨Ξ,λr x J I=>by
  by_cases V:r=l
  .subst V;rw[W] at J;cases J;rw[X] at I;cases I
  .rw[S7 V];exact J⟩
theorem xz {l:Nat} {o:Obj} (V:ff o=false):Ext (w.putObj l o) w:=
 ⟨Ξ,λr x J I=>by
  by_cases U:r=l
  .subst U;rcases Nat.lt_or_ge r w.heap.size with h|h
   .rw[x3.putObj_heap_same h] at J;cases J;rw[V] at I;cases I
   .rw[Array.getElem?_eq_none (by simpa using h)] at J;cases J
  .rw[S7 U] at J;exact J⟩
theorem nW (w:x3) (o:Obj):Ext w (w.alloc o):=pb w o
theorem nX (w:x3) (o:Obj):cG w (w.alloc o):=pc w o
def jN (D:Nat):Deferred:={target:=.collected D,args:=#[]}
def ld (w:x3) (J:List Deferred):Prop:=∃I:List Nat,J=I.map jN/\I.Nodup/\ ∀D∈I,w.heap[D]? =σ (.deferred (σ []))
theorem ld.ck {I:List Deferred} (h:ld w I) (J:cr n w w'):ld w' I:=by
 obtain⟨U,h1,V,W⟩:=h;exact⟨U,h1,V,λD X=>J.aX D _ (W D X) rfl⟩
section
variable {P:W0} {N:Nat}
def EP (w:x3) (J U:List Deferred):Prop:=∃I:List Nat,U=I.map jN++J/\ ∀D∈I,w.heap.size<=D
def gf (n:Nat) (w:x3) (J:List Deferred) (w':x3) (I:List Deferred):Prop:=cr n w w'/\ld w' I/\EP w J I
theorem gf.refl {I:List Deferred} (h:ld w I):gf n w I w I:=⟨cr.refl _ _,h,[],rfl,λ_ h=>by cases h⟩
theorem gf.trans {J:x3} {I U V:List Deferred} (h:gf n w I J U) (k:gf n J U w' V):gf n w I w' V:=by
 obtain⟨W,af,X,a3,a4⟩:=h;obtain⟨Y,aa,ab,ac,ad⟩:=k;refine⟨W.trans Y,aa,ab++X,by simp[ac,a3],λD ae=>?_⟩;rcases l7.1 ae with h|h
 .exact Y7 W.size (ad D h)
 .exact a4 D h
theorem gf.same {I:List Deferred} (h:ld w I) (J:cr n w w'):gf n w I w' I:=⟨J,h.ck J,[],rfl,λ_ h=>by cases h⟩
def kv:Exit->Bool
 | .panic _=>false
 | .outgrown=>false
 | .goto _=>false
 |_=>true
def lT (N:Nat) (free:fh) (J:Bool) (K:Exit->Env->x3->Prop) (D:List Nat) (a:Act) (w:x3) (ex:Exit) (a':Act) (w':x3):Prop:=
 kv ex=true/\ ∃I,K ex I w'/\T6 N I a'/\(∀t,t∉D->a'.tmps.getD t undef=a.tmps.getD t undef)/\(J=true->a'.defers=a.defers)/\
  (free.1=false->gf free.2 w a.defers w' a'.defers)
theorem lT.step {free:fh} {U V:Bool} {K:Exit->Env->x3->Prop} {D':List Nat} {a I a':Act} {J:x3} {ex:Exit} (h:lT N free V K D' I J ex a' w')
  (X:∀t,t∈D'->t∈D) (hk:∀t,t∉D->I.tmps.getD t undef=a.tmps.getD t undef) (Y:U=true->V=true) (aa:U=true->I.defers=a.defers)
  (ab:free.1=false->gf free.2 w a.defers J I.defers):lT N free U K D a w ex a' w':=by
 obtain⟨ac,ad,h1,ae,af,ag,ah⟩:=h;exact⟨ac,ad,h1,ae,λt W=>(af t λh=>W (X t h)).trans (hk t W),λh=>(ag (Y h)).trans (aa h),λh=>(ab h).trans (ah h)⟩
theorem q5 {D:List Nat} {t:Nat} {x:ei}:∀ {e:Env},look (lb D e) t=σ x->look e t=σ x/\t∉D
 |[],h=>by cases h
 |(s,y)::r,h=>by
  simp only[lb] at h;cases hm:iI s D with
  |true=>
   rw[hm] at h;simp only[cond_true] at h;obtain⟨h1,J⟩:=q5 h;refine⟨?_,J⟩;simp only[look];cases I:T1 s t with
   |true=>exact absurd (tL.1 hm) (by rw[Nat.eq_of_beq_eq_true I];exact J)
   |false=>exact h1
  |false=>
   rw[hm] at h;simp only[cond_false,look] at h ⊢;cases I:T1 s t with
   |true=>
    rw[I] at h;refine⟨h,λU=>?_⟩;rw[<-Nat.eq_of_beq_eq_true I] at U;rw[tL.2 U] at hm;cases hm
   |false=>
    rw[I] at h;exact q5 h
theorem tR {a:Act} {e:Env}:∀ {S:List Nat} {vs:List x1},T6 N e a->(∀p∈S.zip vs,a.tmps.getD p.1 undef=p.2)->T6 N (iJ S vs e) a
 |[],_,h,_=>by simpa[iJ] using h
 |t::r,[],h,_=>by simpa[iJ] using h
 |t::r,v::vs,h,U=>by
  have V:=tR (S:=r) (vs:=vs) h λp W=>U p (by simp[W]);refine⟨V.1,λs x I=>?_⟩;simp only[iJ,look] at I;cases J:T1 t s with
  |true=>
   rw[J] at I;simp only[cond_true,Y6] at I;subst I;rw[<-Nat.eq_of_beq_eq_true J];exact U (t,v) Ξ
  |false=>rw[J] at I;exact V.2 s x I
theorem q6 {e:Env} {a:Act} (V:T6 N e a):∀ {S:List Nat} {vs:List x1},jM e S=σ vs->vs.length=S.length/\ ∀p∈S.zip vs,a.tmps.getD p.1 undef=p.2
 |[],vs,h=>by simp[jM] at h;subst h;simp
 |t::r,vs,h=>by
  simp only[jM] at h;cases J:look e t with
  |none=>rw[J] at h;cases h
  |some x=>
   rw[J] at h;simp only at h;cases U:jM e r with
   |none=>rw[U] at h;cases h
   |some us=>
    rw[U] at h;simp only[Y6] at h;subst h;obtain⟨h1,W⟩:=q6 V U;refine⟨by simp[h1],λp I=>?_⟩;simp only[List.zip_cons_cons,V0] at I;rcases I with rfl|I
    .exact V.2 t x J
    .exact W p I
theorem EQ {a a':Act} {e I:Env} (J:T6 N e a) (U:T6 N I a') (hk:∀t,t∉D->a'.tmps.getD t undef=a.tmps.getD t undef):T6 N (lb D e) a':=
 ⟨U.1,λt x h=>by
  obtain⟨h1,V⟩:=q5 h;rw[hk t V];exact J.2 t x h1⟩
theorem ER {o:U7} {t:Nat} (I:o.dst=σ t) (l:List U7) (hm:o∈l):t∈mH l:=by
 induction l with
 |nil=>cases hm
 |cons o' l J=>
  simp only[mH];rcases V0.1 hm with h|h
  .rw[<-h,I];simp
  .have:=J h;cases o'.dst with
   |none=>exact this
   |some d=>exact .tail _ this
theorem xA {free:fh} {U:Bool} {K:Exit->Env->x3->Prop} {a a':Act} (V:free.1=false->ld w a.defers) (h:lO N free (K .normal) D a w a' w'):
  lT N free U K D a w .normal a' w':=by
 obtain⟨W,h1,X,I,Y⟩:=h;exact⟨rfl,W,h1,X,I.2,λ_=>I.1,λJ=>by rw[I.1];exact gf.same (V J) (Y J)⟩
theorem xB:∀ (I:List Nat) (vs:List x1) (p:Nat) (v:x1) (e:Env),I.length=vs.length->iJ (I++[p]) (vs++[v]) e=iJ I vs ((p,.v v)::e)
 |[],[],_,_,_,_=>rfl
 |[],_::_,_,_,_,h=>by simp at h
 |_::_,[],_,_,_,h=>by simp at h
 |q::I,u::vs,p,v,e,h=>by
  simp only[List.cons_append,iJ];rw[xB I vs p v e (by simpa using h)]
theorem xC:∀ (I:List Nat) (vs:List x1) (ia:Array x1) (e:Env),I.length=vs.length->(I.all λt=>Nat.blt t N)=true->T6 N e {tmps:=ia,defers:=[]}->
  T6 N (iJ I.reverse vs.reverse e) {tmps:=(I.zip vs).foldl (λia (p:Nat×x1)=>ia.setIfInBounds p.1 p.2) ia,defers:=[]}
 |[],[],_,_,_,_,h=>h
 |[],_::_,_,_,h,_,_=>by simp at h
 |_::_,[],_,_,h,_,_=>by simp at h
 |p::I,v::vs,ia,e,V,J,h=>by
  have U:I.length=vs.length:=by simpa using V
  simp only[List.all_cons,U2] at J;simp only[List.zip_cons_cons,List.foldl_cons,List.reverse_cons];rw[xB _ _ _ _ _ (by simpa using U)];exact xC I vs _ _ U J.2 (h.put (d:=σ p) (x:=.v v) (v:=v) J.1 rfl)
def iL (free:fh) (c:Code):Bool:=free.1|| !jL c
theorem xD:∀f a b:Bool,(f|| !(a||b))=true->(f|| !a)=true:=Φ
theorem xE:∀f a b:Bool,(f|| !(a||b))=true->(f|| !b)=true:=Φ
def exitCode:Exit->Option Code
 | .ret=>σ .ret
 | .exit id=>σ (.exit id)
 |_=>ν
end
section
variable {P:W0} {N:Nat}
def Sound (P:W0) (N:Nat) (c:Code):Prop:=
 ∀ (free:fh) (r:Option Nat) (rd:List Nat) (e:Env) (a:Act) (w:x3) (K:Exit->Env->x3->Prop) (Q:Exit->Act->x3->Prop),
  wf N c=true->(∀l,r=σ l->free.1=false/\ ∃I,w.heap[l]? =σ (.loop I))->(free.1=false->ld w a.defers)->
  ej P N free c rd e w K->T6 N e a->(∀ex a' w',lT N free (iL free c) K (dm c) a w ex a' w'->Q ex a' w')->(∀J a w,¬Q (.panic J) a w)->
  c.wpIn (eg r) 0 P Q a w
theorem ES {x y:Code} (ax:Sound P N x) (ay:Sound P N y):Sound P N (.seq x y):=by
 intro free r rd e a w K Q ae ak az h al am an;simp only[wf,U2] at ae;have ao:∀t,t∈dm x->t∈dm (.seq x y):=λt W=>by simp[dm,W]
 have aA:∀t,t∈dm y->t∈dm (.seq x y):=λt W=>by simp[dm,W]
 have ap:iL free (.seq x y)=true->iL free x=true:=λh=>xD _ _ _ h;have aB:iL free (.seq x y)=true->iL free y=true:=λh=>xE _ _ _ h;refine wpIn_seq ?_;have aq:∀ (I:Env) (U:Act) (J:x3),ej P N free y rd I J K->T6 N I U->(∀t,t∉dm x->U.tmps.getD t undef=a.tmps.getD t undef)->
   (iL free (.seq x y)=true->U.defers=a.defers)->(free.1=false->gf free.2 w a.defers J U.defers)->y.wpIn (eg r) 0 P Q U J:=by
  intro I U J h1 X hk aa V;refine ay free r rd I U J K Q ae.2 ?_ (λh=>(V h).2.1) h1 X ?_ an
  .intro l aC;obtain⟨au,aD,ad⟩:=ak l aC;exact⟨au,aD,(V au).1.aX _ _ ad rfl⟩
  .intro ex a' w' ab;exact am ex a' w' (ab.step aA (λt W=>hk t λh=>W (ao t h)) aB aa V)
 have av:∀ (Y:Exit->Env->x3->Prop),ej P N free x (reads y++rd) e w Y->
   (∀I U J,lT N free (iL free x) Y (dm x) a w .normal U J->T6 N I U->Y .normal I J->(∀t,t∉dm x->U.tmps.getD t undef=a.tmps.getD t undef)->
    (iL free (.seq x y)=true->U.defers=a.defers)->(free.1=false->gf free.2 w a.defers J U.defers)->y.wpIn (eg r) 0 P Q U J)->
   (∀ex I J,ex≠ .normal->Y ex I J->K ex I J)->x.wpIn (eg r) 0 P (Exit.then (y.wpIn (eg r) 0 P Q) Q) a w:=by
  intro Y ac V aE;refine ax free r _ e a w Y _ ae.1 ak az ac al ?_ ?_
  .intro ex U J ab;cases ex with
   |normal=>
    have aF:=ab;obtain⟨ad,I,h1,af,ag,ah,ai⟩:=ab;exact V I U J aF af h1 ag (λh=>ah (ap h)) ai
   |_=>
    obtain⟨ad,I,h1,af,ag,ah,ai⟩:=ab;refine am _ U J ⟨ad,I,aE _ I J Ξ h1,af,λt W=>ag t λh=>W (ao t h),λh=>ah (ap h),ai⟩
  .intro aG a w aH;exact an aG a w aH
 simp only[ej] at h;cases aw:Nat.ble 2 (ku x) with
 |false=>
  rw[aw] at h;refine av _ h (λI U J _ X h1 hk aa V=>aq I U J h1 X hk aa V) ?_;intro ex I J aj h1;cases ex<;>first|exact absurd rfl aj|exact h1
 |true=>
  rw[aw] at h;refine av _ h (λI U J _ X h1 hk aa V=>?_) ?_
  .simp only at h1;cases ac:jM I (ph N (dm x) (reads y++rd)) with
   |none=>rw[ac] at h1;exact h1.elim
   |some vs=>
    rw[ac] at h1;obtain⟨aI,aJ⟩:=q6 X ac;simp only at h1;rw[q0 _ _ _ aI] at h1;exact aq _ U J h1 (tR (EQ al X hk) aJ) hk aa V
  .intro ex I J aj h1;cases ex<;>first|exact absurd rfl aj|exact h1
theorem ET {c:Code} (ay:Sound P N c):Sound P N (.loop c):=by
 intro free r rd e a w K Q ao az aA h af aB aC;simp only[wf] at ao;simp only[ej] at h;generalize aQ:pi N (dm c) (reads c++rd) e=S at h;cases ag:jM e S with
 |none=>rw[ag] at h;exact h.elim
 |some vs=>
  rw[ag] at h;simp only at h;obtain⟨aD,aE,W,aF⟩:=h;obtain⟨aG,aH⟩:=q6 af ag;let Inv:Act->x3->Prop:=λI J=>∃us,us.length=S.length/\app S.length aD us J/\(∀p∈S.zip us,I.tmps.getD p.1 undef=p.2)/\I.tmps.size=N/\
   (∀t,t∉dm c->I.tmps.getD t undef=a.tmps.getD t undef)/\(iL free c=true->I.defers=a.defers)/\(free.1=false->gf free.2 w a.defers J I.defers)
  let X:Act->List x1:=λI=>S.map λt=>I.tmps.getD t undef;have ap:∀ (I:Act) (us:List x1),us.length=S.length->(∀p∈S.zip us,I.tmps.getD p.1 undef=p.2)->X I=us:=by
   intro I us Y aa;apply List.ext_getElem
   .simp[X,Y]
   .intro i h1 U;have hi:i<S.length:=by simpa[X] using h1
    have aI:(S[i],us[i])∈S.zip us:=by
     have:=R5 (l:=S.zip us) (n:=i) (by simp[List.length_zip,Y,hi]);simpa using this
    simpa[X] using aa _ aI
  refine wpIn_loop Inv (λI J=>app S.length aE (X I) J) ⟨vs,aG,W,aH,af.1,λ_ _=>rfl,λ_=>rfl,λab=>gf.refl (aA ab)⟩ ?_;rintro I J ⟨us,Y,aJ,aa,aK,hk,ab,ac⟩;have ad:=q1 S.length _ us aF;rw[q0 _ _ _ Y] at ad;have ad:=ad J aJ;have aL:T6 N (iJ S us (lb (dm c) e)) I:=by
   refine tR (a:=I) (e:=lb (dm c) e) ⟨aK,λt x ae=>?_⟩ aa;obtain⟨h1,U⟩:=q5 ae;rw[hk t U];exact af.2 t x h1
  refine ay free r _ _ I J _ _ ao ?_ (λh=>(ac h).2.1) ad aL ?_ ?_
  .intro l aM;obtain⟨aq,aN,W⟩:=az l aM;exact⟨aq,aN,(ac aq).1.aX _ _ W rfl⟩
  .intro ex ah V ai;have au:∀t,t∉dm c->ah.tmps.getD t undef=a.tmps.getD t undef:=by
    obtain⟨_,_,_,_,aj,_,_⟩:=ai;exact λt ae=>(aj t ae).trans (hk t ae)
   cases ex with
   |normal=>
    obtain⟨W,ak,h1,U,aj,al,am⟩:=ai;simp only at h1;cases an:jM ak S with
    |none=>rw[an] at h1;exact h1.elim
    |some av=>
     rw[an] at h1;obtain⟨aw,ax⟩:=q6 U an;refine⟨⟨av,aw,h1.1,ax,U.1,au,λh=>(al h).trans (ab h),λh=>(ac h).trans (am h)⟩,?_⟩;rw[ap I us Y aa,ap ah av aw ax];exact h1.2
   |_=>
    obtain⟨W,ak,h1,U,aj,al,am⟩:=ai;exact aB _ ah V ⟨W,ak,h1,U,au,λh=>(al h).trans (ab h),λh=>(ac h).trans (am h)⟩
  .intro aO a w aP;exact aC aO a w aP
theorem EU {o:Obj} (h:ff o=false):book o=true\/qP o=true:=by cases o<;>first|exact .inl rfl|exact .inr rfl|cases h
theorem EV {l:Nat} {V ab W:x3} {ac ad:Obj} (ae:V.heap[l]? =σ ac) (J:cr n V ab) (U:cr n (ab.putObj l ad) W) (af:l<W.heap.size) (hi:eN V W):cG V (W.putObj l ac):=
 ⟨U.os.trans J.os,jg.trans U.tape J.tape,U.output.trans J.output,by have h1:=J.size;have ag:=U.size;simp at ag ⊢;omega,λr x X I=>by
  by_cases aa:r=l
  .subst aa;rw[ae] at X;cases X;exact x3.putObj_heap_same af
  .rw[S7 aa];rcases EU I with Y|Y
   .exact U.aX r x (by rw[S7 aa];exact J.aX r x X Y) Y
   .exact hi r x X Y⟩
theorem EW {f:T5} {ak:Array Tmp} {ao body:Code} (bu:Sound P N ao) (aB:Sound P N body):Sound P N (.rangeFunc f ak ao body):=by
 intro free r rd e a w K Q a6 aj aM h aw bw ci;simp only[wf,U2] at a6;obtain⟨bx,bz,bA⟩:=a6;simp only[ej] at h;obtain⟨fr,b⟩:=free;cases fr with
 |true=>exact h.elim
 |false=>
  simp only[cond_false] at h;cases aN:ew e f with
  |none=>rw[aN] at h;exact h.elim
  |some cj=>
   rw[aN] at h;obtain⟨a7,o,G,g,cap,ck,cl,cm,aC,a8,aO,bB,⟨ba,bC⟩,bD,hbb,aD,aP,hbE,bF,bG,bH,bI,bJ⟩:=h;have bK:∀m k ex w',kv ex=true->ex≠ .normal->aO m k ex w'->K ex e w':=by
    intro m k ex w' ax aQ aE;cases ex with
    |normal=>exact absurd rfl aQ
    |ret=>
     have:=bI m k w' aE;cases aj:iK body with
     |true=>rw[aj] at this;exact this
     |false=>rw[aj] at this;exact this.elim
    |exit i=>exact xy (bJ m k i w' aE)
    |_=>cases ax
   have bL:a.eval f= .func (.func g) #[] cap:=by rw[aw.ew aN];exact bB
   refine wpIn_rangeFunc ?_;intro fn _;obtain⟨D,mark,l,W,U,bM,X,bc,aF,ag,bd,aG⟩:∃ (D:Nat) (mark:List Deferred) (l:Nat) (W:x3) (U:LoopState->Option Code->Loop),
     (Instr.enterLoop fn a.tmps ak ao body (eg r).round).run P w= .ok (l,mark) W/\
     U=(λst bN=>{state:=st,pending:=bN,fn,tmps:=a.tmps,params:=ak,assign:=ao,body,defers:=D})/\
     W.heap[l]? =σ (.loop (U .ready ν))/\(mark=[]\/(mark=[jN D]/\W.heap[D]? =σ (.deferred (σ []))/\w.heap.size<=D/\D≠l))/\Ext w W/\cG w W/\w.heap.size<=l:=by
    cases r with
    |none=>
     refine⟨w.heap.size,[jN w.heap.size],w.heap.size+1,_,_,run_enterLoop_outer _ _ _ _ _,rfl,?_,.inr ⟨rfl,?_,p9 _,Ω⟩,?_,?_,Ω⟩
     .have:=x3.alloc_heap_new (w.alloc (.deferred (σ []))) (.loop {state:=.ready,pending:=ν,fn,tmps:=a.tmps,params:=ak,assign:=ao,body,defers:=w.heap.size});rwa [x3.size_alloc] at this
     .exact (Below.heap_alloc _ _ _ Ξ).trans (x3.alloc_heap_new w _)
     .exact (nW w _).trans (nW _ _)
     .exact (nX w _).trans (nX _ _)
    |some bO=>
     obtain⟨_,bP,ah⟩:=aj bO rfl;exact⟨bP.defers,[],w.heap.size,_,_,run_enterLoop_inner ah _ _ _ _ _,rfl,x3.alloc_heap_new w _,.inl rfl,nW _ _,nX _ _,p9 _⟩
   let ai:x3->Prop:=λI=>mark=[]\/(mark=[jN D]/\I.heap[D]? =σ (.deferred (σ []))/\w.heap.size<=D/\D≠l);have aR:∀ {m:Nat} {A B:x3},cr m A B->ai A->ai B:=λY h=>h.imp id λ⟨h1,J,V⟩=>⟨h1,Y.aX _ _ J rfl,V⟩;have aH:∀ {A:x3} (o:Obj),ai A->ai (A.putObj l o):=λo h=>h.imp id λ⟨h1,J,V,ac⟩=>⟨h1,(S7 ac).trans J,V,ac⟩;have bQ:cr b w W:=bd.b;have be:=(o9.1 bc).1;have bf:∀ {A B:x3},fg W.heap.size A B->ai A->ai B:=λY h=>h.imp id λ⟨h1,J,V⟩=>⟨h1,Y.old _ _ (by
    rcases aF with hm|⟨_,aM,_⟩
    .rw[hm] at h1;cases h1
    .exact (o9.1 aM).1) J rfl,V⟩
   have ay:∀ {A:x3} (o:Obj),fg w.heap.size A (A.putObj l o):=λ{A} o=>⟨rfl,.jI,rfl,Ξ,λr x aj aE _=>by rw[S7 Ω];exact aE⟩;let av:(Nat->Prop)->a7->x3->Prop:=λm k I=>a8 m k I/\I.heap[l]? =σ (.loop (U .ready ν))/\cr b w I/\ai I;let bg:(Nat->Prop)->a7->x3->Prop:=λm k I=>∃ex c,kv ex=true/\exitCode ex=σ c/\aO m k ex I/\I.heap[l]? =σ (.loop (U .done (σ c)))/\cr b w I/\ai I;have own:∀ {m:Nat->Prop} {A B:x3},ae (λr=>o=true/\W.heap.size<=r/\¬m r) A B->ae (λr=>o=true/\w.heap.size<=r/\¬m r) A B:=λh=>h.mono λr _ h=>⟨h.1,Y7 ag.size h.2.1,h.2.2⟩;have aS:=bC l av bg W (λm k A B he Y ⟨h1,J,V,ac⟩=>⟨aD m k A B (own he) (Y.mono ag.size) h1,Y.old _ _ be J rfl,V.xk Y ag.size,bf Y ac⟩)
    (λm k A B he Y ⟨ex,c,ah,h1,J,V,ac,az⟩=>⟨ex,c,ah,h1,aP m k ex A B (own he) (Y.mono ag.size) J,Y.old _ _ be V rfl,ac.xk Y ag.size,bf Y az⟩) ?round (hbb _ _ _ ag hbE) ⟨aD _ _ _ _ (ag.aa _) bd.o bF,bc,bQ,aF⟩
   case round=>
    intro m k aI vs I bh bR haC bi ⟨hi,aJ,bS,bT⟩;have aT:=bD k vs aI I bi;have bj:=run_yield (P:=P) (args:=vs.toArray) aJ (by rw[X];simp[aT]);rw[X] at bj;refine⟨fn,_,ao,body,bj,roundIn_of_wpIn trivial ?_⟩;have bU:(ak.zip vs.toArray).foldl (λtmps x=>match x with|(t,a)=>tmps.setIfInBounds t a) a.tmps=(ak.toList.zip vs).foldl (λia (p:Nat×x1)=>ia.setIfInBounds p.1 p.2) a.tmps:=by
     rw[<-Array.foldl_toList,Array.toList_zip]
    have bk:=xC (N:=N) ak.toList vs a.tmps e (by simp[aT]) bx (show T6 N e {tmps:=a.tmps,defers:=[]} from⟨aw.1,aw.2⟩);rw[<-bU] at bk;have bV:I.heap[l]? =σ (.loop (U .ready ν)):=aJ;refine bu (false,b) (σ l) _ _ _ I _ _ bz (λl' aU=>⟨rfl,by cases aU;exact⟨_,aJ⟩⟩) (λ_=>⟨[],rfl,List.nodup_nil,λD aF=>by cases aF⟩) (by have aB:=q1 _ _ vs bG;rw[q0 _ _ _ aT] at aB;exact aB m k aI I (λr aj=>⟨Y7 ag.size (bh r aj).1,(bh r aj).2⟩) (Y7 ag.size bR) haC bi hi) bk ?_ (λ_ _ _ h=>h);intro ex bl ab aV;obtain⟨ah,cn,h1,J,V,ac,az⟩:=aV;obtain⟨al,bW,_⟩:=az rfl;cases ex with
    |normal=>
     have ap:ab.heap[l]? =σ (.loop (U .ready ν)):=al.aX _ _ aJ rfl;have bX:=(o9.1 ap).1;refine⟨_,run_beginRound ap (by rw[X]),?_⟩;have bY:Ext ab (ab.putObj l (.loop {U .ready ν with state:=.busy})):=pk ap rfl _;have bm:(ab.putObj l (.loop {U .ready ν with state:=.busy})).heap[l]? =σ (.loop {U .ready ν with state:=.busy}):=x3.putObj_heap_same bX;have bZ:ld (ab.putObj l (.loop {U .ready ν with state:=.busy})) bl.defers:=by
      obtain⟨aK,aq,au,aA⟩:=bW;refine⟨aK,aq,au,λD' am=>?_⟩;have:=aA D' am;have aQ:D'≠l:=λhe=>by rw[he,ap] at this;cases this
      rw[S7 aQ];exact this
     have bn:cr b w (ab.putObj l (.loop {U .ready ν with state:=.busy})):=q4 (bS.trans al) aG _;have bo:=aH (.loop {U .ready ν with state:=.busy}) (aR al bT);have b0:=h1 _ bY ⟨xz rfl,ay _⟩ (EO (eN.refl _) ap rfl _);refine aB (false,b) (σ l) _ _ bl _ _ _ bA (λl' aU=>⟨rfl,by cases aU;exact⟨_,bm⟩⟩) (λ_=>bZ) b0 J ?_ (λ_ _ _ h=>h);intro b1 cp ad aV;obtain⟨aW,cq,g1,ct,cu,cw,b2⟩:=aV;obtain⟨af,_,_⟩:=b2 rfl;have aY:ad.heap[l]? =σ (.loop {U .ready ν with state:=.busy}):=af.aX _ _ bm rfl;have aZ:=(o9.1 aY).1;have bp:=λb3=>run_endRound (P:=P) b3 aY;have aL:∀ (o:Obj),Ext ad (ad.putObj l o):=λo=>pk aY rfl o;have bq:∀ (ex:Exit) (c:Code),kv ex=true->exitCode ex=σ c->(bif o then False else aO m k ex ad)->
       ∃v w',(Instr.endRound l (σ c)).run P ad= .ok v w'/\ ∃a1,Ending.returned v= .returned a1/\((a1= .bool true/\(∃ch,(∀r,ch r->m r\/I.heap.size<=r/\r<w'.heap.size)/\(∀r,m r->ch r)/\aC ch w'/\av ch aI w')/\(G=true\/o=true->cG I w')/\I.heap.size<=w'.heap.size/\(o=true->ae (λr=>r<W.heap.size\/m r) I w'))\/(o=false/\a1= .bool false/\bg m k w')):=by
      intro ex c ax b4 br;cases o with
      |true=>exact br.elim
      |false=>
       refine⟨_,_,bp (σ c),_,rfl,.inr ⟨rfl,rfl,ex,c,ax,b4,aP m k ex _ _ ((aL _).aa _) (ay _) br,?_,q4 (bn.trans af) aG _,aH _ (aR af bo)⟩⟩;rw[x3.putObj_heap_same aZ,X];rfl
     cases b1 with
     |normal=>
      have b5:I.heap.size<=ad.heap.size:=by
       have h1:=al.size;have J:=af.size;simp at J;omega
      obtain⟨⟨ch,d1,d2,aq,au⟩,b6,b7⟩:(∃ch,(∀r,ch r->m r\/I.heap.size<=r/\r<ad.heap.size)/\(∀r,m r->ch r)/\aC ch ad/\a8 ch aI ad)/\(G=true\/o=true->eN I ad)/\(o=true->ae (λr=>r<W.heap.size\/m r) I ad):=by
       cases o with
       |true=>exact⟨g1.1,λ_=>g1.2.1,λ_=>g1.2.2.mono λr _ h=>h.imp (λh=>R3 h ag.size) id⟩
       |false=>exact⟨⟨m,λr h=>.inl h,λ_ h=>h,g1.1,g1.2.1⟩,λh=>g1.2.2 (h.elim id λh=>nomatch h),λh=>nomatch h⟩
      refine⟨_,_,bp ν,_,rfl,.inl ⟨rfl,⟨ch,by simpa using d1,d2,hbb _ _ _ (aL _) aq,aD _ _ _ _ ((aL _).aa _) (ay _) au,?_,q4 (bn.trans af) aG _,aH _ (aR af bo)⟩,λb8=>?_,?_,λb9=>(b7 b9).trans ((aL _).aa _)⟩⟩
      .rw[x3.putObj_heap_same aZ,X];rfl
      .have:=EV bV al af aZ (b6 b8);subst X;exact this
      .simpa using b5
     |ret=>exact bq .ret _ rfl rfl g1
     |exit id=>exact bq (.exit id) _ rfl rfl g1
     |goto t=>cases aW
     |panic ca=>cases aW
     |outgrown=>cases aW
    |_=>exact h1.elim
   have aS:=gb.calls P aS ba;refine⟨l,mark,W,{target:=.fn (.func g) cap,args:=#[.func (.yield l) #[] #[]]},W,g,#[.func (.yield l) #[] #[]]++cap,W,bM,?_,λ_ _=>trivial,?_,tw _ _,?_⟩
   .simp only[resolve,bL];simp[go_sem]
   .simp only[invoke];exact ba _ _
   .have cb:(#[.func (.yield l) #[] #[]]++cap:Array x1)=(x1.func (.yield l) #[] #[]::cap.toList).toArray:=by apply Array.toList_inj.1;simp
    rw[cb];refine CallsIn.mono (xl aS) ?_;rintro cz ab ⟨v,rfl,cc⟩;have left:∀ (an:Loop) (ex:Exit),kv ex=true->ab.heap[l]? =σ (.loop an)->an.state≠ .busy->cr b w ab->ai ab->K ex e (ab.putObj l (.loop {an with state:=.exhausted}))->
      Q ex {a with defers:=mark++a.defers} (ab.putObj l (.loop {an with state:=.exhausted})):=by
     intro an ex ax ap cA al bt cd;have af:cr b w (ab.putObj l (.loop {an with state:=.exhausted})):=q4 al aG _;refine bw ex _ _ ⟨ax,e,cd,⟨aw.1,aw.2⟩,λ_ _=>rfl,(λh=>by simp[iL,jL] at h),λ_=>⟨af,?_,?_⟩⟩
     case refine_2=>
      rcases bt with hm|⟨hm,_,ce,_⟩
      .exact⟨[],by simp[hm],λ_ h=>by cases h⟩
      .exact⟨[D],by simp[hm],λD' am=>by simp at am;omega⟩
     obtain⟨aK,aq,au,aA⟩:=aM rfl;have a2:=aH (.loop {an with state:=.exhausted}) bt;rcases a2 with hm|⟨hm,a2,ce,_⟩
     .exact⟨aK,by simp[hm,aq],au,λD' am=>af.aX _ _ (aA D' am) rfl⟩
     .refine⟨D::aK,by simp[hm,aq],List.nodup_cons.2 ⟨λcg=>?_,au⟩,λD' am=>?_⟩
      .have:=(o9.1 (aA D cg)).1;omega
      .rcases V0.1 am with h|h
       .rw[h];exact a2
       .exact af.aX _ _ (aA D' h) rfl
    rcases cc with⟨m,k,hk,h1,J,V,ac⟩|⟨m,k,ex,c,ah,h1,J,V,ac,az⟩
    .refine⟨ν,_,by have:=run_endLoop (P:=P) J (by rw[X];simp);rw[X] at this;exact this,?_⟩;have:=left (U .ready ν) .normal rfl J (by rw[X];simp) V ac (bH m _ _ hk (aD m _ _ _ ((pk J rfl _).aa _) (ay _) h1));rw[X] at this;exact this
    .refine⟨σ c,_,by have:=run_endLoop (P:=P) V (by rw[X];simp);rw[X] at this;exact this,?_⟩;have:=left (U .done (σ c)) ex ah V (by rw[X];simp) ac az (bK m k ex _ ah (by intro he;rw[he] at h1;cases h1) (aP m _ _ _ _ ((pk V rfl _).aa _) (ay _) J));rw[X] at this;cases ex with
     |normal=>cases h1
     |ret=>cases h1;exact wpIn_ret this
     |exit id=>cases h1;exact wpIn_exit this
     |goto t=>cases ah
     |panic ca=>cases ah
     |outgrown=>cases ah
theorem q7 {b:Frame} {a:Act} {k:List Item} {cs:List Frame} {c:Code}:
  step P (lone (b.atR a (.code (.scope c)::k)) cs w)= .next (lone (b.atR a (.code c:: .inScope c::k)) cs w):=
 step_lone_go (by simp[stepG,stepG.exec,Frame.atR])
theorem EX {b:Frame} {a:Act} {k:List Item} {cs:List Frame} {c:Code}:
  step P (lone (b.atR a (.inScope c::k)) cs w)= .next (lone (b.atR a k) cs w):=
 step_lone_go (by simp[stepG,stepG.exec,Frame.atR])
theorem EY {F:Fence} {c:Code} {Q:Exit->Act->x3->Prop} {a:Act} (h:c.wpIn F n P (λex a' w'=>kv ex=true/\Q ex a' w') a w):
  (Code.scope c).wpIn F n P Q a w:=by
 intro b k cs ac U V;have I:(lone (b.atR a (.code (.scope c)::k)) cs w).fenced P F:=fenced_calm U V rfl;obtain⟨e,W,X,⟨Y,aa⟩,J⟩:=h b (.inScope c::k) cs ac U V;have ab:∀id,exitTo id (.inScope c::k)=exitTo id k:=λid=>by simp[exitTo]
 cases e with
 |normal=>exact⟨.normal,W,X,aa,.head I q7 (StepsIn.trans J (.one (fenced_calm U V rfl) EX))⟩
 |exit id=>
  exact⟨.exit id,W,X,aa,λad hk=>.head I q7 (J.1 ad (by rw[ab];exact hk)),
   λae hk=>let⟨af,h1,ag⟩:=J.2 ae (by rw[ab];exact hk);⟨af,h1,.head I q7 ag⟩⟩
 |ret=>exact⟨_,W,X,aa,.of_steps (.one I q7) J⟩
 |goto l=>cases Y
 |panic ah=>cases Y
 |outgrown=>cases Y
theorem sound (hm:P.follows .mixedOrders=true) (c:Code):Sound P N c:=by
 induction c with
 |skip=>exact λfree r rd e a w K Q _ _ J h I U _=>wpIn_skip (U _ _ _ ⟨rfl,e,h,I,λ_ _=>rfl,λ_=>rfl,λY=>gf.refl (J Y)⟩)
 |label l=>exact λfree r rd e a w K Q _ _ J h I U _=>wpIn_label (U _ _ _ ⟨rfl,e,h,I,λ_ _=>rfl,λ_=>rfl,λY=>gf.refl (J Y)⟩)
 |ret=>exact λfree r rd e a w K Q _ _ J h I U _=>wpIn_ret (U _ _ _ ⟨rfl,e,h,I,λ_ _=>rfl,λ_=>rfl,λY=>gf.refl (J Y)⟩)
 |exit i=>exact λfree r rd e a w K Q _ _ J h I U _=>wpIn_exit (U _ _ _ ⟨rfl,e,h,I,λ_ _=>rfl,λ_=>rfl,λY=>gf.refl (J Y)⟩)
 |goto l=>exact λfree r rd e a w K Q _ _ J h I U _=>h.elim
 |refuse s=>exact λfree r rd e a w K Q _ _ J h I U _=>h.elim
 |region id ops au=>
  intro free r rd e a w K Q V aa J h I U ab;simp only[wf,U2] at V;have an:∀o∈ops.toList,∀t,o.dst=σ t->t∈mH ops.toList:=λo av t ae=>ER ae _ av;simp only[ej] at h;cases au with
  |false=>exact Ex an V.1 h I λa' w' W=>U _ _ _ (xA J W)
  |true=>
   simp only[Z8,Bool.false_or] at V;exact EG hm V.2 ab an V.1 (λw' h1 ac ad=>h w' h1 ac ad) I λa' w' W=>U _ _ _ (xA J W)
 |seq x y ai aj=>exact ES ai aj
 |cond c x y ai aj=>
  intro free r rd e a w K Q V aa J h I U ab;simp only[wf,U2] at V;have ao:∀ex a' w',lT N free (iL free x) K (dm x) a w ex a' w'->Q ex a' w':=λex a' w' W=>U ex a' w' (by
   obtain⟨ah,af,h1,ac,ad,ag,ak⟩:=W;exact⟨ah,af,h1,ac,λt ae=>ad t λh=>ae (by simp[dm,h]),(λh=>ag (xD _ _ _ h)),ak⟩)
  have ap:∀ex a' w',lT N free (iL free y) K (dm y) a w ex a' w'->Q ex a' w':=λex a' w' W=>U ex a' w' (by
   obtain⟨ah,af,h1,ac,ad,ag,ak⟩:=W;exact⟨ah,af,h1,ac,λt ae=>ad t λh=>ae (by simp[dm,h]),(λh=>ag (xE _ _ _ h)),ak⟩)
  simp only[ej] at h;cases X:ew e c with
  |none=>rw[X] at h;exact h.elim
  |some v=>
   rw[X] at h;cases v with
   |b t=>
    cases t with
    |true=>exact wpIn_cond (t:=true) (I.ew X) (ai free r rd e a w K Q V.1 aa J h I ao ab)
    |false=>exact wpIn_cond (t:=false) (I.ew X) (aj free r rd e a w K Q V.2 aa J h I ap ab)
   |v z=>
    obtain⟨t,aw,ae,Y⟩:=h;refine wpIn_cond (t:=t) ((I.ew X).trans aw) ?_;cases t with
    |true=>exact ai free r rd e a w K Q V.1 aa J (ae rfl) I ao ab
    |false=>exact aj free r rd e a w K Q V.2 aa J (Y rfl) I ap ab
   |u=>exact h.elim
 |block id c X=>
  intro free r rd e a w K Q V aa J h I U ab;simp only[wf] at V;simp only[ej] at h;refine wpIn_block (X free r rd e a w _ _ V aa J h I ?_ λaq a w al=>ab aq a w al);intro ex a' w' W;obtain⟨ah,af,h1,ac,ad,ag⟩:=W;cases ex with
  |exit i=>
   simp only[Exit.inBlock];simp only at h1;by_cases hi:i=id
   .rw[if_pos hi];rw[hi,Nat.beq_refl] at h1;exact U _ _ _ ⟨rfl,af,h1,ac,ad,ag⟩
   .rw[if_neg hi];have:T1 i id=false:=by
     cases am:T1 i id with
     |true=>exact absurd (Nat.eq_of_beq_eq_true am) hi
     |false=>rfl
    rw[this] at h1;exact U _ _ _ ⟨rfl,af,h1,ac,ad,ag⟩
  |_=>exact U _ _ _ ⟨ah,af,h1,ac,ad,ag⟩
 |loop c X=>exact ET X
 |scope c X=>
  intro free r rd e a w K Q V aa J h I U ab;exact EY (X free r rd e a w K (λex a' w'=>kv ex=true/\Q ex a' w') V aa J h I (λex a' w' W=>⟨W.1,U ex a' w' W⟩) λaq a w al=>by cases al.1)
 |rangeFunc f ay az body ax am=>exact EW ax am
def kw:Nat->List x1->Env
 |_,[]=>[]
 |i,v::r=>(i,.v v)::kw (i+1) r
def mK (P:W0) (e:Env) (w:x3):List ResultVar->(List x1->Prop)->Prop
 |[],K=>K []
 | .tmp t::r,K=>match look e t with
  |some x=>mK P e w r λvs=>K (x.val::vs)
  |none=>False
 | .cell a t::r,K=>match look e a with
  |some x=>U P (do loadVar t (<-asAddr x.val)) w λv=>mK P e w r λvs=>K (v::vs)
  |none=>False
def q8:List x1->x1
 |[v]=>v
 |vs=>.tuple vs.toArray
def lf (P:W0) (I:List ResultVar) (marks:Bool) (n:Nat) (Q:x1->x3->Prop):Exit->Env->x3->Prop
 | .normal,e,w| .ret,e,w=>mK P e w I λvs=>bif marks then tN n w λw'=>Q (q8 vs) w' else Q (q8 vs) w
 |_,_,_=>False
def lU:List ResultVar->List Nat
 |[]=>[]
 | .tmp t::r=>t::lU r
 | .cell a _::r=>a::lU r
theorem xF:∀ (vs:List x1) (i t:Nat) (x:ei),look (kw i vs) t=σ x-> ∃j v,t=i+j/\vs[j]? =σ v/\x= .v v
 |[],_,_,_,h=>by cases h
 |v::r,i,t,x,h=>by
  simp only[kw,look] at h;cases I:T1 i t with
  |true=>
   rw[I] at h;simp only[cond_true,Y6] at h;exact⟨0,v,by rw[Nat.eq_of_beq_eq_true I];rfl,rfl,h.symm⟩
  |false=>
   rw[I] at h;obtain⟨j,u,h1,J,U⟩:=xF r (i+1) t x h;exact⟨j+1,u,Ω,by simpa using J,U⟩
theorem tS (vs:List x1) (h:vs.length<=n):T6 n (kw 0 vs) {tmps:=vs.toArray++Array.replicate (n-vs.toArray.size) undef,defers:=[]}:=by
 refine⟨Θ,λt x J=>?_⟩;obtain⟨j,v,h1,I,rfl⟩:=xF vs 0 t x J;have h1:t=j:=Ω
 subst h1;have U:t<vs.length:=(x4.1 I).1;rw[Array.getD_eq_getD_getElem?,Array.getElem?_append_left (by simpa using U)];simp[I,ei.val]
def q9 (ia:Array x1):ResultVar->Sem x1
 | .tmp t=>pure (ia.getD t undef)
 | .cell b t=>do loadVar t (<-asAddr (ia.getD b undef))
theorem EZ (fn:Func) (ia:Array x1):results fn ia=(do let vs <-fn.results.mapM (q9 ia);pure (if h:vs.size=1 then vs[0] else .tuple vs)):=by
 unfold results;congr 2
theorem tT {e:Env} {a:Act} {w:x3} (J:T6 N e a):∀ (U:List ResultVar) (K:List x1->Prop),mK P e w U K->
  ∃vs,K vs/\vs.length=U.length/\ ∀w',Ext w w'->(U.mapM (q9 a.tmps)).run P w'= .ok vs w'
 |[],K,h=>⟨[],h,rfl,λw' _=>by simp[W8]⟩
 | .tmp t::r,K,h=>by
  simp only[mK] at h;cases I:look e t with
  |none=>rw[I] at h;exact h.elim
  |some x=>
   rw[I] at h;obtain⟨vs,h1,V,W⟩:=tT J r _ h;refine⟨x.val::vs,h1,by simp[V],λw' hw=>?_⟩;rw[List.mapM_cons];simp only[q9,X8,W8,X9,W w' hw,J.2 t x I]
 | .cell b t::r,K,h=>by
  simp only[mK] at h;cases I:look e b with
  |none=>rw[I] at h;exact h.elim
  |some x=>
   rw[I] at h;obtain⟨v,X,h⟩:=h;obtain⟨vs,h1,V,W⟩:=tT J r _ h;refine⟨v::vs,h1,by simp[V],λw' hw=>?_⟩;rw[List.mapM_cons];have:=X w' hw;rw[<-J.2 b x I] at this;rw[q9,X8,this];simp only[X9,X8,W w' hw,W8]
theorem tU {fn:Func} {e:Env} {a:Act} (J:T6 N e a) {K:List x1->Prop} (h:mK P e w fn.results.toList K):
  ∃vs,K vs/\ ∀w',Ext w w'->(results fn a.tmps).run P w'= .ok (q8 vs) w':=by
 obtain⟨vs,h1,U,I⟩:=tT J _ _ h;refine⟨vs,h1,λw' hw=>?_⟩;have I:=I w' hw;rw[EZ,X8,Array.mapM_eq_mapM_toList,map_eq_pure_bind,X8,I];simp only[X9,W8];cases vs with
 |nil=>rfl
 |cons v r=>
  cases r with
  |nil=>rfl
  |cons u r=>simp[q8]
theorem xG {fn:Func} {tmps:Array x1} {R:Ending->x3->Prop}:∀ (I:List Nat) (w:x3),I.Nodup->(∀D∈I,w.heap[D]? =σ (.deferred (σ [])))->
  (∀w',Ext w w'->Ext w' w->w'.os=w.os->jg w w'->w'.output=w.output->w.heap.size=w'.heap.size->
   (∀r,r∉I->w'.heap[r]? =w.heap[r]?)-> ∃v,(results fn tmps).run P w'= .ok v w'/\R (.returned v) w')->
  LeavesInM Fence.wide 0 P fn tmps R (I.map jN) .returning w
 |[],w,_,_,h=>by
  obtain⟨v,h1,J⟩:=h w (Ext.refl _) (Ext.refl _) rfl .jI rfl rfl λ_ _=>rfl;exact⟨v,h1,J⟩
 |D::I,w,U,V,h=>by
  rw[List.nodup_cons] at U;have W:=V D (.head _);refine⟨Ξ,.inl ⟨D,_,rfl,run_takeDeferred W,?_⟩⟩;refine xG I _ U.2 (λD' X=>?_) λw' h1 J aa ab ac ad ae=>?_
  .rw[S7 (λhe=>U.1 (by rw[<-he];exact X))];exact V D' (.tail _ X)
  .refine h w' ((pk W rfl _).trans h1) (J.trans (xz rfl)) aa ab ac (by simpa using ad) λr Y=>?_;rw[ae r λhm=>Y (.tail _ hm),S7 λhe=>Y (by rw[he];exact .head _)]
theorem aj.enter (hm:P.follows .mixedOrders=true) {f:S6} {fn:Func} {c:Code} (ab:P.funcs[f]? =σ fn) (ac:fn.body=σ c) (ad:(fn.name == "runtime.NumGoroutine")=false)
  (ap:wf fn.ntmps c=true) {args:List x1} (aq:Nat.ble args.length fn.ntmps=true) {w:x3} {Q:x1->x3->Prop}
  (h:ej P fn.ntmps (false,w.heap.size) c (lU fn.results.toList) (kw 0 args) w (lf P fn.results.toList true w.heap.size Q)):aj P f args w Q:=by
 refine .code (Enters.of P ab ac ad) (callsIn_wide (n:=0).1 (callsIn_of_wp_marks ab ac trivial ?_));have au:=tS (n:=fn.ntmps) args (Nat.le_of_ble_eq_true aq);refine wpIn_mono (Q:=λex a' w'=>kv ex=true/\bodyPostM Fence.wide 0 P fn (λe w'=>∃v,e= .returned v/\cG w w'/\Q v w') ex a' w') ?_ λ_ _ _ h=>h.2;refine sound hm c (false,w.heap.size) ν _ _ _ w _ _ ap (λl av=>by cases av) (λ_=>⟨[],rfl,List.nodup_nil,λD X=>by cases X⟩) h au ?_ (λ_ _ _ h=>by cases h.1)
 .intro ex a' w' aw;obtain⟨ax,ay,U,az,_,_,I⟩:=aw;obtain⟨J,⟨Y,ae,aA,X⟩,aB,aC,aD⟩:=I rfl;have af:∀D∈Y,w.heap.size<=D:=by
   intro D aE;have h1:jN D∈aB.map jN:=by
    have:jN D∈Y.map jN:=o8.2 ⟨D,aE,rfl⟩;rw[<-ae,aC] at this;simpa using this
   obtain⟨ag,aa,aF⟩:=o8.1 h1;have:ag=D:=by simpa[jN] using aF
   exact this▸aD ag aa
  have ah:lf P fn.results.toList true w.heap.size Q .ret ay w'->LeavesInM Fence.wide 0 P fn a'.tmps (λe ai=>∃v,e= .returned v/\cG w ai/\Q v ai) a'.defers .returning w':=by
   intro U;rw[ae];obtain⟨vs,h1,aa⟩:=tU (fn:=fn) az U;refine xG Y w' aA X λV g1 aG ak al am an ao=>⟨_,aa V g1,_,rfl,?_,h1 V g1 ⟨aG,ak,al,am,Nat.le_of_eq an,λr o ad W _=>by rw[ao r λhm=>by have:=af r hm;omega];exact W⟩⟩;have J:=J.ck (p9 _);refine⟨ak.trans J.os,al.trans J.tape,am.trans J.output,by rw[<-an];exact J.size,λr o W aH=>?_⟩;have aI:=(o9.1 W).1;rw[ao r λhm=>by have:=af r hm;omega];exact J.aX r o W aH
  cases ex with
  |normal=>exact⟨rfl,ah U⟩
  |ret=>exact⟨rfl,ah U⟩
  |exit id=>exact U.elim
  |_=>cases ax
theorem aj.E0 (hm:P.follows .mixedOrders=true) {f:S6} {fn:Func} {c:Code} (U:P.funcs[f]? =σ fn) (V:fn.body=σ c) (Y:(fn.name == "runtime.NumGoroutine")=false)
  (aa:wf fn.ntmps c=true) {args:List x1} (ab:Nat.ble args.length fn.ntmps=true) (aC:jL c=false) {w:x3} {Q:x1->x3->Prop}
  (h:ej P fn.ntmps (false,w.heap.size) c (lU fn.results.toList) (kw 0 args) w (lf P fn.results.toList false 0 Q)):aj P f args w Q:=by
 refine .code (Enters.of P U V Y) (callsIn_wide (n:=0).1 (callsIn_of_wp U V trivial ?_));have ac:=tS (n:=fn.ntmps) args (Nat.le_of_ble_eq_true ab);refine wpIn_mono (Q:=λex a' w'=>kv ex=true/\bodyPost P fn (λe w'=>∃v,e= .returned v/\cG w w'/\Q v w') ex a' w') ?_ λ_ _ _ h=>h.2;refine sound hm c (false,w.heap.size) ν _ _ _ w _ _ aa (λl ad=>by cases ad) (λ_=>⟨[],rfl,List.nodup_nil,λD ae=>by cases ae⟩) h ac ?_ (λ_ _ _ h=>by cases h.1);intro ex a' w' af;obtain⟨ag,ah,J,ai,_,ak,I⟩:=af;have al:a'.defers=[]:=ak (by simp[iL,aC]);have W:lf P fn.results.toList false 0 Q .ret ah w'->a'.defers=[]/\ ∃v,(results fn a'.tmps).run P w'= .ok v w'/\ ∃X,Ending.returned v= .returned X/\cG w w'/\Q X w':=by
  intro J;obtain⟨vs,h1,am⟩:=tU (fn:=fn) ai J;exact⟨al,_,am w' (Ext.refl _),_,rfl,(I rfl).1.ck (p9 _),h1⟩
 cases ex with
 |normal=>exact⟨rfl,W J⟩
 |ret=>exact⟨rfl,W J⟩
 |exit id=>exact J.elim
 |_=>cases ag
theorem gb.enter (hm:P.follows .mixedOrders=true) {f:S6} {fn:Func} {c:Code} (U:P.funcs[f]? =σ fn) (V:fn.body=σ c) (Y:(fn.name == "runtime.NumGoroutine")=false)
  (aa:wf fn.ntmps c=true) {args:List x1} (ab:Nat.ble args.length fn.ntmps=true) {w:x3} {Q:x1->x3->Prop}
  (h:ej P fn.ntmps (true,0) c (lU fn.results.toList) (kw 0 args) w (lf P fn.results.toList false 0 Q)):gb P f args w Q:=by
 refine .code (Enters.of P U V Y) (callsIn_wide (n:=0).1 (callsIn_of_wp U V trivial ?_));have ac:=tS (n:=fn.ntmps) args (Nat.le_of_ble_eq_true ab);refine wpIn_mono (Q:=λex a' w'=>kv ex=true/\bodyPost P fn (λe w'=>∃v,e= .returned v/\Q v w') ex a' w') ?_ λ_ _ _ h=>h.2;refine sound hm c (true,0) ν _ _ _ w _ _ aa (λl ad=>by cases ad) (λh=>by cases h) h ac ?_ (λ_ _ _ h=>by cases h.1);intro ex a' w' ae;obtain⟨af,ag,J,ah,_,ai,I⟩:=ae;have aj:a'.defers=[]:=ai rfl;have W:lf P fn.results.toList false 0 Q .ret ag w'->a'.defers=[]/\ ∃v,(results fn a'.tmps).run P w'= .ok v w'/\ ∃X,Ending.returned v= .returned X/\Q X w':=by
  intro J;obtain⟨vs,h1,ak⟩:=tU (fn:=fn) ah J;exact⟨aj,_,ak w' (Ext.refl _),_,rfl,h1⟩
 cases ex with
 |normal=>exact⟨rfl,W J⟩
 |ret=>exact⟨rfl,W J⟩
 |exit id=>exact J.elim
 |_=>cases af
end
def pm (l:List T5) (d:Nat):Nat:=
 match l with
 |[]=>d
 | .tmp t::r=>pm r (Nat.lor d (Nat.shiftLeft 1 t))
 |_::r=>pm r d
def nY:List U7->Nat->Option U7
 |[],_=>ν
 |o::_,0=>σ o
 |_::l,n+1=>nY l n
def xH (a b:Nat):Nat:=Nat.xor a (Nat.land a b)
def pn (m t:Nat):Bool:=T1 (Nat.land (Nat.shiftRight m t) 1) 1
def jO (m t:Nat):Nat:=Nat.lor m (Nat.shiftLeft 1 t)
def E1 (ops:List U7) (o:U7):Nat:=
 match o.guard with
 |none=>0
 |some (j,_)=>match nY ops j with
  |some ⟨σ d,_,_,_,_,_⟩=>Nat.shiftLeft 1 d
  |_=>0
def ra:List U7->Nat->Nat
 |[],d=>d
 |⟨σ t,_,_,_,_,_⟩::l,d=>ra l (jO d t)
 |_::l,d=>ra l d
def xI (ops:List U7):List U7->Nat->Nat->Nat
 |[],_,r=>r
 |o::l,d,r=>xI ops l (match o.dst with|some t=>jO d t|none=>d) (Nat.lor r (xH (pm (opsOf o.op) (E1 ops o)) d))
def rb:List Nat->Nat->Nat
 |[],_=>0
 |x::_,0=>x
 |_::l,n+1=>rb l n
def xJ (e:Edge):Bool:=
 match e.ground with
 | .textOnly _=>false
 | .gcOnly _=>false
 |_=>true
def xK (bs:List Nat):List Edge->Nat->Nat
 |[],s=>s
 |e::r,s=>xK bs r (bif xJ e then Nat.lor (jO s e.on) (rb bs e.on) else s)
def tV:List U7->List Nat->List Nat
 |[],bs=>bs
 |o::l,bs=>tV l (bs++[xK bs o.after.toList 0])
def xL:List U7->Bool
 |[]=>false
 |⟨_,_,_,_,_,σ _⟩::_=>true
 |_::l=>xL l
def tW (bs:List Nat) (j k:Nat):Bool:=!(T1 k j)&&(!(pn (rb bs j) k)&& !(pn (rb bs k) j))
def xM (bs:List Nat) (j:Nat):Nat->List U7->Bool
 |_,[]=>false
 |i,o::l=>bif Nat.ble j i then false else (!(iH o)&&tW bs j i)||xM bs j (Nat.succ i) l
def xN (ops:List U7) (bs:List Nat):Nat->List U7->Bool
 |_,[]=>false
 |j,o::l=>(!(iH o)&&xM bs j 0 ops)||xN ops bs (Nat.succ j) l
def lg:Code->Nat
 | .region _ ops I=>bif (I&&xN ops.toList (tV ops.toList []) 0 ops.toList)||xL ops.toList then 2 else 1
 | .seq a b=>bif T1 (lg a) 0 then 0 else lg b
 | .cond _ a b=>Nat.add (lg a) (lg b)
 | .block id c=>Nat.add (lg c) (ji id c)
 | .loop _=>0
 | .scope c=>lg c
 | .exit _=>0
 | .goto _=>0
 | .ret=>0
 | .refuse _=>0
 |_=>1
def hJ:Code->Nat
 | .region _ ops _=>ra ops.toList 0
 | .seq a b=>Nat.lor (hJ a) (hJ b)
 | .cond _ a b=>Nat.lor (hJ a) (hJ b)
 | .block _ c=>hJ c
 | .loop c=>hJ c
 | .scope c=>hJ c
 |_=>0
def lh:Code->Nat
 | .region _ ops _=>ra ops.toList 0
 | .seq a b=>Nat.lor (lh a) (lh b)
 | .cond _ a b=>bif T1 (lg a) 0 then lh b else bif T1 (lg b) 0 then lh a else Nat.land (lh a) (lh b)
 | .block id c=>bif T1 (ji id c) 0 then lh c else 0
 | .scope c=>lh c
 |_=>0
def fK:Code->Nat
 | .region _ ops _=>xI ops.toList ops.toList 0 0
 | .seq a b=>Nat.lor (fK a) (xH (fK b) (lh a))
 | .cond c a b=>pm [c] (Nat.lor (fK a) (fK b))
 | .block _ c=>fK c
 | .loop c=>fK c
 | .scope c=>fK c
 | .rangeFunc f _ a b=>pm [f] (Nat.lor (fK a) (fK b))
 |_=>0
def lV:Nat->Nat->Nat->List Nat
 |0,_,_=>[]
 |n+1,k,m=>bif T1 m 0 then[] else bif T1 (Nat.land m 1) 1 then k::lV n (Nat.succ k) (Nat.shiftRight m 1) else lV n (Nat.succ k) (Nat.shiftRight m 1)
def po (e:Env):List Nat->List Nat
 |[]=>[]
 |t::r=>match look e t with
  |some _=>t::po e r
  |none=>po e r
structure lW (B S aU:Type) where
 kx:{x:x1}->x1
 tup:List x1->x1
 no:B
 ky:B
 and:B->B->B
 or:B->B->B
 ext:x3->x3->B
 stays:S->x1->x3->B
 split:x1->B->B->B
 tX:S->x3->(x1->B)->B
 xO:S->x3->(x1->x3->B)->B
 xP:aU->x3->(x3->B)->B
 runN:{fr:Bool}->{n:Nat}->S->x3->(x1->x3->B)->B
 xQ:{f:S6}->List x1->x3->(x1->x3->B)->B
 xR:{f:S6}->List x1->x3->(x1->x3->B)->B
 xS:{fr:Bool}->x1->List x1->x3->(x1->x3->B)->B
 drew:x3->(x3->B)->B
 again:{n:Nat}->x3->(x3->B)->B
 over:{n:Nat}->x3->(x3->B)->B
 db:(x3->B)->((x3->B)->B)->B
 aR:(x1->x3->B)->((x1->x3->B)->B)->B
 iM:(x1->x1->x3->B)->((x1->x1->x3->B)->B)->B
 xT:(x1->x1->x1->x3->B)->((x1->x1->x1->x3->B)->B)->B
 xU:(x1->x1->x1->x1->x3->B)->((x1->x1->x1->x1->x3->B)->B)->B
 xV:(x1->x1->x1->x1->x1->x3->B)->((x1->x1->x1->x1->x1->x3->B)->B)->B
 xW:x3->(x3->(x3->B)->B)->B
 xX:x1->x3->(x1->x3->(x1->x3->B)->B)->B
 xY:x1->x1->x3->(x1->x1->x3->(x1->x1->x3->B)->B)->B
 xZ:x1->x1->x1->x3->(x1->x1->x1->x3->(x1->x1->x1->x3->B)->B)->B
 x0:x1->x1->x1->x1->x3->(x1->x1->x1->x1->x3->(x1->x1->x1->x1->x3->B)->B)->B
 x2:x1->x1->x1->x1->x1->x3->(x1->x1->x1->x1->x1->x3->(x1->x1->x1->x1->x1->x3->B)->B)->B
 x9:x1->x1->x1->x1->x1->x1->x3->(x1->x1->x1->x1->x1->x1->x3->(x1->x1->x1->x1->x1->x1->x3->B)->B)->B
 ya:x1->x3->(x1->x3->(Exit->x3->B)->B)->(x3->B)->(x3->B)->List (Nat×(x3->B))->B
 yb:x1->x3->(x1->x1->x3->(Exit->x3->B)->B)->(x3->B)->(x3->B)->List (Nat×(x3->B))->B
 loadVar:{t:r9}->x1->S
 alloc:{t:r9}->S
 box:{t:r9}->x1->S
 build:{t:r9}->List (Nat×x1)->S
 buildSlice:{t:r9}->{n:Nat}->List (Nat×x1)->S
 load:{t:r9}->x1->S
 nil:x1->S
 bin:{op:BinOp}->{t:r9}->Bool->Bool->x1->x1->S
 un:{op:UnOp}->x1->S
 conv:{s d:r9}->x1->S
 yc:{t:r9}->x1->S
 yd:{f:Fn}->List x1->List x1->S
 ye:{t:r9}->Option x1->S
 yf:{t:r9}->x1->x1->S
 slice:{t:r9}->x1->Option x1->Option x1->Option x1->S
 yg:{t:r9}->x1->{f:Nat}->S
 field:{t:r9}->x1->{f:Nat}->S
 yh:{t:r9}->x1->x1->S
 index:{t:r9}->x1->x1->S
 lookup:{t:r9}->x1->x1->{ok:Bool}->S
 yi:{t:r9}->x1->x1->S
 range:{t:r9}->x1->S
 entry:x1->S
 assert:{t a:r9}->x1->{ok:Bool}->S
 extract:x1->{i:Nat}->S
 next:x1->{b:Bool}->S
 append:{ats:Array r9}->{t:r9}->List x1->S
 cap:{ats:Array r9}->{t:r9}->List x1->S
 clear:{ats:Array r9}->{t:r9}->List x1->S
 copy:{ats:Array r9}->{t:r9}->List x1->S
 delete:{ats:Array r9}->{t:r9}->List x1->S
 len:{ats:Array r9}->{t:r9}->List x1->S
 max:{ats:Array r9}->{t:r9}->List x1->S
 min:{ats:Array r9}->{t:r9}->List x1->S
 store:{t:r9}->x1->x1->aU
 tY:{t:r9}->x1->x1->x1->aU
 yj:{t:r9}->x1->x1->x1->aU
section
variable {B S aU:Type} (A:lW B S aU)
def ei.g:ei->x1
 | .v x=>x
 | .b c=>.bool c
 | .u=>A.kx (x:=undef)
def mL (e:Env):T5->ei
 | .tmp t=>match look e t with
  |some x=>x
  |none=>.u
 | .const (.bool c)=>.b c
 | .const x=>.v (A.kx (x:=x))
 | .global g=>.v (A.kx (x:=Γ g))
 | .func f=>.v (A.kx (x:=.func (.func f) #[] #[]))
def cT (e:Env) (x:T5):x1:=(mL A e x).g A
def mM (e:Env):List T5->List x1
 |[]=>[]
 |x::r=>cT A e x::mM e r
def re (e:Env):Option T5->Option x1
 |none=>ν
 |some x=>σ (cT A e x)
def tZ (e:Env):List (Nat×T5)->List (Nat×x1)
 |[]=>[]
 |(i,x)::r=>(i,cT A e x)::tZ e r
def E2 (b:Z0) (ats:Array r9) (t:r9) (l:List x1) (K:S->B):B:=
 match b with
 | .append=>K (A.append (ats:=ats) (t:=t) l)
 | .cap=>K (A.cap (ats:=ats) (t:=t) l)
 | .clear=>K (A.clear (ats:=ats) (t:=t) l)
 | .copy=>K (A.copy (ats:=ats) (t:=t) l)
 | .delete=>K (A.delete (ats:=ats) (t:=t) l)
 | .len=>K (A.len (ats:=ats) (t:=t) l)
 | .max=>K (A.max (ats:=ats) (t:=t) l)
 | .min=>K (A.min (ats:=ats) (t:=t) l)
 |_=>A.no
def yk (e:Env) (t:r9) (K:S->B) (I:aU->B):Op->B
 | .alloc t=>K (A.alloc (t:=t))
 | .box t x=>K (A.box (t:=t) (cT A e x))
 | .build t J=>K (A.build (t:=t) (tZ A e J.toList))
 | .buildSlice t n J=>K (A.buildSlice (t:=t) (n:=n) (tZ A e J.toList))
 | .load t x=>K (A.load (t:=t) (cT A e x))
 | .nilCheck x=>K (A.nil (cT A e x))
 | .binOp op t x y _=>K (A.bin (op:=op) (t:=t) (nM x) (nM y) (cT A e x) (cT A e y))
 | .unOp op _ x=>K (A.un (op:=op) (cT A e x))
 | .convert s d x=>K (A.conv (s:=s) (d:=d) (cT A e x))
 | .makeInterface t x=>K (A.yc (t:=t) (cT A e x))
 | .makeFunc f a b=>K (A.yd (f:=f) (mM A e a.toList) (mM A e b.toList))
 | .makeMap t r=>K (A.ye (t:=t) (re A e r))
 | .makeSlice t l c=>K (A.yf (t:=t) (cT A e l) (cT A e c))
 | .slice t x l h m=>K (A.slice (t:=t) (cT A e x) (re A e l) (re A e h) (re A e m))
 | .fieldAddr t x f=>K (A.yg (t:=t) (cT A e x) (f:=f))
 | .field t x f=>K (A.field (t:=t) (cT A e x) (f:=f))
 | .indexAddr t x i=>K (A.yh (t:=t) (cT A e x) (cT A e i))
 | .index t x i=>K (A.index (t:=t) (cT A e x) (cT A e i))
 | .lookup t x i ok=>K (A.lookup (t:=t) (cT A e x) (cT A e i) (ok:=ok))
 | .mapEntry t m k=>K (A.yi (t:=t) (cT A e m) (cT A e k))
 | .range t x=>K (A.range (t:=t) (cT A e x))
 | .entry x=>K (A.entry (cT A e x))
 | .typeAssert x t a ok=>K (A.assert (t:=t) (a:=a) (cT A e x) (ok:=ok))
 | .extract x i=>K (A.extract (cT A e x) (i:=i))
 | .call ⟨.builtin b,args,ats⟩=>E2 A b ats t (mM A e args.toList) K
 | .store t a x=>I (A.store (t:=t) (cT A e a) (cT A e x))
 | .mapUpdate t m k x=>I (A.tY (t:=t) (cT A e m) (cT A e k) (cT A e x))
 | .insert t m k x=>I (A.tY (t:=t) (cT A e m) (cT A e k) (cT A e x))
 | .entryStore t m k x=>I (A.yj (t:=t) (cT A e m) (cT A e k) (cT A e x))
 |_=>A.no
def gP (e:Env) (d:Option Tmp) (x:ei):Env:=
 match d with
 |some t=>(t,x)::e
 |none=>e
def yl (o:U7) (e:Env) (w:x3) (K:Env->(x3->B)->B):B:=
 match o with
 |⟨d,.move x,_,_,_,_⟩=>K (gP e d (mL A e x)) (λ_=>A.ky)
 |⟨d,.assign x,_,_,_,_⟩=>K (gP e d (mL A e x)) (λ_=>A.ky)
 |⟨d,.pick c a b,_,_,_,_⟩=>
  match mL A e c with
  | .b true=>K (gP e d (mL A e a)) (λ_=>A.ky)
  | .b false=>K (gP e d (mL A e b)) (λ_=>A.ky)
  | .v x=>A.split x (K (gP e d (.v (cT A e a))) (λ_=>A.ky)) (K (gP e d (.v (cT A e b))) (λ_=>A.ky))
  | .u=>A.no
 |⟨d,op,t,_,_,_⟩=>yk A e t (λs=>A.tX s w λv=>K (gP e d (.v v)) (A.stays s v)) (λ_=>A.no) op
def E3 (fr:Bool) (n:Nat) (o:U7) (e:Env) (w:x3) (K:Env->x3->B):B:=
 match o with
 |⟨d,.call ⟨.value (.func f),args,_⟩,_,_,_,_⟩=>
  bif fr then A.xR (f:=f) (mM A e args.toList) w λv w'=>K (gP e d (.v v)) w'
  else A.xQ (f:=f) (mM A e args.toList) w λv w'=>K (gP e d (.v v)) w'
 |⟨d,.call ⟨.value x,args,_⟩,_,_,_,_⟩=>A.xS (fr:=fr) (cT A e x) (mM A e args.toList) w λv w'=>K (gP e d (.v v)) w'
 |⟨d,.next x b,_,_,_,_⟩=>A.runN (fr:=fr) (n:=n) (A.next (cT A e x) (b:=b)) w λv w'=>K (gP e d (.v v)) w'
 |⟨d,op,t,_,_,_⟩=>yk A e t (λs=>A.xO s w λv w'=>K (gP e d (.v v)) w') (λu=>A.xP u w λw'=>K (gP e d (.v (A.kx (x:=undef)))) w') op
def ym (fr:Bool) (n:Nat) (o:U7) (e:Env) (w:x3) (K:Env->x3->B):B:=
 bif iH o then yl A o e w (λI _=>K I w) else E3 A fr n o e w K
def ua (ops:List U7) (o:U7) (e:Env) (D N:Env->B):B:=
 match o.guard with
 |none=>D e
 |some (j,b)=>
  match nY ops j with
  |some ⟨σ s,_,_,_,_,_⟩=>
   match look e s with
   |some (.b c)=>bif xor c b then N e else D e
   |some (.v x)=>A.split x (bif b then D ((s,.b true)::e) else N ((s,.b true)::e)) (bif b then N ((s,.b false)::e) else D ((s,.b false)::e))
   |some .u=>N e
   |none=>A.no
  |_=>A.no
def ub (fr:Bool) (n:Nat) (ops:List U7):List U7->Env->x3->(Env->x3->B)->B
 |[],e,w,K=>K e w
 |o::l,e,w,K=>ua A ops o e (λe=>ym A fr n o e w λI w'=>ub fr n ops l I w' K) (λe=>ub fr n ops l (gP e o.dst .u) w K)
def yn:List Edge->Nat->Bool
 |[],_=>true
 |e::r,I=>(bif xJ e then pn I e.on else true)&&yn r I
def rf (I:Nat):Nat->List U7->List Nat
 |_,[]=>[]
 |i,o::l=>bif pn I i then rf I (Nat.succ i) l else bif yn o.after.toList I then i::rf I (Nat.succ i) l else rf I (Nat.succ i) l
def yo (ops:List U7):List Nat->Option Nat
 |[]=>ν
 |i::r=>match nY ops i with
  |some o=>bif iH o then σ i else yo ops r
  |none=>ν
def yp (p:Nat->B):List Nat->B
 |[]=>A.ky
 |[i]=>p i
 |i::r=>A.and (p i) (yp p r)
def yq (same:Bool) (q:Nat) (w:x3) (st:x3->B) (I:List (x3×List (Nat×(x3->B)))):List (x3×List (Nat×(x3->B))):=
 match same,I with
 |true,g::r=>(g.1,(q,st)::g.2)::r
 |_,I=>(w,[(q,st)])::I
def yr (bs:List Nat) (j:Nat):List (Nat×(x3->B))->Bool
 |[]=>false
 |(i,_)::r=>tW bs j i||yr bs j r
def uc (bs:List Nat) (j:Nat) (w':x3):List (Nat×(x3->B))->B
 |[]=>A.ky
 |(i,p)::r=>bif tW bs j i then A.and (p w') (uc bs j w' r) else uc bs j w' r
def rg (bs:List Nat) (j:Nat) (w':x3) (C:B):List (x3×List (Nat×(x3->B)))->B
 |[]=>C
 |(w,l)::r=>bif yr bs j l then A.and (A.or (A.ext w w') (uc A bs j w' l)) (rg bs j w' C r) else rg bs j w' C r
def mN (fr:Bool) (n:Nat) (ops:List U7) (bs:List Nat):Nat->Nat->Bool->List (x3×List (Nat×(x3->B)))->Env->x3->(Env->x3->B)->B
 |0,_,_,_,e,w,K=>K e w
 |fuel+1,J,same,I,e,w,K=>
  match rf J 0 ops with
  |[]=>K e w
  |i::r=>
   match yo ops (i::r) with
   |some q=>
    match nY ops q with
    |some o=>ua A ops o e
      (λe=>yl A o e w λU st=>
       bif k8 o then mN fr n ops bs fuel (jO J q) same I U w K
       else mN fr n ops bs fuel (jO J q) true (yq same q w st I) U w K)
      (λe=>bif k8 o then mN fr n ops bs fuel (jO J q) same I (gP e o.dst .u) w K
       else mN fr n ops bs fuel (jO J q) true (yq same q w (λ_=>A.ky) I) (gP e o.dst .u) w K)
    |none=>A.no
   |none=>
    yp A (λj=>match nY ops j with
     |some o=>ua A ops o e (λe=>ym A fr n o e w λU w'=>rg A bs j w' (mN fr n ops bs fuel (jO J j) false I U w' K) I)
       (λe=>rg A bs j w (mN fr n ops bs fuel (jO J j) false I (gP e o.dst .u) w K) I)
     |none=>A.no) (i::r)
def rh (e:Env):List Nat->List x1
 |[]=>[]
 |t::r=>(match look e t with|some x=>x.g A|none=>A.kx (x:=undef))::rh e r
def ud (l:List Nat) (vs:List x1) (e:Env):Env:=
 match l,vs with
 |t::r,v::vs=>(t,.v v)::ud r vs e
 |_,_=>e
def ri (d:Nat):Env->Env
 |[]=>[]
 |(t,x)::r=>bif pn d t then ri d r else (t,x)::ri d r
def E4 (l:List Nat) (av:List x1->x3->B) (I:(List x1->x3->B)->B):B:=
 match l with
 |[]=>A.db (λw=>av [] w) λk=>I λ_ w=>k w
 |[_]=>A.aR (λa w=>av [a] w) λk=>I λvs w=>match vs with
  |[a]=>k a w
  |_=>A.no
 |[_,_]=>A.iM (λa b w=>av [a,b] w) λk=>I λvs w=>match vs with
  |[a,b]=>k a b w
  |_=>A.no
 |[_,_,_]=>A.xT (λa b c w=>av [a,b,c] w) λk=>I λvs w=>match vs with
  |[a,b,c]=>k a b c w
  |_=>A.no
 |[_,_,_,_]=>A.xU (λa b c d w=>av [a,b,c,d] w) λk=>I λvs w=>match vs with
  |[a,b,c,d]=>k a b c d w
  |_=>A.no
 |[_,_,_,_,_]=>A.xV (λa b c d f w=>av [a,b,c,d,f] w) λk=>I λvs w=>match vs with
  |[a,b,c,d,f]=>k a b c d f w
  |_=>A.no
 |_=>A.no
def E5 (us:List x1) (w:x3) (I:List x1->x3->(List x1->x3->B)->B):B:=
 match us with
 |[]=>A.xW w λw k=>I [] w λ_ w=>k w
 |[a]=>A.xX a w λa w k=>I [a] w λvs w=>match vs with
  |[a]=>k a w
  |_=>A.no
 |[a,b]=>A.xY a b w λa b w k=>I [a,b] w λvs w=>match vs with
  |[a,b]=>k a b w
  |_=>A.no
 |[a,b,c]=>A.xZ a b c w λa b c w k=>I [a,b,c] w λvs w=>match vs with
  |[a,b,c]=>k a b c w
  |_=>A.no
 |[a,b,c,d]=>A.x0 a b c d w λa b c d w k=>I [a,b,c,d] w λvs w=>match vs with
  |[a,b,c,d]=>k a b c d w
  |_=>A.no
 |[a,b,c,d,f]=>A.x2 a b c d f w λa b c d f w k=>I [a,b,c,d,f] w λvs w=>match vs with
  |[a,b,c,d,f]=>k a b c d f w
  |_=>A.no
 |[a,b,c,d,f,g]=>A.x9 a b c d f g w λa b c d f g w k=>I [a,b,c,d,f,g] w λvs w=>match vs with
  |[a,b,c,d,f,g]=>k a b c d f g w
  |_=>A.no
 |_=>A.no
def ue (K:Nat->x3->B):List Nat->List (Nat×(x3->B))
 |[]=>[]
 |i::r=>(i,λw=>K i w)::ue K r
def hl (fr:Bool) (n:Nat):Code->Nat->Env->x3->(Exit->Env->x3->B)->B
 | .skip,_,e,w,K=>K .normal e w
 | .label _,_,e,w,K=>K .normal e w
 | .ret,_,e,w,K=>K .ret e w
 | .exit i,_,e,w,K=>K (.exit i) e w
 | .region _ ops X,_,e,w,K=>
  bif X then A.drew w λw'=>mN A fr n ops.toList (tV ops.toList []) (ops.toList.length) 0 false [] e w' (K .normal)
  else ub A fr n ops.toList ops.toList e w (K .normal)
 | .seq x y,rd,e,w,K=>
  bif Nat.ble 2 (lg x) then
   E4 A (lV 1000 0 (Nat.land (hJ x) (Nat.lor (fK y) rd))) (λvs w'=>hl fr n y rd (ud (lV 1000 0 (Nat.land (hJ x) (Nat.lor (fK y) rd))) vs (ri (hJ x) e)) w' K)
    λav=>hl fr n x (Nat.lor (fK y) rd) e w λex I w'=>match ex with
     | .normal=>av (rh A I (lV 1000 0 (Nat.land (hJ x) (Nat.lor (fK y) rd)))) w'
     |ex=>K ex I w'
  else hl fr n x (Nat.lor (fK y) rd) e w λex I w'=>match ex with
   | .normal=>hl fr n y rd I w' K
   |ex=>K ex I w'
 | .cond c x y,rd,e,w,K=>
  match mL A e c with
  | .b true=>hl fr n x rd e w K
  | .b false=>hl fr n y rd e w K
  | .v v=>A.split v (hl fr n x rd e w K) (hl fr n y rd e w K)
  | .u=>A.no
 | .block id c,rd,e,w,K=>hl fr n c rd e w λex I w'=>match ex with
  | .exit i=>bif T1 i id then K .normal I w' else K (.exit i) I w'
  |ex=>K ex I w'
 | .loop c,rd,e,w,K=>
  E5 A (rh A e (po e (lV 1000 0 (Nat.land (hJ c) (Nat.lor (fK c) rd))))) w λus w' k=>
   hl fr n c (Nat.lor (fK c) rd) (ud (po e (lV 1000 0 (Nat.land (hJ c) (Nat.lor (fK c) rd)))) us (ri (hJ c) e)) w' λex I J=>match ex with
    | .normal=>k (rh A I (po e (lV 1000 0 (Nat.land (hJ c) (Nat.lor (fK c) rd))))) J
    |ex=>K ex I J
 | .scope c,rd,e,w,K=>hl fr n c rd e w K
 | .rangeFunc f Y W body,_,e,w,K=>
  match Y.toList with
  |[p]=>A.ya (cT A e f) w
    (λa w' k=>hl fr n W (fK body) ((p,.v a)::e) w' λex I J=>match ex with
     | .normal=>A.over (n:=w.heap.size) J λU=>hl fr n body 0 I U λex _ V=>k ex V
     |_=>A.no)
    (λw'=>K .normal e w') (bif iK body then λw'=>K .ret e w' else λ_=>A.no) (ue (λi w'=>K (.exit i) e w') (jj body))
  |[p,q]=>A.yb (cT A e f) w
    (λa b w' k=>hl fr n W (fK body) ((q,.v b)::(p,.v a)::e) w' λex I J=>match ex with
     | .normal=>A.over (n:=w.heap.size) J λU=>hl fr n body 0 I U λex _ V=>k ex V
     |_=>A.no)
    (λw'=>K .normal e w') (bif iK body then λw'=>K .ret e w' else λ_=>A.no) (ue (λi w'=>K (.exit i) e w') (jj body))
  |_=>A.no
 | .goto _,_,_,_,_=>A.no
 | .refuse _,_,_,_,_=>A.no
def ys:Nat->List x1->Env
 |_,[]=>[]
 |i,v::r=>(i,.v (A.kx (x:=v)))::ys (i+1) r
def rj (e:Env) (w:x3):List ResultVar->(List x1->B)->B
 |[],K=>K []
 | .tmp t::r,K=>rj e w r λvs=>K ((match look e t with|some x=>x.g A|none=>A.kx (x:=undef))::vs)
 | .cell a t::r,K=>A.tX (A.loadVar (t:=t) (match look e a with|some x=>x.g A|none=>A.kx (x:=undef))) w λv=>rj e w r λvs=>K (v::vs)
def rk (vs:List x1) (K:x1->B):B:=
 match vs with
 |[v]=>K v
 |vs=>K (A.tup vs)
def uf:List ResultVar->Nat->Nat
 |[],s=>s
 | .tmp t::r,s=>uf r (jO s t)
 | .cell a _::r,s=>uf r (jO s a)
def E6 (I:List ResultVar) (marks:Bool) (n:Nat) (Q:x1->x3->B):Exit->Env->x3->B
 | .normal,e,w=>rj A e w I λvs=>bif marks then A.again (n:=n) w λw'=>rk A vs λv=>Q v w' else rk A vs λv=>Q v w
 | .ret,e,w=>rj A e w I λvs=>bif marks then A.again (n:=n) w λw'=>rk A vs λv=>Q v w' else rk A vs λv=>Q v w
 |_,_,_=>A.no
def ug (fr marks:Bool) (fn:Func) (c:Code) (args:List x1) (w:x3) (Q:x1->x3->B):B:=
 hl A fr n c (uf fn.results.toList 0) (ys A 0 args) w (E6 A fn.results.toList marks n Q)
end
def nZ (P:W0):lW Prop (Sem x1) (Sem Unit) where
 kx {x}:=x
 tup l:=.tuple l.toArray
 no:=False
 ky:=True
 and:=And
 or:=Or
 ext:=Ext
 stays:=ct P
 split:=Split
 tX:=U P
 xO:=ax P
 xP u w K:=ax P u w λ_ w'=>K w'
 runN {fr n}:=qR P (fr,n)
 xQ {f}:=aj P f
 xR {f}:=gb P f
 xS {fr}:=qU P fr
 drew:=eh
 again {n}:=tN n
 over {n}:=Over n
 db:=cg
 aR:=cg
 iM:=cg
 xT:=cg
 xU:=cg
 xV:=cg
 xW:=EK
 xX:=ce
 xY:=bU
 xZ:=nR
 x0:=q2
 x2:=nS
 x9:=EL
 ya:=lS P
 yb:=nV P
 loadVar {t} x:=do loadVar t (<-asAddr x)
 alloc {t}:=R2 t true (.tuple #[])
 box {t} x:=Instr.box t x
 build {t} l:=Instr.build t l.toArray
 buildSlice {t n} l:=Z9 t n l.toArray
 load {t} x:=u5 t x
 nil x:=bF x
 bin {op t} a b x y:=aE op t a b x y
 un {op} x:=Op.unary op x
 conv {s d} x:=convert s d x
 yc {t} x:=Instr.makeInterface t x
 yd {f} a b:=Instr.makeFunc f a.toArray b.toArray
 ye {t} x:=Instr.makeMap t x
 yf {t} l c:=Instr.makeSlice t l c
 slice {t} x l h m:=V3 t x l h m
 yg {t} x {f}:=u6 t x f
 field {t} x {f}:=Instr.field t x f
 yh {t} x i:=j5 t x i
 index {t} x i:=Instr.index t x i
 lookup {t} x i {ok}:=Instr.lookup t x i ok
 yi {t} m k:=Instr.mapEntry t m k
 range {t} x:=Instr.range t x
 entry x:=Instr.entry x
 assert {t a} x {ok}:=Instr.typeAssert x t a ok
 extract x {i}:=Z1 x i
 next x {b}:=Instr.next x b 0
 append {ats t} l:=b8 ats t l.toArray
 cap {ats t} l:=Z0.cap_ ats t l.toArray
 clear {ats t} l:=Z0.clear_ ats t l.toArray
 copy {ats t} l:=Z0.copy_ ats t l.toArray
 delete {ats t} l:=Z0.delete_ ats t l.toArray
 len {ats t} l:=W3 ats t l.toArray
 max {ats t} l:=Z0.max_ ats t l.toArray
 min {ats t} l:=Z0.min_ ats t l.toArray
 store {t} a x:=o7 t a x
 tY {t} m k x:=Instr.mapUpdate t m k x
 yj {t} m k x:=Instr.entryStore t m k x
end Go.Vc
namespace Go.Proofs.YtjjhhcfgfdepdaaGreatDoor
open Go Go.Vc Go.RowKit Go.Proofs Go.Proofs.Tryz
set_option maxRecDepth 100000
theorem mixed:x7.follows .mixedOrders=true:=Ψ
def yt:Nat:=3
def yu:Nat:=4
def yv:Nat:=5
def yw:Nat:=8
def yx:Nat:=9
def uh:Nat:=10
def yy:Nat:=11
def ui:Nat:=12
def rl:Nat:=13
def uj:Nat:=14
def uk:Nat:=15
def ul:Nat:=16
def um:Nat:=17
def uo:Nat:=18
def E7:Nat:=19
def E8:Nat:=20
def E9:Nat:=21
def Fa:Nat:=22
def Fb:Nat:=23
def yz:Nat:=27
def Fc:Nat:=28
def Fe:Nat:=30
def Ff:Nat:=31
def Fg:Nat:=32
def Fh:Nat:=33
def Fi:Nat:=34
def Fj:Nat:=35
def Fk:Nat:=36
def yA:Nat:=37
def Fl:Nat:=38
def Fm:Nat:=39
def uq:Nat:=40
def Fo:Nat:=41
def yB:Nat:=42
def Fp:Nat:=43
def Fq:Nat:=44
def Fr:Nat:=45
def yC:Nat:=46
def yD:Nat:=47
def Fs:Nat:=48
def Ft:Nat:=49
def mO:Nat:=50
def mP:Nat:=51
def Fu:Nat:=52
def yE:Nat:=53
def Fv:Nat:=54
def Fw:Nat:=55
def yF:Nat:=56
def yG:Nat:=57
def Fx:Nat:=58
def Fy:Nat:=59
def Fz:Nat:=60
def FA:Nat:=61
def FB:Nat:=62
def FC:Nat:=63
def FD:Nat:=64
def FE:Nat:=65
def ur:Nat:=66
def FF:Nat:=67
def yH:Nat:=69
def FG:Nat:=70
def FH:Nat:=72
def FI:Nat:=74
def FJ:Nat:=75
def FK:Nat:=76
def yI:Nat:=77
def yJ:Nat:=78
def pp:Nat:=79
def mQ:Nat:=80
def kz:Nat:=81
def yK:Nat:=82
def ut:Nat:=83
def mR:Nat:=84
def yL:Nat:=85
def uu:Nat:=86
def FL:Nat:=87
def FM:Nat:=88
def rm:Nat:=89
def li:Nat:=90
def yM:Nat:=91
def mS:Nat:=92
def FN:Nat:=93
def FO:Nat:=94
def FP:Nat:=95
def FQ:Nat:=96
def yN:Nat:=97
def FR:Nat:=98
def FS:Nat:=99
def FT:Nat:=100
def yO:Nat:=101
def yP:Nat:=102
def FU:Nat:=103
def FV:Nat:=104
def FW:Nat:=105
def FX:Nat:=106
def FY:Nat:=107
def FZ:Nat:=108
def F0:Nat:=109
def F3:Nat:=110
def F4:Nat:=111
def F5:Nat:=112
def F6:Nat:=113
def F7:Nat:=114
def F8:Nat:=115
def F9:Nat:=116
def kA:Nat:=117
def Ga:Nat:=118
def Gb:Nat:=119
def rn:Nat:=120
def yQ:Nat:=121
def Gc:Nat:=122
def Gd:Nat:=123
def Ge:Nat:=124
def Gf:Nat:=125
def Gg:Nat:=126
def Gh:Nat:=127
def Gi:Nat:=128
def Gj:Nat:=129
def Gk:Nat:=130
def Gl:Nat:=131
def Gm:Nat:=132
def Gn:Nat:=133
def lj:Nat:=134
def Gp:Nat:=135
def Gq:Nat:=136
def Gr:Nat:=137
def Gs:Nat:=138
def Gt:Nat:=139
def yR:Nat:=140
def Gu:Nat:=141
def Gv:Nat:=142
def Gw:Nat:=143
def Gx:Nat:=144
def Gy:Nat:=145
def n0:Nat:=146
def Gz:Nat:=147
def GA:Nat:=148
def rp:Nat:=149
def GB:Nat:=150
def GC:Nat:=151
def yS:Nat:=152
def yT:Nat:=153
def GD:Nat:=154
def pq:Nat:=155
def GF:Nat:=156
def uv:Nat:=157
def GG:Nat:=158
def GH:Nat:=159
def yU:Nat:=160
def GI:Nat:=161
def GJ:Nat:=162
def GK:Nat:=163
def yV:Nat:=164
def GL:Nat:=165
def GM:Nat:=166
def GN:Nat:=167
def GO:Nat:=168
def yW:Nat:=169
def GP:Nat:=170
def GQ:Nat:=171
def GR:Nat:=172
def GS:Nat:=173
def yX:Nat:=174
def GU:Nat:=175
def GV:Nat:=176
def GW:Nat:=177
def lk:Nat:=178
def ll:Nat:=179
def GX:Nat:=180
def yY:Nat:=181
def GY:Nat:=182
def GZ:Nat:=183
def uw:Nat:=184
def rq:Nat:=185
def ux:Nat:=186
def G0:Nat:=187
def uy:Nat:=188
def G1:Nat:=189
def G2:Nat:=190
def uz:Nat:=191
def G3:Nat:=192
def G4:Nat:=193
def yZ:Nat:=194
def y0:Nat:=195
def y1:Nat:=196
def G5:Nat:=197
def G6:Nat:=198
def G7:Nat:=199
def G8:Nat:=200
def G9:Nat:=201
def Ha:Nat:=202
def Hb:Nat:=203
def Pu:Nat:=204
def Hc:Nat:=206
def cmp_isNaN_int:Nat:=207
def y2:Nat:=208
def uA:Nat:=209
def rr:Nat:=210
def Hd:Nat:=211
def He:Nat:=212
def y3:Nat:=213
def Hf:Nat:=214
def Hg:Nat:=215
def Hh:Nat:=216
def Hi:Nat:=217
def Hj:Nat:=218
def Hk:Nat:=219
def Pv:Nat:=220
def y4:Nat:=221
def Hl:Nat:=222
def Pw:Nat:=223
def Hm:Nat:=224
def Hn:Nat:=225
def n1:Nat:=226
def Ho:Nat:=227
def Hp:Nat:=228
def Hq:Nat:=229
def Hr:Nat:=239
def Hs:Nat:=240
def rt:Nat:=241
def Ht:Nat:=242
def Hu:Nat:=243
def Hv:Nat:=244
def Hw:Nat:=245
def ln:Nat:=246
def Hx:Nat:=247
def Hy:Nat:=248
def Hz:Nat:=249
def Px:Nat:=250
def Py:Nat:=257
def HA:Nat:=258
def HB:Nat:=259
def HC:Nat:=261
def HD:Nat:=262
def HE:Nat:=263
def Pz:Nat:=264
def HF:Nat:=265
def PA:Nat:=266
def PB:Nat:=267
def PC:Nat:=268
def PD:Nat:=269
def PE:Nat:=270
def cmp_Less_int:Nat:=271
def PF:Nat:=272
def PG:Nat:=273
def PH:Nat:=283
def PI:Nat:=284
abbrev HG:Nat:=0
abbrev al:Nat:=2
abbrev ag:Nat:=3
abbrev eW:Nat:=4
abbrev cE:Nat:=5
abbrev cU:Nat:=9
abbrev cH:Nat:=22
abbrev lp:Nat:=23
abbrev dH:Nat:=25
abbrev am:Nat:=26
abbrev cO:Nat:=27
abbrev jP:Nat:=28
abbrev ec:Nat:=29
abbrev e4:Nat:=30
abbrev a6:Nat:=33
abbrev bK:Nat:=37
abbrev gg:Nat:=42
abbrev aq:Nat:=52
abbrev aZ:Nat:=64
abbrev ed:Nat:=66
abbrev uB:Nat:=73
abbrev uC:Nat:=76
abbrev lX:Nat:=79
abbrev cP:Nat:=84
abbrev du:Nat:=86
abbrev fi:Nat:=94
abbrev b1:Nat:=96
abbrev HH:Nat:=103
abbrev pr:Nat:=105
abbrev n2:Nat:=116
abbrev ps:Nat:=118
abbrev e5:Nat:=119
abbrev cB:Nat:=122
abbrev bt:Nat:=124
abbrev ek:Nat:=126
abbrev uD:Nat:=134
abbrev ru:Nat:=141
abbrev eO:Nat:=144
abbrev gQ:Nat:=145
abbrev b4:Nat:=147
abbrev iN:Nat:=153
abbrev ib:Nat:=154
abbrev bW:Nat:=156
abbrev dy:Nat:=162
abbrev cu:Nat:=164
abbrev eG:Nat:=165
abbrev cv:Nat:=167
abbrev e6:Nat:=169
abbrev dn:Nat:=173
abbrev br:Nat:=175
abbrev dv:Nat:=177
abbrev ci:Nat:=179
abbrev dR:Nat:=183
abbrev aY:Nat:=185
abbrev kB:Nat:=190
abbrev fj:Nat:=192
abbrev eH:Nat:=193
abbrev gR:Nat:=197
abbrev ey:Nat:=222
abbrev hK:Nat:=223
abbrev mT:Nat:=224
abbrev rv:Nat:=225
abbrev fk:Nat:=227
abbrev hn:Nat:=233
abbrev jk:Nat:=239
abbrev dS:Nat:=244
abbrev b2:Nat:=248
abbrev fL:Nat:=250
abbrev cQ:Nat:=255
abbrev ic:Nat:=269
abbrev fl:Nat:=271
abbrev n3:Nat:=272
abbrev fM:Nat:=275
abbrev cR:Nat:=278
abbrev fN:Nat:=280
abbrev kC:Nat:=282
abbrev y5:Nat:=288
abbrev n4:Nat:=289
abbrev gx:Nat:=290
abbrev fA:Nat:=293
abbrev cw:Nat:=295
abbrev kD:Nat:=317
abbrev iO:Nat:=319
abbrev rx:Nat:=325
abbrev PJ:Nat:=333
abbrev n5:Nat:=340
abbrev lq:Nat:=341
abbrev lY:Nat:=363
abbrev ry:Nat:=382
theorem aw {f:S6} {fn:Func} {c:Code} {Q:x1->x3->Prop} {Z:{B S aU:Type}->lW B S aU->(x1->x3->B)->B} {I:Prop} (J:x7.funcs[f]? =σ fn) (h:I)
  (U:fn.body=σ c:=by rfl) (_:∀ {B S aU:Type} (A:lW B S aU) (Q:x1->x3->B),ug A false false (n:=w.heap.size) fn c args w Q=Z A Q:=by intros;conv=>lhs;reduce)
  (_:Z (nZ x7) Q=I:=by dsimp only[nZ]) (e:I=ej x7 fn.ntmps (false,w.heap.size) c (lU fn.results.toList) (kw 0 args) w (lf x7 fn.results.toList false 0 Q):=by kernel_rfl)
  (hk:(!(fn.name == "runtime.NumGoroutine")&&wf fn.ntmps c&&Nat.ble args.length fn.ntmps&& !jL c)=true:=by kernel_rfl):aj x7 f args w Q:=by
 simp only[U2,Bool.not_eq_true'] at hk;exact aj.E0 mixed J U hk.1.1.1 hk.1.1.2 hk.1.2 hk.2 (e▸h)
theorem ie {f:S6} {fn:Func} {c:Code} {Q:x1->x3->Prop} {Z:{B S aU:Type}->lW B S aU->(x1->x3->B)->B} {I:Prop} (J:x7.funcs[f]? =σ fn) (h:I)
  (U:fn.body=σ c:=by rfl) (_:∀ {B S aU:Type} (A:lW B S aU) (Q:x1->x3->B),ug A false true (n:=w.heap.size) fn c args w Q=Z A Q:=by intros;conv=>lhs;reduce)
  (_:Z (nZ x7) Q=I:=by dsimp only[nZ]) (e:I=ej x7 fn.ntmps (false,w.heap.size) c (lU fn.results.toList) (kw 0 args) w (lf x7 fn.results.toList true w.heap.size Q):=by kernel_rfl)
  (hk:(!(fn.name == "runtime.NumGoroutine")&&wf fn.ntmps c&&Nat.ble args.length fn.ntmps)=true:=by kernel_rfl):aj x7 f args w Q:=by
 simp only[U2,Bool.not_eq_true'] at hk;exact aj.enter mixed J U hk.1.1 hk.1.2 hk.2 (e▸h)
theorem pt {f:S6} {fn:Func} {c:Code} {Q:x1->x3->Prop} {Z:{B S aU:Type}->lW B S aU->(x1->x3->B)->B} {I:Prop} (J:x7.funcs[f]? =σ fn) (h:I)
  (U:fn.body=σ c:=by rfl) (_:∀ {B S aU:Type} (A:lW B S aU) (Q:x1->x3->B),ug A true false (n:=0) fn c args w Q=Z A Q:=by intros;conv=>lhs;reduce)
  (_:Z (nZ x7) Q=I:=by dsimp only[nZ]) (e:I=ej x7 fn.ntmps (true,0) c (lU fn.results.toList) (kw 0 args) w (lf x7 fn.results.toList false 0 Q):=by kernel_rfl)
  (hk:(!(fn.name == "runtime.NumGoroutine")&&wf fn.ntmps c&&Nat.ble args.length fn.ntmps)=true:=by kernel_rfl):gb x7 f args w Q:=by
 simp only[U2,Bool.not_eq_true'] at hk;exact gb.enter mixed J U hk.1.1 hk.1.2 hk.2 (e▸h)
theorem kA.enters:Enters x7 kA:=Enters.of x7 (show x7.funcs[kA]? =σ Tryz.f117 from Tryz.func117) rfl Ψ
theorem lj.enters:Enters x7 lj:=Enters.of x7 (show x7.funcs[lj]? =σ Tryz.f134 from Tryz.func134) rfl Ψ
theorem lk.enters:Enters x7 lk:=Enters.of x7 (show x7.funcs[lk]? =σ Tryz.f178 from Tryz.func178) rfl Ψ
theorem n1.enters:Enters x7 n1:=Enters.of x7 (show x7.funcs[n1]? =σ Tryz.f226 from Tryz.func226) rfl Ψ
theorem ln.enters:Enters x7 ln:=Enters.of x7 (show x7.funcs[ln]? =σ Tryz.f246 from Tryz.func246) rfl Ψ
end Go.Proofs.YtjjhhcfgfdepdaaGreatDoor
namespace Go.Vc
open Go Go.RowKit
theorem uE {b o:Nat} (h:w.cell? ⟨b,o,ν⟩=σ v):∃c e f,w.heap[b]? =σ (.cells c e f)/\c[o]? =σ v:=by
 simp only[x3.cell?] at h;split at h
 .rename_i c e f I;exact⟨c,e,f,I,by simpa using h⟩
 .cases h
theorem y6 (I:ae S w w') {b o:Nat} (J:¬S b) (h:w.cell? ⟨b,o,ν⟩=σ v):w'.cell? ⟨b,o,ν⟩=σ v:=by
 obtain⟨c,e,f,U,V⟩:=uE h;simp[x3.cell?,I.aX b _ U rfl J,V]
theorem ig (I:Ext w w') {b o:Nat} (h:w.cell? ⟨b,o,ν⟩=σ v):w'.cell? ⟨b,o,ν⟩=σ v:=
 y6 (I.aa λ_=>False) (λh=>h) h
theorem mU (I:Ext w w') {b o:Nat} (h:w.rangeAt b o cs):w'.rangeAt b o cs:=λj v J=>ig I (h j v J)
theorem jQ (I:ae S w w') {b o:Nat} (J:¬S b) (h:w.rangeAt b o cs):w'.rangeAt b o cs:=λj v U=>y6 I J (h j v U)
def ac (w:x3) (g:Nat) (e:r9) (cs:List x1):Prop:=w.heap[g]? =σ (.cells cs.toArray e (0,0))
theorem ac.ext {g:Nat} (h:ac w g e cs) (I:Ext w w'):ac w' g e cs:=I.aX g _ h rfl
theorem ac.aa {g:Nat} (h:ac w g e cs) (I:ae S w w') (J:¬S g):ac w' g e cs:=I.aX g _ h rfl J
theorem ac.lt {g:Nat} (h:ac w g e cs):g<w.heap.size:=(o9.1 h).1
theorem ac.cell {g:Nat} (h:ac w g e cs) {o:Nat} (I:cs[o]? =σ v):w.cell? ⟨g,o,ν⟩=σ v:=by
 unfold ac at h;simp[x3.cell?,h,I]
theorem ac.Qz{w:World}{g:Nat}{e:TypeId}{cs:List Value}{v:Value}(h:ac w g e cs)(I:cs[0]? =σ v):w.cell? ⟨g,0,ν⟩=σ v:=h.cell I
theorem ac.range {g:Nat} (h:ac w g e cs):w.rangeAt g 0 cs:=λj v I=>by rw[X1];exact h.cell I
theorem ac.frozen {g:Nat} (h:ac w g e cs) (o:Nat) (I:Option Nat):w.frozen? ⟨g,o,I⟩=false:=by
 unfold ac at h;simp[x3.frozen?,h]
def b5 (w:x3) (k:Nat) (v:x1) (n:Nat) (cs:List x1):Prop:=
 cs.length=n*k/\ ∃b o base cap,v= .slice base n cap/\n<=cap/\cap<=maxLen/\(0<n->base=σ ⟨b,o,ν⟩)/\w.rangeAt b o cs
theorem b5.ext {k:Nat} (h:b5 w k v n cs) (I:Ext w w'):b5 w' k v n cs:=by
 obtain⟨h1,b,o,base,cap,J,U,V,W,X⟩:=h;exact⟨h1,b,o,base,cap,J,U,V,W,mU I X⟩
theorem b5.le {k:Nat} (h:b5 w k v n cs):n<=maxLen:=by
 obtain⟨_,_,_,_,_,_,I,J,_⟩:=h;exact Y7 I J
theorem b5.nil (w:x3) (k:Nat):b5 w k (.slice ν 0 0) 0 []:=⟨Ξ,0,0,ν,0,rfl,p9 _,X2 _,λh=>absurd h (Nat.lt_irrefl _),λj v h=>by simp at h⟩
def aO (P:W0) (t:r9) (k b:Nat) (z:x1):Prop:=∃i,P.info? t=σ i/\i.size=k/\i.bytes=b/\i.zero=σ z
theorem aO.of {P:W0} {k b:Nat} (h:(P.info? t).map (λi=>(i.size,i.bytes,i.zero))=σ (k,b,σ z)):aO P t k b z:=by
 cases hi:P.info? t with
 |none=>simp[hi] at h
 |some i=>simp[hi] at h;exact⟨i,hi,h⟩
theorem aO.size {P:W0} {k b:Nat} (h:aO P t k b z):(P.info? t).map (·.size)=σ k:=by
 obtain⟨i,hi,I,_⟩:=h;simp[hi,I]
def bG (P:W0) (t:r9) (pl:List (Nat×Nat)):Prop:=∃I,P.underlying t=σ (.struct I)/\I.toList.map (λf=>(f.offset,((P.info? f.type).map (·.size)).getD 0))=pl
def y7 (P:W0) (t:r9):Option (List (Nat×Nat)):=match P.underlying t with
 |some (.struct I)=>σ (I.toList.map λf=>(f.offset,((P.info? f.type).map (·.size)).getD 0))
 |_=>ν
theorem bG.of {P:W0} {pl:List (Nat×Nat)} (h:y7 P t=σ pl):bG P t pl:=by
 unfold y7 at h;split at h
 .rename_i I hu;exact⟨I,hu,by simpa using h⟩
 .cases h
section
variable {P:W0} {w:x3}
theorem U.of {s:Sem x1} (h:∀w',Ext w w'->s.run P w'= .ok v w'):U P s w K=K v:=by
 refine propext ⟨λ⟨I,h',k⟩=>?_,λk=>⟨v,h,k⟩⟩;have:=h' w (Ext.refl w);rw[h w (Ext.refl w)] at this;cases this;exact k
theorem ax.of {α:Type} {s:Sem α} {v:α} {K:α->x3->Prop} (h:s.run P w= .ok v w') (I:cG w w') (k:K v w'):ax P s w K:=⟨v,w',h,I,k⟩
theorem cz {c:Bool} {A B:Prop}:Split (.bool c) A B=((c=true->A)/\(c=false->B)):=by
 refine propext ⟨λ⟨J,h,h1,I⟩=>?_,λ⟨h1,I⟩=>⟨c,rfl,h1,I⟩⟩;cases h;exact⟨h1,I⟩
theorem ai {p:Prop} [Decidable p] {A B:Prop}:Split (.bool (decide p)) A B=((p->A)/\(¬p->B)):=by rw[cz];simp
theorem bA {A B:Prop}:Split (.bool true) A B=A:=by rw[cz];simp
theorem aS {A B:Prop}:Split (.bool false) A B=B:=by rw[cz];simp
theorem aL {b:Int}:U P (aE .add t cx cy (.int k a) (.int k b)) w K=K (.int k (k.wrap (a+b))):=
 U.of λw' _=>by simp[aE,eqGuard,binOp,Op.intArith]
theorem dP {b:Int}:U P (aE .sub t cx cy (.int k a) (.int k b)) w K=K (.int k (k.wrap (a-b))):=
 U.of λw' _=>by simp[aE,eqGuard,binOp,Op.intArith]
theorem gh {b:Int}:U P (aE .mul t cx cy (.int k a) (.int k b)) w K=K (.int k (k.wrap (a*b))):=
 U.of λw' _=>by simp[aE,eqGuard,binOp,Op.intArith]
theorem pu {b:Int} (I:b≠0):U P (aE .quo t cx cy (.int k a) (.int k b)) w K=K (.int k (k.wrap (a.tdiv b))):=
 U.of λw' _=>by simp[aE,eqGuard,binOp,Op.intDiv,I]
theorem n7 {b:Int} (I:b≠0):U P (aE .rem t cx cy (.int k a) (.int k b)) w K=K (.int k (a.tmod b)):=
 U.of λw' _=>by simp[aE,eqGuard,binOp,Op.intDiv,I]
theorem aP {b:Int}:U P (aE .lss t cx cy (.int k a) (.int k b)) w K=K (.bool (decide (a<b))):=
 U.of λw' _=>by simp[aE,eqGuard,binOp,Op.intCmp]
theorem Υ{k:IntKind}{P:Program}{t:TypeId}{cx cy:Bool}{a b:Int}{w:World}{A B:Prop}(hA:a<b->A)(h:a<b:=by omega):U P (aE .lss t cx cy (.int k a) (.int k b)) w λv=>Split v A B:=by
 rw[aP,ai];exact ⟨hA,λe=>absurd h e⟩
theorem lr {b:Int}:U P (aE .leq t cx cy (.int k a) (.int k b)) w K=K (.bool (decide (a<=b))):=
 U.of λw' _=>by simp[aE,eqGuard,binOp,Op.intCmp]
theorem bM {b:Int}:U P (aE .gtr t cx cy (.int k a) (.int k b)) w K=K (.bool (decide (b<a))):=
 U.of λw' _=>by simp[aE,eqGuard,binOp,Op.intCmp]
theorem cK {b:Int}:U P (aE .geq t cx cy (.int k a) (.int k b)) w K=K (.bool (decide (b<=a))):=
 U.of λw' _=>by simp[aE,eqGuard,binOp,Op.intCmp]
theorem be {b:Int}:U P (aE .eql t cx cy (.int k a) (.int k b)) w K=K (.bool (decide (a=b))):=
 U.of λw' _=>by
  have:(a == b)=decide (a=b):=by by_cases h:a=b<;>simp[h]
  simp[aE,eqGuard,binOp,Op.intCmp,this]
theorem bh {b:Int}:U P (aE .neq t cx cy (.int k a) (.int k b)) w K=K (.bool (decide (a≠b))):=
 U.of λw' _=>by
  have:(a != b)=decide (a≠b):=by by_cases h:a=b<;>simp[h,bne]
  simp[aE,eqGuard,binOp,Op.intCmp,this]
theorem y8 {I:o4} {b:Int} (J:0<=b):U P (aE .shl t cx cy (.int k a) (.int I b)) w K=K (.int k (k.wrap (a*2 ^ min b.toNat k.bits))):=
 U.of λw' _=>by simp[aE,eqGuard,binOp,Op.shift,show ¬b<0 by omega]
theorem bu {c:Bool}:U P (Op.unary .not (.bool c)) w K=K (.bool !c):=U.of λw' _=>by simp[Op.unary]
theorem lu:U P (Op.unary .neg (.int k a)) w K=K (.int k (k.wrap (0-a))):=U.of λw' _=>by simp[Op.unary,Op.intArith]
theorem e7 {s d:r9} (I:P.underlying s=σ (.int J)) (V:P.underlying d=σ (.int k)):
  U P (convert s d (.int J a)) w K=K (.int k (k.wrap a)):=U.of λw' _=>by simp[convert,run_underlying I,run_underlying V,Conv.intToInt]
theorem y9 {x y:x1} {r:Bool} (I:∀w',(eqGuard .eql t (aW cx) (aW cy) x y).run P w'= .ok () w')
  (J:binOp .eql t x y=(do pure (.bool (<-Op.equal t x y)))) (h:∀w',Ext w w'->(Op.equal t x y).run P w'= .ok r w'):U P (aE .eql t cx cy x y) w K=K (.bool r):=U.of λw' V=>by
 unfold aE;rw[J,X8,I w',Result.andThen_ok,X8,h w' V];rfl
theorem za {x y:x1} {r:Bool} (I:∀w',(eqGuard .neq t (aW cx) (aW cy) x y).run P w'= .ok () w')
  (J:binOp .neq t x y=(do pure (.bool (!(<-Op.equal t x y))))) (h:∀w',Ext w w'->(Op.equal t x y).run P w'= .ok r w'):U P (aE .neq t cx cy x y) w K=K (.bool !r):=U.of λw' V=>by
 unfold aE;rw[J,X8,I w',Result.andThen_ok,X8,h w' V];rfl
theorem zb (w:x3) (d:Nat) {p:Option Addr} (h:P.underlying t=σ (.pointer e)):(Op.equalIn (d+1) t (.pointer p) (.pointer ν)).run P w= .ok p.isNone w:=by
 cases p<;>simp[Op.equalIn,run_underlying h]
theorem rz {base:Option Addr} {c:Nat} (I:P.underlying t=σ (.slice e)):
  U P (aE .eql t cx cy (.slice base n c) (.slice ν 0 0)) w K=K (.bool base.isNone):=y9 (λ_=>rfl) rfl λw' _=>run_equal_slice_nil w' t e base n c I
theorem cV {p:Option Addr} (I:P.underlying t=σ (.pointer e)):
  U P (aE .eql t cx cy (.pointer p) (.pointer ν)) w K=K (.bool p.isNone):=y9 (λ_=>rfl) rfl λw' _=>zb w' 9999 I
theorem zc {p:Option Addr} (I:P.underlying t=σ (.pointer e)):
  U P (aE .neq t cx cy (.pointer p) (.pointer ν)) w K=K (.bool !p.isNone):=za (λ_=>rfl) rfl λw' _=>zb w' 9999 I
theorem hL {I:r9} {base:Option Addr} {c:Nat} (J:P.underlying t=σ (.slice e)):
  U P (W3 #[t] I #[.slice base n c]) w K=K (Δ n):=U.of λw' _=>by simp[W3,run_underlying J,goInt]
theorem kE {I:Array r9} {J:r9} {b:Int}:
  U P (Z0.min_ I J #[.int k a,.int k b]) w K=K (.int k (min a b)):=U.of λw' _=>by
 simp only[Z0.min_,List.foldlM,Z0.min2];simp only[X8,W8,Result.andThen_ok,Int.min_def];congr 2;split<;>split<;>omega
theorem uF {I:Array r9} {J:r9} {b:Int}:
  U P (Z0.max_ I J #[.int k a,.int k b]) w K=K (.int k (max a b)):=U.of λw' _=>by
 simp only[Z0.max_,List.foldlM,Z0.max2];simp only[X8,W8,Result.andThen_ok,Int.max_def];congr 2;split<;>split<;>omega
theorem ih {vs:Array x1} {i:Nat} (h:vs[i]? =σ v):U P (Z1 (.tuple vs) i) w K=K v:=U.of λw' _=>by simp[Z1,h]
theorem lZ {f:Fn} {a b:Array x1}:U P (Instr.makeFunc f a b) w K=K (.func f a b):=U.of λ_ _=>rfl
def jl (P:W0) (t:r9):Bool:=match P.underlying t with
 |some (.struct _)|some (.array _ _)|none=>false
 |_=>true
theorem aA {b o:Nat} (I:jl P t=true) (h:w.cell? ⟨b,o,ν⟩=σ v):
  U P (u5 t (.pointer (σ ⟨b,o,ν⟩))) w K=K v:=U.of λw' J=>by
 have h':=ig J h;unfold jl at I;cases hu:P.underlying t with
 |none=>rw[hu] at I;cases I
 |some d=>
  rw[hu] at I;cases d<;>first|(cases I;done)|simp[u5,Instr.sureAddr,loadVar,isAgg,run_underlying hu,h']
theorem zd {d:TypeDesc} {b o k:Nat} (hu:P.underlying t=σ d) (J:d.isRow=true) (hi:aO P t k I z) (V:cs.length=k)
  (h:w.rangeAt b o cs):U P (u5 t (.pointer (σ ⟨b,o,ν⟩))) w K=K (.agg cs.toArray):=U.of λw' W=>
 run_loadAt_mid (P:=P) w' b o t cs d (mU W h) hu J (by rw[hi.size,V])
theorem bI {pl:List (Nat×Nat)} {b o k:Nat} (hu:bG P t pl) (hi:aO P t k I z) (J:cs.length=k)
  (h:w.rangeAt b o cs):U P (u5 t (.pointer (σ ⟨b,o,ν⟩))) w K=K (.agg cs.toArray):=by
 obtain⟨V,hu,_⟩:=hu;exact zd hu rfl hi J h
theorem aT {pl:List (Nat×Nat)} {i b o off z:Nat} (Y:bG P t pl) (J:pl[i]? =σ (off,z+1)):
  U P (u6 t (.pointer (σ ⟨b,o,ν⟩)) i) w K=K (.pointer (σ ⟨b,o+off,ν⟩)):=U.of λw' _=>by
 obtain⟨aa,hu,rfl⟩:=Y;rw[x8] at J;cases V:aa[i]? with
 |none=>rw[T8,V] at J;cases J
 |some f=>
  rw[T8,V] at J;simp only[Z2,Y6,T4] at J;obtain⟨rfl,X⟩:=J;cases W:P.info? f.type with
  |none=>simp[W] at X
  |some j=>
   have I:j.size=z+1:=by simpa[W] using X
   simp[u6,run_underlying hu,V,Instr.sureAddr,fieldPlace,sizeOf,typeInfo,W,I,T2]
theorem ze {i:Int} {b o c z V:Nat} {W:x1} {base:Option Addr} (hu:P.underlying t=σ (.slice e)) (X:aO P e z V W)
  (Y:0<=i) (hi:i<n) (J:0<n->base=σ ⟨b,o,ν⟩):
  U P (j5 t (.slice base n c) (.int k i)) w K=K (.pointer (σ ⟨b,o+i.toNat*z,ν⟩)):=U.of λw' _=>by
 have J:=J Ω;subst J;obtain⟨j,aa,I,_⟩:=X;simp[j5,asIntOf,run_underlying hu,Y,hi,sizeOf,typeInfo,aa,I,T2]
theorem fm {i:Nat} {b o c z:Nat} {J:x1} {base:Option Addr} (hu:P.underlying t=σ (.slice e)) (V:aO P e z I J)
  (hi:i<n) (W:0<n->base=σ ⟨b,o,ν⟩):
  U P (j5 t (.slice base n c) (.int k (i:Int))) w K=K (.pointer (σ ⟨b,o+i*z,ν⟩)):=by
 rw[ze (i:=(i:Int)) hu V Ω Ω W];rfl
theorem HI {i:Int} {b o z J:Nat} {V:x1} (hu:P.underlying t=σ (.array n e)) (W:aO P e z J V)
  (X:0<=i) (hi:i<n):
  U P (j5 t (.pointer (σ ⟨b,o,ν⟩)) (.int k i)) w K=K (.pointer (σ ⟨b,o+i.toNat*z,ν⟩)):=U.of λw' _=>by
 obtain⟨j,Y,I,_⟩:=W;simp[j5,asIntOf,run_underlying hu,Instr.sureAddr,X,hi,sizeOf,typeInfo,Y,I,T2]
theorem uG {i:Nat} {b o z:Nat} {J:x1} (hu:P.underlying t=σ (.array n e)) (V:aO P e z I J) (hi:i<n):
  U P (j5 t (.pointer (σ ⟨b,o,ν⟩)) (.int k (i:Int))) w K=K (.pointer (σ ⟨b,o+i*z,ν⟩)):=by
 rw[HI (i:=(i:Int)) hu V Ω Ω];rfl
def lv:Option x1->Nat->Prop
 |none,l=>l=0
 |some v,l=>∃k,v= .int k l
def lx:Option x1->Nat->Nat->Prop
 |none,n,h=>h=n
 |some v,_,h=>∃k,v= .int k h
def maxOf:Option x1->Option x1->Nat->Nat->Prop
 |none,_,c,m=>m=c
 |some v,σ _,_,m=>∃k,v= .int k m
 |some _,ν,_,_=>False
theorem rA {l:Nat}:lv (σ (.int k (l:Int))) l:=⟨_,rfl⟩
theorem mV (l:Nat) (x:Int) (h:x=(l:Int)):lv (σ (.int k x)) l:=⟨k,by rw[h]⟩
theorem mW (l:Nat) (x:Int) (h:x=(l:Int)):lx (σ (.int k x)) n l:=⟨k,by rw[h]⟩
theorem jR:lv ν 0:=rfl
theorem rB:lx (σ (.int k (h:Int))) n h:=⟨_,rfl⟩
theorem jS:lx ν n n:=rfl
theorem fO {h:Option x1} {c:Nat}:maxOf ν h c c:=by cases h<;>rfl
theorem rC (w:x3) {sl:Bool} {c l:Nat} {low high mx:Option x1} (h1:lv low l) (J:lx high n h) (I:maxOf mx high c m) (U:l<=h) (aC:h<=m) (hm:m<=c):
  (Instr.sliceBounds sl n c low high mx).run P w= .ok (l,h,m) w:=by
 cases low<;>cases high<;>cases mx<;>simp only[lv,lx,maxOf] at h1 J I<;>(try exact I.elim)<;>(try obtain⟨V,rfl⟩:=h1)<;>(try obtain⟨W,rfl⟩:=J)<;>(try obtain⟨X,rfl⟩:=I)<;>(try subst h1)<;>(try subst J)<;>(try subst I) <;>
  simp[Instr.sliceBounds,Instr.sliceBound,asIntOf,U,aC,hm]
theorem ii {c z J l:Nat} {V:x1} {base:Option Addr} {low high mx:Option x1} (hu:P.underlying t=σ (.slice e)) (W:aO P e z J V)
  (h1:lv low l) (X:lx high n h) (Y:maxOf mx high c m) (aa:l<=h) (aC:h<=m) (hm:m<=c):
  U P (V3 t (.slice base n c) low high mx) w K=K (.slice (if m=l then base else base.map (·.add (l*z))) (h-l) (m-l)):=U.of λw' _=>by
 obtain⟨j,ab,I,_⟩:=W;simp[V3,Instr.slice,run_underlying hu,rC w' h1 X Y aa aC hm,sizeOf,typeInfo,ab,I]
theorem rD {z J l b o:Nat} {V:x1} {low high mx:Option x1} (hu:P.underlying t=σ (.array n e)) (W:aO P e z J V)
  (h1:lv low l) (X:lx high n h) (Y:maxOf mx high n m) (aa:l<=h) (aC:h<=m) (hm:m<=n):
  U P (V3 t (.pointer (σ ⟨b,o,ν⟩)) low high mx) w K=K (.slice (σ (if m=l then⟨b,o,ν⟩ else⟨b,o+l*z,ν⟩)) (h-l) (m-l)):=U.of λw' _=>by
 obtain⟨j,ab,I,_⟩:=W;simp[V3,Instr.sureAddr,run_underlying hu,rC w' h1 X Y aa aC hm,sizeOf,typeInfo,ab,I,T2]
theorem dc {parts:Array (Nat×x1)} {cs:Array x1} (h:P.built t parts.toList=σ cs):U P (Instr.build t parts) w K=K (.agg cs):=U.of λw' _=>
 run_build (P:=P) w' t parts cs h
end
theorem b5.part {k c l:Nat} {base:Option Addr} (I:b5 w k (.slice base n c) n cs) (X:l<=h) (aC:h<=n) (hm:h<=m) (Y:m<=c):
  b5 w k (.slice (if m=l then base else base.map (·.add (l*k))) (h-l) (m-l)) (h-l) ((cs.drop (l*k)).take ((h-l)*k)):=by
 obtain⟨h1,b,o,aa,cap,he,ab,ac,U,V⟩:=I;cases he;have ad:h*k<=n*k:=X5 _ aC;have ae:l*k+(h-l)*k=h*k:=by rw[<-V8];congr 1;omega
 refine⟨by simp[h1];omega,b,o+l*k,_,m-l,rfl,Ω,Ω,λaf=>?_,λj v J=>?_⟩
 .rw[U Ω,if_neg Ω];simp[T2]
 .have W:=(x4.1 J).1;simp at W;rw[Y3 Ω,List.getElem?_drop] at J;rw[S2];exact V _ _ J
section
variable {P:W0} {w:x3}
structure iP (g:Nat) (w w':x3):Prop where
 os:w'.os=w.os
 tape:jg w w'
 output:w'.output=w.output
 size:w'.heap.size=w.heap.size
 aX:∀r,r≠g->w'.heap[r]? =w.heap[r]?
theorem iP.refl (g:Nat) (w:x3):iP g w w:=⟨rfl,.jI,rfl,rfl,λ_ _=>rfl⟩
theorem iP.trans {g:Nat} {a b:x3} (h:iP g a b) (k:iP g b c):iP g a c:=
 ⟨k.os.trans h.os,k.tape.trans h.tape,k.output.trans h.output,k.size.trans h.size,λr I=>(k.aX r I).trans (h.aX r I)⟩
theorem iP.aa {g:Nat} (h:iP g w w'):ae (λr=>r=g) w w':=⟨Nat.le_of_eq h.size.symm,λr o I _ J=>by rw[h.aX r J];exact I⟩
theorem iP.ck {g:Nat} (h:iP g w w') (U:ac w g e cs):cG w w':=
 ⟨h.os,h.tape,h.output,Nat.le_of_eq h.size.symm,λr o J I=>by
  by_cases V:r=g
  .subst V;unfold ac at U;rw[U] at J;cases J;simp[ff] at I
  .rw[h.aX r V];exact J⟩
theorem zf {g:Nat} (h:ac w g e cs) (o:Nat) (v:x1):ac (w.setCell ⟨g,o,ν⟩ v) g e (cs.set o v)/\iP g w (w.setCell ⟨g,o,ν⟩ v):=by
 unfold ac at h;refine⟨?_,rfl,.jI,rfl,by simp[x3.setCell],λr I=>?_⟩
 .simp[ac,x3.setCell,Array.getElem?_modify,h]
 .simp[x3.setCell,Array.getElem?_modify,Ne.symm I]
def over (cs:List x1):Nat->List x1->List x1
 |_,[]=>cs
 |o,v::r=>over (cs.set o v) (o+1) r
theorem l0:∀ (vs cs:List x1) (o:Nat),(over cs o vs).length=cs.length
 |[],_,_=>rfl
 |v::r,cs,o=>by simp[over,l0 r]
theorem n8:∀ (vs cs:List x1) (o:Nat),o+vs.length<=cs.length-> ∀j,(over cs o vs)[j]? =if o<=j/\j<o+vs.length then vs[j-o]? else cs[j]?
 |[],cs,o,_,j=>by simp[over];intro h1 I;omega
 |v::r,cs,o,h,j=>by
  simp only[b9] at h;rw[over,n8 r (cs.set o v) (o+1) Θ j];simp only[b9];by_cases h1:o+1<=j/\j<o+1+r.length
  .rw[if_pos h1,if_pos Ω];rw[show j-o=(j-(o+1))+1 by omega,List.getElem?_cons_succ]
  .rw[if_neg h1];by_cases I:j=o
   .subst I;rw[if_pos Ω,c7 Ω];simp
   .rw[if_neg Ω,Y5 (Ne.symm I)]
theorem l1 {o:Nat} (h:o+vs.length<=cs.length):over cs o vs=cs.take o++vs++cs.drop (o+vs.length):=by
 apply Y8;intro j;rw[n8 vs cs o h];by_cases h1:j<o
 .rw[if_neg Ω,Y0 Θ,Y0 Θ,Y3 h1]
 .by_cases I:j<o+vs.length
  .rw[if_pos Ω,Y0 Θ,Y1 Θ];congr 1;simp;omega
  .rw[if_neg Ω,Y1 Θ,List.getElem?_drop];congr 1;simp;omega
theorem mX {g:Nat} {e:r9}:∀ (vs:List x1) (cs:List x1) (o:Nat) (w:x3),ac w g e cs->ac (w.setCells g o vs) g e (over cs o vs)/\iP g w (w.setCells g o vs)
 |[],cs,o,w,h=>⟨h,iP.refl _ _⟩
 |v::r,cs,o,w,h=>by
  obtain⟨h1,I⟩:=zf h o v;obtain⟨J,U⟩:=mX r (cs.set o v) (o+1) _ h1;exact⟨J,I.trans U⟩
theorem rE (w:x3) (c:List x1) (e:r9):ac (w.alloc (.cells c.toArray e)) w.heap.size e c/\Ext w (w.alloc (.cells c.toArray e))/\cG w (w.alloc (.cells c.toArray e)):=
 ⟨heap_alloc_new w _,pb w _,pc w _⟩
theorem bN {k:Nat} {K:x1->x3->Prop} (hi:aO P t k I z)
  (h:∀g w',g=w.heap.size->Ext w w'->ac w' g t z.cells.toList->K (Γ g) w'):ax P (R2 t true (.tuple #[])) w K:=by
 obtain⟨i,hi,_,_,J⟩:=hi;obtain⟨h1,U,V⟩:=rE w z.cells.toList t;refine .of ?_ V (h _ _ rfl U h1);simp[R2,zeroValue,typeInfo,hi,J,newVar,newRow]
theorem bm {K:x1->x3->Prop}
  (h:∀g w',g=w.heap.size->Ext w w'->ac w' g t v.cells.toList->K (Γ g) w'):ax P (Instr.box t v) w K:=by
 obtain⟨h1,I,J⟩:=rE w v.cells.toList t;refine .of ?_ J (h _ _ rfl I h1);simp[Instr.box,newVar,newRow]
def dI (z:Array x1) (n:Nat):List x1:=((Array.range n).map (z[·% z.size]!)).toList
theorem oa (z:Array x1) (n:Nat):(dI z n).length=n:=by simp[dI]
theorem jT {k V:Nat} {parts:Array (Nat×x1)} {cs:Array x1} {K:x1->x3->Prop} (U:P.underlying t=σ (.slice e)) (hi:aO P e k V z)
  (ab:n*k<=2 ^ 24) (I:Instr.fill (λj=>σ (j*k,k)) ((Array.range (n*k)).map ((if n*k=0 then #[] else z.cells)[·% (if n*k=0 then #[] else z.cells).size]!)) parts.toList=σ cs)
  (h:∀g w',g=w.heap.size->Ext w w'->ac w' g e cs.toList->K (.slice (σ ⟨g,0,ν⟩) n n) w'):ax P (Z9 t n parts) w K:=by
 obtain⟨i,hi,rfl,_,W⟩:=hi;obtain⟨h1,X,Y⟩:=rE w cs.toList e;refine .of ?_ Y (h _ _ rfl X h1);have aa:¬(16777216<n*i.size):=Ω
 by_cases J:n*i.size=0
 .simp only[J,if_true] at I;simp[Z9,run_underlying U,sizeOf,typeInfo,hi,J,newRow];simp at I;simp[I]
 .simp only[J,if_false] at I;simp[Z9,run_underlying U,sizeOf,typeInfo,hi,aa,J,newRow,zeroValue,W,I]
theorem bz {V g o:Nat} {K:Unit->x3->Prop} (hi:aO P t 1 V z) (h1:v.cells= #[v]) (W:v.oneCell'=true) (J:ac w g e cs) (X:o<cs.length)
  (h:∀w',ae (λr=>r=g) w w'->w'.heap.size=w.heap.size->ac w' g e (cs.set o v)->K () w'):ax P (o7 t (.pointer (σ ⟨g,o,ν⟩)) v) w K:=by
 obtain⟨i,hi,I,_⟩:=hi;obtain⟨Y,U⟩:=zf J o v;refine .of (w':=w.setCell ⟨g,o,ν⟩ v) ?_ (U.ck J) (h _ U.aa U.size Y);have ab:=J.cell (x6 X);have ad:(⟨g,o,ν⟩:Addr).add 0=⟨g,o,ν⟩:=rfl;simp[o7,Instr.sureAddr,storeVar,sizeOf,typeInfo,hi,I,h1,storeCells,ad,run_store P w _ v _ W,ab,J.frozen]
theorem zg {k U g o:Nat} {K:Unit->x3->Prop} (hi:aO P t k U z) (V:vs.length=k) (W:∀v∈vs,v.oneCell'=true) (I:ac w g e cs) (ab:o+vs.length<=cs.length)
  (h:∀w',ae (λr=>r=g) w w'->w'.heap.size=w.heap.size->ac w' g e (over cs o vs)->K () w'):ax P (o7 t (.pointer (σ ⟨g,o,ν⟩)) (.agg vs.toArray)) w K:=by
 obtain⟨X,J⟩:=mX vs cs o w I;refine .of (w':=w.setCells g o vs) ?_ (J.ck I) (h _ J.aa J.size X);exact run_storeAt_mid (P:=P) w g o t vs.toArray (λj Y=>⟨by rw[I.cell (x6 (show o+j<cs.length by simp at Y;omega))];rfl,I.frozen _ _⟩) (by rw[hi.size];simp[V]) (by simpa using W)
def bT (w:x3) (g:Nat) (e:r9) (k:Nat) (v:x1) (n:Nat) (xs:List x1):Prop:=
 xs.length=n*k/\((v= .slice ν 0 0/\n=0)\/ ∃cap cs,v= .slice (σ ⟨g,0,ν⟩) n cap/\ac w g e cs/\n<=cap/\cap<=maxLen/\cs.length=cap*k/\cs.take (n*k)=xs)
theorem bT.nil (w:x3) (g:Nat) (e:r9) (k:Nat):bT w g e k (.slice ν 0 0) 0 []:=⟨Ξ,.inl ⟨rfl,rfl⟩⟩
theorem bT.full {g:Nat} {k:Nat} (h:ac w g e cs) (I:cs.length=n*k) (J:n<=maxLen):bT w g e k (.slice (σ ⟨g,0,ν⟩) n n) n cs:=
 ⟨I,.inr ⟨n,cs,rfl,h,p9 _,J,I,by rw[<-I,o6]⟩⟩
theorem bT.aa {g:Nat} {k:Nat} (h:bT w g e k v n xs) (J:ae S w w') (U:g<w.heap.size->¬S g):bT w' g e k v n xs:=
 ⟨h.1,h.2.imp id λ⟨cap,cs,h1,I,V⟩=>⟨cap,cs,h1,I.aa J (U I.lt),V⟩⟩
theorem bT.ext {g:Nat} {k:Nat} (h:bT w g e k v n xs) (I:Ext w w'):bT w' g e k v n xs:=h.aa (I.aa λ_=>False) (λ_ h=>h)
theorem bT.sl {g:Nat} {k:Nat} (h:bT w g e k v n xs):b5 w k v n xs:=by
 obtain⟨h1,⟨rfl,rfl⟩|⟨cap,cs,rfl,J,U,V,X,W⟩⟩:=h
 .have:xs=[]:=j9 (by simpa using h1);subst this;exact b5.nil w k
 .refine⟨h1,g,0,_,cap,rfl,U,V,λ_=>rfl,λj v I=>?_⟩;rw[X1];have Y:=(x4.1 I).1;rw[<-W,Y3 Ω] at I;exact J.cell I
theorem b5.src {k:Nat} {x:x1} {J:List x1} {W:r9} (I:b5 w k x m J) (hk:P.underlying V=σ (.slice W)) (h1:∀u∈J,u.oneCell'=true) (X:0<m):Src P k V x m J w:=by
 obtain⟨Y,b,o,base,cap,rfl,_,_,U,aa⟩:=I;have U:=U X;subst U;exact Src.ofSlice w hk ⟨b,o,ν⟩ m cap J Y (λj u hu=>by rw[T2];exact aa j u hu) h1
theorem b5.HJ {k:Nat} {x:x1} {U:List x1} {J:r9} (I:b5 w k x 0 U) (hk:P.underlying J=σ (.slice V)):Src P k J x 0 [] w:=by
 obtain⟨W,b,o,base,cap,rfl,_,_,X,Y⟩:=I;cases base with
 |none=>exact Src.ofNil w hk cap
 |some a=>exact Src.ofSlice w hk a 0 cap [] Ξ Ξ Ξ
theorem zh {X al ay:r9} {k am g:Nat} {x:x1} {J:List x1} {K:x1->x3->Prop}
  (ac:P.underlying t=σ (.slice e)) (ad:P.underlying V=σ (.slice ay)) (hi:aO P e k am z) (az:z.cells.size=k)
  (an:bT w g al k v n xs) (I:b5 w k x m J) (h1:∀u∈J,u.oneCell'=true) (aA:(n+m)*am<=140737488355328) (ao:n+m<=maxLen)
  (h:∀af ag w' ah,(ag=g/\ah=al/\(v=af\/g<w.heap.size/\v≠ .slice ν 0 0)\/ag=w.heap.size/\ah=e)->bT w' ag ah k af (n+m) (xs++J)->ae (λr=>r=g/\v≠ .slice ν 0 0) w w'->K af w'):
  ax P (b8 #[t,V] X #[v,x]) w K:=by
 obtain⟨i,hi,rfl,rfl,aB⟩:=hi;have aC:=an.sl;obtain⟨U,ai⟩:=an;have W:=I.1;have grow:∀ (base:Option Addr) (cap:Nat),v= .slice base n cap->cap<n+m->0<m->(Z0.firstCells i.size n (.slice base n cap)).run P w.drew= .ok xs.toArray w.drew->ax P (b8 #[t,V] X #[v,x]) w K:=by
  rintro base cap rfl ap hm aD;have Y:=run_append_grow_src (P:=P) w t V X e i z ac hi aB base n cap xs aD x m J (I.src ad h1 hm) ap (by simp only[maxLen] at ao;omega) (growslice_fits ap aA);have aE:n+m<=grownCap w (n+m) cap e:=grownCap_ge w _ _ _;have aj:grownCap w (n+m) cap e<=maxLen:=grownCap_le_maxLen w (n+m) cap e ao;have aF:Ext w (w.drew.alloc (.cells ((xs++J).toArray++Z0.zeroCells z.cells (grownCap w (n+m) cap e-(n+m))) e)):=(qQ w _).trans (pb _ _);refine .of Y ((pa w _ (Nat.le_succ _)).trans (pc _ _)) (h _ w.heap.size _ _ (.inr ⟨rfl,rfl⟩) ⟨by simp[U,W,V8],.inr ⟨_,((xs++J).toArray++Z0.zeroCells z.cells (grownCap w (n+m) cap e-(n+m))).toList,rfl,?_,aE,aj,?_,?_⟩⟩ (aF.aa _))
  .show _=_;rw[Array.toArray_toList];exact heap_alloc_new w.drew _
  .simp[U,W,size_zeroCells,az,<-V8];congr 1;omega
  .rw[Array.toList_append,List.toList_toArray,V8,<-U,<-W,<-o5];exact List.take_left
 rcases R4 m with rfl|hm
 .have aG:J=[]:=j9 (by simpa using W);subst aG;have aH:=I.HJ ad;have aq:∀base cap,v= .slice base n cap->n<=cap->ax P (b8 #[t,V] X #[v,x]) w K:=by
   rintro base cap rfl aj;refine .of (run_append_nothing (P:=P) w t V X e i ac hi base n cap aj x aH) (cG.refl _) (h _ g _ _ (.inl ⟨rfl,rfl,.inl rfl⟩) ?_ (ae.refl _ _));rw[Nat.add_zero,U5];exact⟨U,ai⟩
  obtain⟨rfl,rfl⟩|⟨cap,cs,rfl,_,au,_⟩:=ai
  .exact aq _ _ rfl (p9 _)
  .exact aq _ _ rfl au
 .obtain⟨rfl,rfl⟩|⟨cap,cs,rfl,ab,au,aI,av,aJ⟩:=ai
  .have aK:xs=[]:=j9 (by simpa using U);subst aK;exact grow ν 0 rfl Ω hm (run_firstCells_none w.drew i.size 0 0 0)
  .by_cases ak:n+m<=cap
   .have aL:n*i.size+J.length<=cs.length:=by rw[W,av,<-V8];exact X5 _ ak
    have Y:=run_append_room_src (P:=P) w t V X e i ac hi g 0 n cap x m J (I.src ad h1 hm) ak
     (λj aR=>by rw[ab.cell (x6 (show 0+n*i.size+j<cs.length by omega))];rfl) (λj _=>ab.frozen _ _)
    obtain⟨aM,aw⟩:=mX J cs (n*i.size) w ab;rw[X1] at Y;refine .of Y (aw.ck ab) (h _ g _ _ (.inl ⟨rfl,rfl,.inr ⟨ab.lt,Ξ⟩⟩) ⟨by simp[U,W,V8],.inr ⟨cap,_,rfl,aM,ak,aI,by rw[l0,av],?_⟩⟩ (aw.aa.mono λr _ h=>⟨h,Ξ⟩));rw[l1 aL,aJ,V8,<-U,<-W,<-o5];exact List.take_left
   .refine grow _ cap rfl Ω hm (run_firstCells_some w.drew i.size n _ n cap xs U λj u hu=>?_);rw[T2];obtain⟨_,b,o,base,aS,he,_,_,aN,Y⟩:=aC;cases he;have aP:0<n:=by
     rcases R4 n with rfl|aQ
     .simp at U;subst U;simp at hu
     .exact aQ
    have:=aN aP;cases this;simpa using Y j u hu
theorem mY {W aa ab:r9} {k g:Nat} {x:x1} {V:List x1} {K:x1->x3->Prop}
  (ac:P.underlying t=σ (.slice e)) (ad:P.underlying W=σ (.slice ab)) (hi:aO P e k X z) (af:z.cells.size=k)
  (ag:bT w g e k v n xs) (I:b5 w k x m V) (h1:∀u∈V,u.oneCell'=true) (ah:(n+m)*X<=140737488355328) (ai:n+m<=maxLen)
  (h:∀U J w',(J=g\/w.heap.size<=J)->bT w' J e k U (n+m) (xs++V)->ae (λr=>r=g) w w'->K U w'):
  ax P (b8 #[t,W] aa #[v,x]) w K:=
 zh ac ad hi af ag I h1 ah ai λU J w' ak Y hm aj=>by
  refine h U J w' (Y.imp And.left λh=>Nat.le_of_eq h.1.symm) ?_ (aj.mono λr _ h=>h.1);obtain⟨_,rfl,_⟩|⟨_,rfl⟩:=Y<;>exact hm
theorem zi {U W X:r9} {ak g o gS Y:Nat} {x:x1} {base:Option Addr} {af:r9} {K:x1->x3->Prop} (ag:P.underlying U=σ (.slice e)) (hi:aO P e 1 ak z)
  (J:ac w g af cs) (al:0<gS->base=σ ⟨g,o,ν⟩) (ay:o+gS<=cs.length) (I:b5 w 1 x n xs) (h1:∀u∈xs,u.oneCell'=true)
  (h:∀w',ae (λr=>r=g) w w'->w'.heap.size=w.heap.size->ac w' g af (over cs o (xs.take gS))->K (Δ (min n gS:Nat)) w'):
  ax P (Z0.copy_ #[U,W] X #[.slice base gS Y,x]) w K:=by
 obtain⟨ab,b,o',am,cap,rfl,_,_,an,ao⟩:=I;simp only[U6] at ab;have ah:(P.info? e).map (·.size)=σ 1:=hi.size;by_cases V:Nat.min n gS=0
 .have he:xs.take gS=[]:=j9 (by rw[j0,ab];rw[Nat.min_comm];exact V);rw[he] at h;refine .of (run_copy_none (P:=P) w U W X e base am gS Y n cap ag ah V) (cG.refl _) ?_;have ai:min n gS=0:=V;rw[ai] at h;exact h w (ae.refl _ _) rfl J
 .have ai:min n gS≠0:=V;have ap:=an Ω;have aq:=al Ω;subst ap;subst aq;have aj:(xs.take gS).length=min n gS:=by rw[j0,ab,Nat.min_comm]
  obtain⟨au,ad⟩:=mX (xs.take gS) cs o w J;have av:=run_copy_cells (P:=P) w U W X e g o gS Y ⟨b,o',ν⟩ n cap (xs.take gS) ag ah aj
   (λj u hu=>by
    rw[T2];have aw:=(x4.1 hu).1;rw[Y3 Ω] at hu;exact ao j u hu)
   (λj aw=>by rw[J.cell (x6 (show o+j<cs.length by omega))];rfl) (λj _=>J.frozen _ _) (λu hu=>h1 u (S8 hu))
  refine .of av (ad.ck J) ?_;rw[aj];exact h _ ad.aa ad.size au
theorem aj.mono {f:S6} {K J:x1->x3->Prop} (h:aj P f args w K) (U:∀v w',cG w w'->K v w'->J v w'):aj P f args w J:=by
 cases h with
 |code h1 I=>exact .code h1 (I.mono λ_ w' ⟨v,h1,V,I⟩=>⟨v,h1,V,U v w' V I⟩)
 |ext v w' h1 I W=>exact .ext v w' h1 I (U v w' I W)
theorem gb.mono {f:S6} {K J:x1->x3->Prop} (h:gb P f args w K) (U:∀v w',K v w'->J v w'):gb P f args w J:=by
 cases h with
 |code h1 I=>exact .code h1 (I.mono λ_ w' ⟨v,h1,I⟩=>⟨v,h1,U v w' I⟩)
 |ext v w' h1 V=>exact .ext v w' h1 (U v w' V)
end
end Go.Vc
namespace Go.Proofs.YtjjhhcfgfdepdaaGreatDoor
open Go Go.Vc Go.RowKit Go.Proofs Go.Proofs.Tryz
set_option maxRecDepth 100000
theorem al.u:x7.underlying al=σ (.int .i64):=Ψ
theorem al.i:aO x7 al 1 8 (Δ 0):=aO.of Ψ
theorem ag.u:x7.underlying ag=σ (.int .i64):=Ψ
theorem ag.i:aO x7 ag 1 8 (Δ 0):=aO.of Ψ
theorem eW.u:x7.underlying eW=σ .bool:=Ψ
theorem eW.i:aO x7 eW 1 1 (.bool false):=aO.of Ψ
theorem cE.u:x7.underlying cE=σ (.int .u8):=Ψ
theorem cE.i:aO x7 cE 1 1 (.int .u8 0):=aO.of Ψ
theorem cU.u:x7.underlying cU=σ .string:=Ψ
theorem cU.i:aO x7 cU 1 16 (.string ⟨#[]⟩):=aO.of Ψ
theorem cH.u:x7.underlying cH=σ (.slice cE):=Ψ
theorem lp.u:x7.underlying lp=σ (.slice bK):=Ψ
theorem dH.u:x7.underlying dH=σ (.pointer cB):=Ψ
theorem am.u:x7.underlying am=σ (.slice ag):=Ψ
theorem am.i:aO x7 am 1 24 (.slice ν 0 0):=aO.of Ψ
theorem cO.u:x7.underlying cO=σ (.slice am):=Ψ
theorem cO.i:aO x7 cO 1 24 (.slice ν 0 0):=aO.of Ψ
theorem jP.u:x7.underlying jP=σ (.slice eW):=Ψ
theorem jP.i:aO x7 jP 1 24 (.slice ν 0 0):=aO.of Ψ
theorem ec.u:x7.underlying ec=σ (.slice aq):=Ψ
theorem ec.i:aO x7 ec 1 24 (.slice ν 0 0):=aO.of Ψ
theorem e4.u:x7.underlying e4=σ (.slice ed):=Ψ
theorem e4.i:aO x7 e4 1 24 (.slice ν 0 0):=aO.of Ψ
theorem a6.p:bG x7 a6 [(0,1),(1,1),(2,1),(3,1),(4,1),(5,1),(6,1),(7,1)]:=bG.of Ψ
theorem a6.i:aO x7 a6 8 160 (.agg #[(Δ 0),(.slice ν 0 0),(Δ 0),(.slice ν 0 0),(.slice ν 0 0),(.slice ν 0 0),(.slice ν 0 0),(.slice ν 0 0)]):=aO.of Ψ
theorem bK.p:bG x7 bK [(0,1),(1,1),(2,1),(3,1),(4,1),(5,1)]:=bG.of Ψ
theorem bK.i:aO x7 bK 6 48 (.agg #[(.int .u8 0),(Δ 0),(Δ 0),(Δ 0),(Δ 0),(.bool false)]):=aO.of Ψ
theorem gg.i:aO x7 gg 1 8 (Δ 0):=aO.of Ψ
theorem aq.u:x7.underlying aq=σ (.slice al):=Ψ
theorem aq.i:aO x7 aq 1 24 (.slice ν 0 0):=aO.of Ψ
theorem aZ.p:bG x7 aZ [(0,1),(1,1),(2,1)]:=bG.of Ψ
theorem aZ.i:aO x7 aZ 3 72 (.agg #[(.slice ν 0 0),(.slice ν 0 0),(.slice ν 0 0)]):=aO.of Ψ
theorem ed.p:bG x7 ed [(0,3),(3,1)]:=bG.of Ψ
theorem ed.i:aO x7 ed 4 80 (.agg #[(.slice ν 0 0),(.slice ν 0 0),(.slice ν 0 0),(.bool false)]):=aO.of Ψ
theorem uB.u:x7.underlying uB=σ (.pointer cu):=Ψ
theorem uC.u:x7.underlying uC=σ (.pointer dv):=Ψ
theorem lX.u:x7.underlying lX=σ (.pointer fj):=Ψ
theorem cP.u:x7.underlying cP=σ (.slice aZ):=Ψ
theorem cP.i:aO x7 cP 1 24 (.slice ν 0 0):=aO.of Ψ
theorem du.p:bG x7 du [(0,1),(1,1),(2,1),(3,1),(4,1)]:=bG.of Ψ
theorem du.i:aO x7 du 5 88 (.agg #[(Δ 0),(.slice ν 0 0),(Δ 0),(.slice ν 0 0),(.slice ν 0 0)]):=aO.of Ψ
theorem fi.u:x7.underlying fi=σ (.int .u64):=Ψ
theorem fi.i:aO x7 fi 1 8 (.int .u64 0):=aO.of Ψ
theorem b1.p:bG x7 b1 [(0,1),(1,1)]:=bG.of Ψ
theorem b1.i:aO x7 b1 2 16 (.agg #[(.int .u64 0),(Δ 0)]):=aO.of Ψ
theorem pr.p:bG x7 pr [(0,1),(1,1)]:=bG.of Ψ
theorem n2.i:aO x7 n2 1 8 .nilFunc:=aO.of Ψ
theorem ps.u:x7.underlying ps=σ (.pointer fk):=Ψ
theorem e5.u:x7.underlying e5=σ (.slice ek):=Ψ
theorem e5.i:aO x7 e5 1 24 (.slice ν 0 0):=aO.of Ψ
theorem cB.p:bG x7 cB [(0,1),(1,1),(2,1),(3,1),(4,1)]:=bG.of Ψ
theorem bt.p:bG x7 bt [(0,1)]:=bG.of Ψ
theorem bt.i:aO x7 bt 1 24 (.agg #[(.slice ν 0 0)]):=aO.of Ψ
theorem ek.p:bG x7 ek [(0,1),(1,1),(2,1)]:=bG.of Ψ
theorem ek.i:aO x7 ek 3 56 (.agg #[(.slice ν 0 0),(.slice ν 0 0),(Δ 0)]):=aO.of Ψ
theorem ru.u:x7.underlying ru=σ (.pointer hn):=Ψ
theorem eO.p:bG x7 eO [(0,1),(1,1),(2,1),(3,1)]:=bG.of Ψ
theorem gQ.u:x7.underlying gQ=σ (.slice jk):=Ψ
theorem gQ.i:aO x7 gQ 1 24 (.slice ν 0 0):=aO.of Ψ
theorem b4.p:bG x7 b4 [(0,1),(1,4),(5,1),(6,1)]:=bG.of Ψ
theorem iN.u:x7.underlying iN=σ (.slice bW):=Ψ
theorem ib.u:x7.underlying ib=σ (.slice dS):=Ψ
theorem ib.i:aO x7 ib 1 24 (.slice ν 0 0):=aO.of Ψ
theorem bW.p:bG x7 bW [(0,1),(1,1),(2,1),(3,1)]:=bG.of Ψ
theorem bW.i:aO x7 bW 4 80 (.agg #[(.slice ν 0 0),(.slice ν 0 0),(Δ 0),(.slice ν 0 0)]):=aO.of Ψ
theorem dy.u:x7.underlying dy=σ (.slice cv):=Ψ
theorem dy.i:aO x7 dy 1 24 (.slice ν 0 0):=aO.of Ψ
theorem cu.p:bG x7 cu [(0,1),(1,1),(2,1),(3,1)]:=bG.of Ψ
theorem eG.u:x7.underlying eG=σ (.pointer fl):=Ψ
theorem eG.i:aO x7 eG 1 8 (.pointer ν):=aO.of Ψ
theorem cv.p:bG x7 cv [(0,1),(1,1)]:=bG.of Ψ
theorem cv.i:aO x7 cv 2 32 (.agg #[(.slice ν 0 0),(.pointer ν)]):=aO.of Ψ
theorem e6.u:x7.underlying e6=σ (.slice ci):=Ψ
theorem e6.i:aO x7 e6 1 24 (.slice ν 0 0):=aO.of Ψ
theorem dn.u:x7.underlying dn=σ (.slice aY):=Ψ
theorem dn.i:aO x7 dn 1 24 (.slice ν 0 0):=aO.of Ψ
theorem br.p:bG x7 br [(0,1),(1,1),(2,1),(3,1),(4,1),(5,1),(6,1),(7,1),(8,1)]:=bG.of Ψ
theorem dv.p:bG x7 dv [(0,1),(1,1),(2,1),(3,1)]:=bG.of Ψ
theorem ci.p:bG x7 ci [(0,1),(1,1)]:=bG.of Ψ
theorem ci.i:aO x7 ci 2 24 (.agg #[(.string ⟨#[]⟩),(Δ 0)]):=aO.of Ψ
theorem dR.u:x7.underlying dR=σ (.slice b2):=Ψ
theorem dR.i:aO x7 dR 1 24 (.slice ν 0 0):=aO.of Ψ
theorem aY.p:bG x7 aY [(0,1),(1,1),(2,1),(3,1)]:=bG.of Ψ
theorem aY.i:aO x7 aY 4 80 (.agg #[(.slice ν 0 0),(.slice ν 0 0),(Δ 0),(.slice ν 0 0)]):=aO.of Ψ
theorem kB.u:x7.underlying kB=σ (.slice gR):=Ψ
theorem kB.i:aO x7 kB 1 24 (.slice ν 0 0):=aO.of Ψ
theorem fj.p:bG x7 fj [(0,1),(1,1),(2,1),(3,1)]:=bG.of Ψ
theorem eH.u:x7.underlying eH=σ (.pointer cR):=Ψ
theorem eH.i:aO x7 eH 1 8 (.pointer ν):=aO.of Ψ
theorem gR.p:bG x7 gR [(0,1),(1,1)]:=bG.of Ψ
theorem gR.i:aO x7 gR 2 32 (.agg #[(.slice ν 0 0),(.pointer ν)]):=aO.of Ψ
theorem ey.p:bG x7 ey [(0,1),(1,1)]:=bG.of Ψ
theorem ey.i:aO x7 ey 2 16 (.agg #[(Δ 0),(.int .u64 0)]):=aO.of Ψ
theorem hK.u:x7.underlying hK=σ (.slice ey):=Ψ
theorem hK.i:aO x7 hK 1 24 (.slice ν 0 0):=aO.of Ψ
theorem mT.u:x7.underlying mT=σ (.slice kC):=Ψ
theorem mT.i:aO x7 mT 1 24 (.slice ν 0 0):=aO.of Ψ
theorem rv.u:x7.underlying rv=σ (.slice fN):=Ψ
theorem fk.p:bG x7 fk [(0,1),(1,1),(2,1),(3,1)]:=bG.of Ψ
theorem hn.p:bG x7 hn [(0,1),(1,1),(2,1)]:=bG.of Ψ
theorem jk.p:bG x7 jk [(0,1),(1,1)]:=bG.of Ψ
theorem jk.i:aO x7 jk 2 48 (.agg #[(.slice ν 0 0),(.slice ν 0 0)]):=aO.of Ψ
theorem dS.p:bG x7 dS [(0,1),(1,1)]:=bG.of Ψ
theorem dS.i:aO x7 dS 2 32 (.agg #[(.slice ν 0 0),(Δ 0)]):=aO.of Ψ
theorem b2.p:bG x7 b2 [(0,1),(1,1)]:=bG.of Ψ
theorem b2.i:aO x7 b2 2 32 (.agg #[(.slice ν 0 0),(Δ 0)]):=aO.of Ψ
theorem fL.u:x7.underlying fL=σ (.slice cQ):=Ψ
theorem cQ.p:bG x7 cQ [(0,1),(1,1)]:=bG.of Ψ
theorem cQ.i:aO x7 cQ 2 32 (.agg #[(.slice ν 0 0),(.pointer ν)]):=aO.of Ψ
theorem ic.u:x7.underlying ic=σ (.map cw al):=Ψ
theorem fl.p:bG x7 fl [(0,1),(1,1),(2,1),(3,1)]:=bG.of Ψ
theorem n3.u:x7.underlying n3=σ (.slice fM):=Ψ
theorem fM.p:bG x7 fM [(0,1),(1,1)]:=bG.of Ψ
theorem fM.i:aO x7 fM 2 32 (.agg #[(.slice ν 0 0),(Δ 0)]):=aO.of Ψ
theorem cR.p:bG x7 cR [(0,1),(1,1),(2,1)]:=bG.of Ψ
theorem fN.p:bG x7 fN [(0,1),(1,1),(2,1)]:=bG.of Ψ
theorem fN.i:aO x7 fN 3 24 (.agg #[(Δ 0),(Δ 0),(.int .u64 0)]):=aO.of Ψ
theorem kC.i:aO x7 kC 3 24 (.agg #[(Δ 0),(Δ 0),(.int .u64 0)]):=aO.of Ψ
theorem n4.u:x7.underlying n4=σ (.int .u64):=Ψ
theorem gx.u:x7.underlying gx=σ (.map cU ag):=Ψ
theorem fA.u:x7.underlying fA=σ (.int .i8):=Ψ
theorem fA.i:aO x7 fA 1 1 (.int .i8 0):=aO.of Ψ
theorem cw.u:x7.underlying cw=σ (.array 6 fA):=Ψ
theorem cw.i:aO x7 cw 6 6 (.agg #[(.int .i8 0),(.int .i8 0),(.int .i8 0),(.int .i8 0),(.int .i8 0),(.int .i8 0)]):=aO.of Ψ
theorem kD.u:x7.underlying kD=σ (.slice fA):=Ψ
theorem iO.u:x7.underlying iO=σ (.slice cw):=Ψ
theorem iO.i:aO x7 iO 1 24 (.slice ν 0 0):=aO.of Ψ
theorem rx.u:x7.underlying rx=σ (.array 64 cE):=Ψ
theorem n5.u:x7.underlying n5=σ (.int .u32):=Ψ
theorem lq.u:x7.underlying lq=σ (.map al ag):=Ψ
theorem lY.u:x7.underlying lY=σ (.array 24 cE):=Ψ
theorem lY.i:aO x7 lY 24 24 (.agg #[(.int .u8 0),(.int .u8 0),(.int .u8 0),(.int .u8 0),(.int .u8 0),(.int .u8 0),(.int .u8 0),(.int .u8 0),(.int .u8 0),(.int .u8 0),(.int .u8 0),(.int .u8 0),(.int .u8 0),(.int .u8 0),(.int .u8 0),(.int .u8 0),(.int .u8 0),(.int .u8 0),(.int .u8 0),(.int .u8 0),(.int .u8 0),(.int .u8 0),(.int .u8 0),(.int .u8 0)]):=aO.of Ψ
theorem ry.u:x7.underlying ry=σ (.array 20 fi):=Ψ
end Go.Proofs.YtjjhhcfgfdepdaaGreatDoor
namespace Go.Vc
open Go Go.RowKit
def bV:x1->Int
 | .int _ i=>i
 |_=>0
theorem wrap_i64 {x:Int} (h1: -9223372036854775808<=x) (I:x<9223372036854775808):Y9.wrap x=x:=by
 simp only[o4.wrap,o4.bits,o4.signed];simp;omega
theorem wrap_u8 {x:Int} (h1:0<=x) (I:x<256):o4.u8.wrap x=x:=by
 simp only[o4.wrap,o4.bits,o4.signed];simp;omega
theorem HK {x:Int} (h1: -128<=x) (I:x<128):o4.i8.wrap x=x:=by
 simp only[o4.wrap,o4.bits,o4.signed];simp;omega
theorem wrap_u64 {x:Int} (h1:0<=x) (I:x<18446744073709551616):V9.wrap x=x:=by
 simp only[o4.wrap,o4.bits,o4.signed];simp;omega
abbrev ints (k:o4) (l:Λ):List x1:=l.map (V1 k)
theorem pv (k:o4) (l:Λ):∀u∈ints k l,u.oneCell'=true:=by
 intro u hu;obtain⟨x,_,rfl⟩:=o8.1 hu;rfl
theorem kF {i:Nat} {x:Int} (h:l[i]? =σ x):(ints k l)[i]? =σ (.int k x):=by simp[ints,h]
theorem uH {α:Type} {a b:List α} {i:Nat} {x y:α} (h:a.take i=b.take i) (I:a[i]? =σ x) (J:b[i]? =σ y) (U:x=y):a.take (i+1)=b.take (i+1):=by
 rw[r8,r8,h,I,J,U]
theorem db {av:x3->Prop} {B:(x3->Prop)->Prop} (G:x3->Prop) (h1:∀w,G w->av w) (J:∀I:x3->Prop,(∀w,G w->I w)->B I):cg av B:=J av h1
theorem aR {av:x1->x3->Prop} {B:(x1->x3->Prop)->Prop} (G:x1->x3->Prop) (h1:∀v w,G v w->av v w)
  (J:∀I:x1->x3->Prop,(∀v w,G v w->I v w)->B I):cg av B:=J av h1
theorem iM {av:x1->x1->x3->Prop} {B:(x1->x1->x3->Prop)->Prop} (G:x1->x1->x3->Prop) (h1:∀u v w,G u v w->av u v w)
  (J:∀I:x1->x1->x3->Prop,(∀u v w,G u v w->I u v w)->B I):cg av B:=J av h1
theorem aj.calls {P:W0} {f:S6} {K:x1->x3->Prop} (h:aj P f args w K) (I:Enters P f):Calls P f args.toArray w λe w'=>∃v,e= .returned v/\cG w w'/\K v w':=by
 cases h with
 |code _ h=>exact h
 |ext v w' h1=>rw[I] at h1;cases h1
theorem uI (V:Ext w w') (J:cG w w'):Below w.heap.size w w':=
 ⟨J.os,J.tape.1,J.output,V.size,λk hk=>by
  have U:w.heap[k]? =σ w.heap[k]:=Array.getElem?_eq_getElem hk;rw[U];cases I:ff w.heap[k] with
  |true=>exact V.aX k _ U I
  |false=>exact J.aX k _ U I⟩
theorem uJ {x:Addr} (h:w.cell? x=σ v):x=⟨x.block,x.off,ν⟩:=by
 obtain⟨b,o,s⟩:=x;cases s with
 |none=>rfl
 |some s=>
  unfold x3.cell? at h;split at h<;>simp at h
theorem uK {a:Option Addr} {len cap:Nat} {I:Λ}
  (h:(a=ν/\len=0/\cap=0/\I=[])\/
   ∃x,a=σ x/\len<=cap/\cap<=maxLen/\I.length=cap/\(∀i,i<I.length->w.cell? (x.add i)=σ (.int k (I.getD i 0)))/\ ∀n∈I,(Lit.int k n).wf=true):
  b5 w 1 (.slice a len cap) len (ints k (I.take len))/\ ∀n∈I.take len,k.min<=n/\n<=k.max:=by
 rcases h with⟨rfl,rfl,rfl,rfl⟩|⟨x,rfl,h1,W,X,J,Y⟩
 .exact⟨b5.nil _ _,Ξ⟩
 .refine⟨⟨by simp[X,h1],x.block,x.off,σ x,cap,rfl,h1,W,λad=>?_,λj v U=>?_⟩,λn aa=>?_⟩
  .have:=J 0 Ω;exact congrArg σ (uJ this)
  .have ab:=(x4.1 U).1;rw[u7,j0] at ab;have ac:x=⟨x.block,x.off,ν⟩:=uJ (v:=.int k (I.getD 0 0)) (J 0 Ω);have V:=J j Ω;rw[ac,T2] at V;rw[V,<-U,ints,x8,Y3 Ω,u4,x6 Ω];rfl
  .have:=Y n (S8 aa);simpa[Lit.wf] using this
def aB (k:o4) (w:x3) (v:x1) (l:Λ):Prop:=b5 w 1 v l.length (ints k l)
def ap (k:o4) (e:r9) (w:x3) (g:Nat) (v:x1) (l:Λ):Prop:=bT w g e 1 v l.length (ints k l)
theorem aB.ext (h:aB k w v l) (I:Ext w w'):aB k w' v l:=b5.ext h I
theorem ap.ext {g:Nat} (h:ap k e w g v l) (I:Ext w w'):ap k e w' g v l:=bT.ext h I
theorem ap.aa {g:Nat} (h:ap k e w g v l) (I:ae S w w') (J:g<w.heap.size->¬S g):ap k e w' g v l:=bT.aa h I J
theorem ap.ls {g:Nat} (h:ap k e w g v l):aB k w v l:=bT.sl h
theorem aB.of (h:b5 w 1 v n (ints k l)):aB k w v l:=by
 have:l.length=n:=by simpa using h.1
 unfold aB;rw[this];exact h
theorem ap.of {g:Nat} (h:bT w g e 1 v n (ints k l)):ap k e w g v l:=by
 have:l.length=n:=by simpa using h.1
 unfold ap;rw[this];exact h
theorem aB.le (h:aB k w v l):l.length<=9223372036854775807:=by
 have:=b5.le h;simpa[maxLen] using this
theorem aB.cells (h:aB k w v l):v.cells= #[v]/\v.oneCell'=true:=by
 obtain⟨_,_,_,_,_,rfl,_⟩:=h;exact⟨rfl,rfl⟩
theorem ap.nil (k:o4) (e:r9) (w:x3) (g:Nat):ap k e w g (.slice ν 0 0) []:=bT.nil w g e 1
section
variable {P:W0} {w:x3}
theorem aV {I:r9} (J:P.underlying t=σ (.slice e)) (h:aB k w v l):
  U P (W3 #[t] I #[v]) w K=K (Δ l.length):=by
 obtain⟨_,_,_,_,_,rfl,_⟩:=h;exact hL J
theorem ba {b:Nat} {i:Nat} {x:Int} (V:P.underlying t=σ (.slice e)) (hi:aO P e 1 b z) (h1:jl P e=true)
  (h:aB k w v l) (I:l[i]? =σ x):U P (j5 t v (.int J (i:Int))) w (λp=>U P (u5 e p) w K)=K (.int k x):=by
 have W:=(x4.1 I).1;obtain⟨_,_,_,_,_,rfl,_,_,X,Y⟩:=h;rw[fm V hi W X,U6,aA h1 (Y i _ (kF I))]
theorem fP {I:o4} {b:Nat} {i:Nat} {x:Int} (J:y=(i:Int)) (V:P.underlying t=σ (.slice e)) (hi:aO P e 1 b z) (h1:jl P e=true)
  (h:aB k w v l) (W:l[i]? =σ x):U P (j5 t v (.int I y)) w (λp=>U P (u5 e p) w K)=K (.int k x):=by
 subst J;exact ba V hi h1 h W
theorem iQ {b g:Nat} {x:x1} {m:Λ} {K:x1->x3->Prop} (U:P.underlying t=σ (.slice e)) (hi:aO P e 1 b z) (W:z.cells.size=1)
  (h:ap k e w g v l) (X:aB k w x m) (Y:(l.length+m.length)*b<=140737488355328) (aa:l.length+m.length<=9223372036854775807)
  (ab:∀J I w',(I=g\/w.heap.size<=I)->ap k e w' I J (l++m)->ae (λr=>r=g) w w'->K J w'):ax P (b8 #[t,t] V #[v,x]) w K:=
 mY U U hi W h X (pv _ _) Y (by simpa[maxLen] using aa) λJ I w' h1 ac ad=>ab J I w' h1 (ap.of (by rw[ints,c8];exact ac)) ad
theorem en {b:Nat} {x:Int} {K:x1->x3->Prop} (U:P.underlying t=σ (.slice e)) (hi:aO P e 1 b z) (Y:z.cells.size=1)
  (h:∀v g w',g=w.heap.size->Ext w w'->ap k e w' g v [x]->K v w'):ax P (Z9 t 1 #[(0,.int k x)]) w K:=
 jT U hi Ω (cs:=#[.int k x]) (by
   have I:∀ (a:Array x1),a.size=1->a.setIfInBounds 0 (.int k x)= #[.int k x]:=λa J=>by
    apply Array.ext
    .simp[J]
    .intro i h1 aa;have:i=0:=by simp[J] at h1;exact h1
     subst this;simp
   simp only[Instr.fill,x1.cells,List.zipIdx];simp;exact I _ Ξ) λg w' V W X=>h _ g w' V W (ap.of (n:=1) (bT.full X rfl (by simp[maxLen])))
theorem aj.free {f:S6} {K:x1->x3->Prop} (h:aj P f args w K):gb P f args w λv w'=>cG w w'/\K v w':=by
 cases h with
 |code h1 I=>exact .code h1 (I.mono λ_ w' ⟨v,h1,J,I⟩=>⟨v,h1,J,I⟩)
 |ext v w' h1 I U=>exact .ext v w' h1 ⟨I,U⟩
theorem bQ {a:Addr}:U P (bF (.pointer (σ a))) w K=K (.pointer (σ a)):=U.of λ_ _=>by
 simp[bF,qS,execOp]
theorem aD {u:r9} {pl:List (Nat×Nat)} {b off z:Nat} {K:x1->x1->Prop} (V:bG P t pl) (i:Nat) (W:ac w b e cs) (I:cs[(pl[i]?.getD (0,0)).1]? =σ v) (J:pl[i]? =σ (off,z+1):=by rfl) (X:jl P u=true:=by kernel_rfl):
  U P (u6 t (Γ b) i) w (λx=>U P (u5 u x) w (K x))=K (.pointer (σ ⟨b,0+off,ν⟩)) v:=by
 rw[J] at I;rw[aT V J,aA X (W.cell (by rw[X1];exact I))]
theorem aM {u:r9} {pl:List (Nat×Nat)} {b off z:Nat} {K:x1->x1->x1->Prop} (I:bG P t pl) (i:Nat) (J:ac w b e cs) (V:cs[(pl[i]?.getD (0,0)).1]? =σ v) (W:pl[i]? =σ (off,z+1):=by rfl) (X:jl P u=true:=by kernel_rfl):
  U P (bF (Γ b)) w (λy=>U P (u6 t y i) w (λx=>U P (u5 u x) w (K y x)))=K (Γ b) (.pointer (σ ⟨b,0+off,ν⟩)) v:=by
 rw[bQ,aD I i J V W X]
theorem zj {I:o4} {k U:Nat} {K:x1->x3->Prop} (W:P.underlying t=σ (.slice e)) (hi:aO P e k U z) (ad:n*U<=281474976710656) (ae:n<=9223372036854775807)
  (h:∀g w',g=w.heap.size->Ext w w'->ac w' g e (dI z.cells (n*k))->K (.slice (σ ⟨g,0,ν⟩) n n) w'):ax P (Instr.makeSlice t (.int I (n:Int)) (.int J (n:Int))) w K:=by
 obtain⟨i,hi,rfl,rfl,X⟩:=hi;have Y:(i.bytes:Int)*(n:Int)<=281474976710656:=by
  rw[Int.mul_comm];have h:((n*i.bytes:Nat):Int)<=281474976710656:=Ω
  rwa [Int.natCast_mul] at h
 have V:=run_make (P:=P) w t e i z W hi X I J n n Ω (Int.le_refl _) Y Ω;have hm:madeCells z.cells ((n:Int).toNat*i.size)=(dI z.cells (n*i.size)).toArray:=by rw[dI,Array.toArray_toList];rfl
 rw[hm] at V;obtain⟨h1,aa,ab⟩:=rE w (dI z.cells (n*i.size)) e;exact .of V ab (h _ _ rfl aa h1)
theorem HL (v:x1) (n:Nat):dI #[v] n=p8 n v:=by
 apply List.ext_getElem
 .simp[dI]
 .intro i h1 I;simp[dI,Nat.mod_one]
theorem iR {U:o4} {K:x1->x3->Prop} (V:P.underlying t=σ (.slice e)) (hi:aO P e 1 I (.int k 0)) (W:n*I<=281474976710656) (X:n<=9223372036854775807)
  (h:∀g w',g=w.heap.size->Ext w w'->ac w' g e (ints k (p8 n 0))->K (.slice (σ ⟨g,0,ν⟩) n n) w'):ax P (Instr.makeSlice t (.int J (n:Int)) (.int U (n:Int))) w K:=
 zj V hi W X λg w' Y aa ab=>h g w' Y aa (by
  have e:dI (V1 k 0).cells (n*1)=ints k (p8 n 0):=by rw[U6];show dI #[_] n=_;rw[HL];simp[ints]
  rw[<-e];exact ab)
theorem fB {pl:List (Nat×Nat)} {b o k:Nat} (hu:bG P t pl) (hi:aO P t k I z) (J:cs.length=k)
  (h:w.rangeAt b o cs):U P (do loadVar t (<-asAddr (.pointer (σ ⟨b,o,ν⟩)))) w K=K (.agg cs.toArray):=U.of λw' V=>by
 obtain⟨W,hu,_⟩:=hu;have:=run_loadVar_mid (P:=P) w' b o t cs (.struct W) (mU V h) hu rfl (by rw[hi.size,J]);simp only[asAddr,X8,W8,Result.andThen_ok,this]
theorem HM (h:vs.length=cs.length):over cs 0 vs=vs:=by
 rw[l1 Ω];simp[h]
theorem cc {k J g:Nat} {K:Unit->x3->Prop} (hi:aO P t k J z) (U:vs.length=k) (Y:cs.length=k) (V:∀v∈vs,v.oneCell'=true) (W:ac w g e cs)
  (h:∀w',ae (λr=>r=g) w w'->w'.heap.size=w.heap.size->ac w' g e vs->K () w'):ax P (o7 t (Γ g) (.agg vs.toArray)) w K:=
 zg hi U V W Ω λw' h1 X I=>h w' h1 X (by rw[HM Ω] at I;exact I)
end
section
variable {P:W0} {w w' V:x3} {t:r9} {cx cy:Bool} {k:o4} {a b:Int} {A B:Prop} {x y z:x1} {K:x1->Prop}
theorem bf:U P (Z1 (.tuple #[x,y]) 0) w K=K x:=ih rfl
theorem bg:U P (Z1 (.tuple #[x,y]) 1) w K=K y:=ih rfl
theorem hM:U P (Z1 (.tuple #[x,y,z]) 0) w K=K x:=ih rfl
theorem hN:U P (Z1 (.tuple #[x,y,z]) 1) w K=K y:=ih rfl
theorem hP:U P (Z1 (.tuple #[x,y,z]) 2) w K=K z:=ih rfl
theorem bB (h:a<b) (I:A):U P (aE .lss t cx cy (.int k a) (.int k b)) w λv=>Split v A B:=by
 rw[aP,ai];exact⟨λ_=>I,λJ=>absurd h J⟩
theorem b6 (h:¬a<b) (I:B):U P (aE .lss t cx cy (.int k a) (.int k b)) w λv=>Split v A B:=by
 rw[aP,ai];exact⟨λJ=>absurd J h,λ_=>I⟩
theorem Ext.put {g:Nat} (I:Ext w w') (J:ae (λr=>r=g) w' V) (h:w.heap.size<=g):Ext w V:=I.then J λr U he=>by
 have he:r=g:=he;omega
theorem aF {α:Type} {l:List α} {i:Nat} (h:i<l.length):∃x,l[i]? =σ x:=⟨_,x6 h⟩
end
abbrev ah:=Nat->Prop
def jU (S:ah) (w:x3) (k:Nat) (v:x1) (n:Nat) (cs:List x1):Prop:=
 cs.length=n*k/\ ∃b o base cap,v= .slice base n cap/\n<=cap/\cap<=maxLen/\(0<n->base=σ ⟨b,o,ν⟩)/\(0<cs.length->S b)/\w.rangeAt b o cs
theorem jU.sl {S:ah} {k:Nat} (h:jU S w k v n cs):b5 w k v n cs:=by
 obtain⟨h1,b,o,base,cap,I,J,U,V,_,W⟩:=h;exact⟨h1,b,o,base,cap,I,J,U,V,W⟩
theorem zk {b o:Nat} (h:w.rangeAt b o cs) (I:0<cs.length):b<w.heap.size:=by
 have:=h 0 cs[0] (x6 I);obtain⟨c,e,f,J,_⟩:=uE this;exact (o9.1 J).1
theorem jU.aa {S T:ah} {k:Nat} (h:jU S w k v n cs) (V:ae T w w') (W:∀r,r<w.heap.size->S r->¬T r):jU S w' k v n cs:=by
 obtain⟨h1,b,o,base,cap,X,Y,ab,ac,J,U⟩:=h;refine⟨h1,b,o,base,cap,X,Y,ab,ac,J,?_⟩;rcases R4 cs.length with I|I
 .intro j v ad;have:=(x4.1 ad).1;omega
 .exact jQ V (W b (zk U I) (J I)) U
theorem jU.mono {S T:ah} {k:Nat} (h:jU S w k v n cs) (U:∀r,r<w.heap.size->S r->T r):jU T w k v n cs:=by
 obtain⟨h1,b,o,base,cap,V,W,X,Y,aa,I⟩:=h;exact⟨h1,b,o,base,cap,V,W,X,Y,λJ=>U b (zk I J) (aa J),I⟩
class ak (α:Type) where
 n:Nat
 rep:Bool->ah->ah->x3->List x1->α->Prop
 len:∀ {m S R w cs a},rep m S R w cs a->cs.length=n
 one:∀ {m S R w cs a},rep m S R w cs a-> ∀u∈cs,u.oneCell'=true
 aa:∀ {m S R T w w' cs a},rep m S R w cs a->ae T w w'->(∀r,r<w.heap.size->S r\/R r->¬T r)->rep m S R w' cs a
 mono:∀ {m S S' R R' w cs a},rep m S R w cs a->(∀r,r<w.heap.size->S r->S' r)->(∀r,r<w.heap.size->R r->R' r)->rep m S' R' w cs a
 hj:∀ {m S R w cs a},rep m S R w cs a->rep false (λ_=>False) (λr=>S r\/R r) w cs a
section
variable {α β:Type} [ak α] [ak β] {m:Bool} {S R T:ah} {w w':x3}
abbrev bx (S R:ah) (w:x3) (cs:List x1) (a:α):Prop:=ak.rep true S R w cs a
abbrev Seen (R:ah) (w:x3) (cs:List x1) (a:α):Prop:=ak.rep false (λ_=>False) R w cs a
abbrev dY:ah:=λ_=>True
theorem bq {a:α} (h:ak.rep m S R w cs a) (I:Ext w w'):ak.rep m S R w' cs a:=ak.aa h (I.aa λ_=>False) λ_ _ _ h=>h
theorem ly {a:α} (h:ak.rep m S R w cs a):ak.rep m (λr=>S r/\r<w.heap.size) R w cs a:=ak.mono h (λ_ h1 I=>⟨I,h1⟩) λ_ _ h=>h
theorem ho {a:α} (h:ak.rep m S R w cs a):Seen dY w cs a:=ak.mono (ak.hj h) (λ_ _ h=>h.elim) λ_ _ _=>trivial
theorem ob {a:α} {Q:ah} (h:ak.rep m S R w cs a) (I:∀r,r<w.heap.size->S r\/R r->Q r):Seen Q w cs a:=ak.mono (ak.hj h) (λ_ _ h=>h.elim) I
instance:ak Int where
 n:=1
 rep _ _ _ _ cs a:=cs=[Δ a]
 len h:=by subst h;rfl
 one h:=by subst h;intro u hu;simp at hu;subst hu;rfl
 aa h _ _:=h
 mono h _ _:=h
 hj h:=h
instance:ak Bool where
 n:=1
 rep _ _ _ _ cs a:=cs=[.bool a]
 len h:=by subst h;rfl
 one h:=by subst h;intro u hu;simp at hu;subst hu;rfl
 aa h _ _:=h
 mono h _ _:=h
 hj h:=h
instance:ak ByteArray where
 n:=1
 rep _ _ _ _ cs a:=cs=[.string a]
 len h:=by subst h;rfl
 one h:=by subst h;intro u hu;simp at hu;subst hu;rfl
 aa h _ _:=h
 mono h _ _:=h
 hj h:=h
def gT (_:o4):Type:=Int
instance (k:o4):ak (gT k) where
 n:=1
 rep _ _ _ _ cs a:=cs=[.int k a]
 len h:=by subst h;rfl
 one h:=by subst h;intro u hu;simp at hu;subst hu;rfl
 aa h _ _:=h
 mono h _ _:=h
 hj h:=h
def Rd (α:Type):Type:=α
instance PK:ak (Rd α) where
 n:=ak.n α
 rep _ _ R w cs a:=ak.rep (α:=α) false (λ_=>False) R w cs a
 len h:=ak.len (α:=α) h
 one h:=ak.one (α:=α) h
 aa h I J:=ak.aa (α:=α) h I λr U h=>J r U (.inr (h.elim False.elim id))
 mono h _ V:=ak.mono (α:=α) h (λ_ _ h=>h) V
 hj h:=ak.mono (α:=α) h (λ_ _ h=>h) λ_ _ h=>.inr h
instance PL:ak (α×β) where
 n:=ak.n α+ak.n β
 rep m S R w cs a:=∃c d A B,cs=c++d/\(∀r,A r->S r)/\(∀r,B r->S r)/\(m=true-> ∀r,A r->¬B r)/\ak.rep m A R w c a.1/\ak.rep m B R w d a.2
 len:=by
  rintro m S R w cs a ⟨c,d,A,B,rfl,_,_,_,h1,I⟩;simp[ak.len h1,ak.len I]
 one:=by
  rintro m S R w cs a ⟨c,d,A,B,rfl,_,_,_,h1,I⟩ u hu;rcases l7.1 hu with hu|hu
  .exact ak.one h1 u hu
  .exact ak.one I u hu
 aa:=by
  rintro m S R T w w' cs a ⟨c,d,A,B,rfl,U,V,X,h1,I⟩ Y W;exact⟨c,d,A,B,rfl,U,V,X,ak.aa h1 Y λr J h=>W r J (h.imp (U r) id),ak.aa I Y λr J h=>W r J (h.imp (V r) id)⟩
 mono:=by
  rintro m S S' R R' w cs a ⟨c,d,A,B,rfl,U,V,X,h1,I⟩ W ab;exact⟨c,d,λr=>A r/\r<w.heap.size,λr=>B r/\r<w.heap.size,rfl,λr h=>W r h.2 (U r h.1),λr h=>W r h.2 (V r h.1),λhm r h k=>X hm r h.1 k.1,
   ak.mono h1 (λr J h=>⟨h,J⟩) ab,ak.mono I (λr J h=>⟨h,J⟩) ab⟩
 hj:=by
  rintro m S R w cs a ⟨c,d,A,B,rfl,U,V,X,h1,I⟩;exact⟨c,d,λ_=>False,λ_=>False,rfl,λ_ h=>h.elim,λ_ h=>h.elim,(λh=>by cases h),ak.mono (ak.hj h1) (λ_ _ h=>h) λr _ h=>h.imp (U r) id,
   ak.mono (ak.hj I) (λ_ _ h=>h) λr _ h=>h.imp (V r) id⟩
def l2 (m:Bool) (R:ah) (F:Nat->ah) (w:x3) (vs:List (List x1)) (l:List α):Prop:=
 vs.length=l.length/\ ∀ (i:Nat) (c:List x1) (a:α),vs[i]? =σ c->l[i]? =σ a->ak.rep m (F i) R w c a
structure zl (m:Bool) (S:ah) (g:Nat) (F:Nat->ah):Prop where
 sub:∀i r,F i r->S r
 top:m=true-> ∀i,¬F i g
 gi:m=true-> ∀i j r,i≠j->F i r->¬F j r
theorem l2.len {F:Nat->ah} {vs:List (List x1)} {l:List α} (h:l2 m R F w vs l):∀c∈vs,c.length=ak.n α:=by
 intro c I;obtain⟨i,hi,rfl⟩:=List.mem_iff_getElem.1 I;exact ak.len (h.2 i _ _ (x6 hi) (x6 (h.1▸hi)))
theorem l2.one {F:Nat->ah} {vs:List (List x1)} {l:List α} (h:l2 m R F w vs l):∀u∈vs.flatten,u.oneCell'=true:=by
 intro u hu;obtain⟨c,I,hu⟩:=List.mem_flatten.1 hu;obtain⟨i,hi,rfl⟩:=List.mem_iff_getElem.1 I;exact ak.one (h.2 i _ _ (x6 hi) (x6 (h.1▸hi))) u hu
theorem pw {k:Nat}:∀ {vs:List (List x1)},(∀c∈vs,c.length=k)->vs.flatten.length=vs.length*k
 |[],_=>Ξ
 |c::r,h=>by
  have:=pw (vs:=r) λx I=>h x (.tail _ I);simp only[List.flatten_cons,o5,this,h c (.head _),b9,V8];omega
theorem mZ {k:Nat}:∀ {vs:List (List x1)},(∀c∈vs,c.length=k)-> ∀ {i j:Nat} {c:List x1},vs[i]? =σ c->j<k->vs.flatten[i*k+j]? =c[j]?
 |gA::r,h,0,j,c,I,J=>by
  simp only[List.getElem?_cons_zero,Y6] at I;subst I;rw[List.flatten_cons,Y0 (by rw[h _ (.head _)];omega)];simp
 |gA::r,h,i+1,j,c,I,J=>by
  simp only[List.getElem?_cons_succ] at I;have U:=h gA (.head _);rw[List.flatten_cons,Y1 (by rw[U,V8];omega),U,V8,show i*k+1*k+j-k=i*k+j by omega];exact mZ (λx V=>h x (.tail _ V)) I J
 |[],_,i,_,c,I,_=>by simp at I
instance instList:ak (List α) where
 n:=1
 rep m S R w cs l:=∃v,cs=[v]/\ ∃ (vs:List (List x1)) (g:Nat) (F:Nat->ah),zl m S g F/\l2 m R F w vs l/\jU (λr=>S r\/R r) w (ak.n α) v l.length vs.flatten/\
  (m=true->(v= .slice ν 0 0\/S g)/\ ∃e,bT w g e (ak.n α) v l.length vs.flatten)
 len:=by rintro m S R w cs a ⟨v,rfl,_⟩;rfl
 one:=by
  rintro m S R w cs a ⟨v,rfl,vs,g,F,_,_,⟨_,_,_,_,_,rfl,_⟩,_⟩ u hu;simp at hu;subst hu;rfl
 aa:=by
  rintro m S R T w w' cs a ⟨v,rfl,vs,g,F,U,he,I,hm⟩ ac W;refine⟨v,rfl,vs,g,F,U,⟨he.1,λi c a Y ab=>ak.aa (he.2 i c a Y ab) ac λr V h=>W r V (h.imp (U.sub i r) id)⟩,I.aa ac W,λh=>?_⟩;obtain⟨h1,e,J⟩:=hm h;refine⟨h1,e,?_⟩;rcases h1 with rfl|h1
  .obtain⟨ae,⟨_,X⟩|⟨_,_,X,_⟩⟩:=J
   .exact⟨ae,.inl ⟨rfl,X⟩⟩
   .cases X
  .exact J.aa ac λV=>W g V (.inl h1)
 mono:=by
  rintro m S S' R R' w cs a ⟨v,rfl,vs,g,F,U,he,I,hm⟩ W ad;refine⟨v,rfl,vs,g,λi r=>F i r/\r<w.heap.size,⟨λi r h=>W r h.2 (U.sub i r h.1),λh i J=>U.top h i J.1,λh i j r af h1 J=>U.gi h i j r af h1.1 J.1⟩,
   ⟨he.1,λi c a Y ab=>ak.mono (he.2 i c a Y ab) (λr V h=>⟨h,V⟩) ad⟩,I.mono λr V h=>h.imp (W r V) (ad r V),λh=>?_⟩
  obtain⟨h1,e,J⟩:=hm h;refine⟨?_,e,J⟩;obtain⟨_,⟨X,_⟩|⟨_,_,X,ag,_⟩⟩:=J
  .exact .inl X
  .rcases h1 with h1|h1
   .exact .inl h1
   .exact .inr (W g ag.lt h1)
 hj:=by
  rintro m S R w cs a ⟨v,rfl,vs,g,F,U,he,I,hm⟩;exact⟨v,rfl,vs,g,λ_ _=>False,⟨λ_ _ h=>h,(λh=>by cases h),λh=>by cases h⟩,
   ⟨he.1,λi c a Y ab=>ak.mono (ak.hj (he.2 i c a Y ab)) (λ_ _ h=>h) λr _ h=>h.imp (U.sub i r) id⟩,I.mono λr _ h=>.inr h,λh=>by cases h⟩
end
section
variable {P:W0} {w:x3} {α β:Type} [ak α] [ak β] {m:Bool} {S R:ah}
theorem iS {l:List α} (h:ak.rep m S R w [v] l):∃ (vs:List (List x1)) (g:Nat) (F:Nat->ah),zl m S g F/\l2 m R F w vs l/\jU (λr=>S r\/R r) w (ak.n α) v l.length vs.flatten/\
  (m=true->(v= .slice ν 0 0\/S g)/\ ∃e,bT w g e (ak.n α) v l.length vs.flatten):=by
 obtain⟨_,I,h⟩:=h;cases I;exact h
theorem hp {a:α} (h:ak.rep m S R w [v] a):v.oneCell'=true:=ak.one h v (.head _)
theorem oc {l:List α} (h:ak.rep m S R w [v] l):v.cells= #[v]:=by
 obtain⟨_,_,_,_,_,⟨_,_,_,_,_,rfl,_⟩,_⟩:=iS h;rfl
theorem m3 {l:List α} (h:ak.rep m S R w [v] l):l.length<=9223372036854775807:=by
 obtain⟨_,_,_,_,_,h,_⟩:=iS h;have:=h.sl.le;simpa[maxLen] using this
theorem gB:ak.rep m S R w [.slice ν 0 0] ([]:List α):=
 ⟨_,rfl,[],0,λ_ _=>False,⟨λ_ _ h=>h.elim,λ_ _ h=>h,λ_ _ _ _ _ h=>h.elim⟩,⟨rfl,λi c a I=>by simp at I⟩,
  ⟨Ξ,0,0,ν,0,rfl,p9 _,X2 _,λh=>absurd h (Nat.lt_irrefl _),λh=>by simp at h,λj v h=>by simp at h⟩,
  λ_=>⟨.inl rfl,0,bT.nil w 0 0 _⟩⟩
theorem zm {F:Nat->ah} {vs:List (List x1)} (h:l2 m R F w vs l):vs.flatten=ints .i64 l:=by
 have:vs=l.map λx=>[V1 .i64 x]:=by
  apply List.ext_getElem
  .simp[h.1]
  .intro i h1 I;have J:i<l.length:=by simpa using I
   have:=h.2 i _ _ (x6 h1) (x6 J);rw[List.getElem_map];exact this
 subst this;clear h;induction l with
 |nil=>rfl
 |cons x l U=>simp only[U4,List.flatten_cons,U];rfl
theorem dp (h:ak.rep m S R w [v] l):aB .i64 w v l:=by
 obtain⟨vs,g,F,_,he,I,_⟩:=iS h;have:=I.sl;rw[zm he] at this;exact this
theorem gj {I:r9} {l:List α} (J:P.underlying t=σ (.slice e)) (h:ak.rep m S R w [v] l):
  U P (W3 #[t] I #[v]) w K=K (Δ l.length):=by
 obtain⟨_,_,_,_,_,⟨_,_,_,_,_,rfl,_⟩,_⟩:=iS h;exact hL J
theorem jV {X:o4} {i b:Nat} {l:List α} {a:α} (Y:y=(i:Int)) (aa:P.underlying t=σ (.slice e)) (hi:aO P e (ak.n α) b z)
  (h:ak.rep m S R w [v] l) (I:l[i]? =σ a) (ab:∀b o cs,w.rangeAt b o cs->ak.rep m S R w cs a->K (.pointer (σ ⟨b,o,ν⟩))):U P (j5 t v (.int X y)) w K:=by
 subst Y;obtain⟨vs,g,F,ac,he,⟨_,b,o,base,cap,rfl,_,_,ad,_,ae⟩,_⟩:=iS h;have J:=(x4.1 I).1;rw[fm aa hi J ad];obtain⟨c,V⟩:∃c,vs[i]? =σ c:=⟨_,x6 (by rw[he.1];exact J)⟩;have W:=he.2 i c a V I;have af:=ak.len W;refine ab _ _ c (λj u hu=>?_) (ak.mono W (λr _ h=>ac.sub i r h) λ_ _ h=>h);have ag:=(x4.1 hu).1;rw[S2];refine ae (i*ak.n α+j) u ?_;rw[mZ he.len V Ω];exact hu
theorem hq {V:o4} {i b:Nat} {l:List α} {a:α} (W:ak.n α=1) (X:y=(i:Int)) (Y:P.underlying t=σ (.slice e)) (hi:aO P e (ak.n α) b z)
  (h1:jl P e=true) (h:ak.rep m S R w [v] l) (aa:l[i]? =σ a) (ab:∀u,ak.rep m S R w [u] a->K u):
  U P (j5 t v (.int V y)) w λp=>U P (u5 e p) w K:=by
 refine jV X Y hi h aa λb o cs ac I=>?_;have J:=ak.len I;rw[W] at J;obtain⟨u,rfl⟩:=W6.1 J;rw[aA h1 (by have:=ac 0 u rfl;simpa using this)];exact ab u I
theorem l3 {pl:List (Nat×Nat)} {i b:Nat} {l:List α} {a:α} (hu:bG P e pl) (V:y=(i:Int)) (W:P.underlying t=σ (.slice e)) (hi:aO P e (ak.n α) b z)
  (h:ak.rep m S R w [v] l) (X:l[i]? =σ a) (Y:∀cs,ak.rep m S R w cs a->K (.agg cs.toArray)):
  U P (j5 t v (.int J y)) w λp=>U P (u5 e p) w K:=by
 refine jV V W hi h X λb o cs aa I=>?_;rw[bI hu hi (ak.len I) aa];exact Y cs I
theorem od {g:Nat} {k:Nat} (h:bT w g e k v n xs) (J:v= .slice ν 0 0\/S g):jU S w k v n xs:=by
 obtain⟨h1,⟨rfl,rfl⟩|⟨cap,cs,rfl,U,V,W,Y,X⟩⟩:=h
 .have:xs=[]:=j9 (by simpa using h1);subst this;exact⟨Ξ,0,0,ν,0,rfl,p9 _,X2 _,λh=>absurd h (Nat.lt_irrefl _),λh=>by simp at h,λj v h=>by simp at h⟩
 .refine⟨h1,g,0,_,cap,rfl,V,W,λ_=>rfl,λ_=>J.resolve_left Ξ,λj v I=>?_⟩;rw[X1];have aa:=(x4.1 I).1;rw[<-X,Y3 Ω] at I;exact U.cell I
open Classical in
theorem HN {ap av aw:r9} {b:Nat} {x:x1} {us:List (List x1)} {l l':List α} {G:Nat->ah} {K:x1->x3->Prop} (ay:P.underlying t=σ (.slice e)) (az:P.underlying ap=σ (.slice av)) (hi:aO P e (ak.n α) b z) (aA:z.cells.size=ak.n α)
  (h:bx S R w [v] l) (aB:b5 w (ak.n α) x l'.length us.flatten) (ai:l2 true R G w us l') (aC:∀i j r,i≠j->G i r->¬G j r)
  (ad:∀r,r<w.heap.size->S r->(∀i,¬G i r)/\¬R r) (aD:(l.length+l'.length)*b<=140737488355328) (aE:l.length+l'.length<=9223372036854775807)
  (aF:∀U w',bx (λr=>S r\/(∃i,G i r)\/w.heap.size<=r) R w' [U] (l++l')->ae S w w'->K U w'):ax P (b8 #[t,ap] aw #[v,x]) w K:=by
 obtain⟨vs,g,F,Y,he,I,hm⟩:=iS h;obtain⟨aj,aK,aq⟩:=hm rfl;refine zh ay az hi aA aq aB ai.one aD (by simpa[maxLen] using aE) ?_;intro U af w' aG aH al am;have an:∀r,r=g/\v≠ .slice ν 0 0->S r:=λr ⟨h1,J⟩=>h1▸aj.resolve_left J;have aI:=aq;have ao:(U= .slice ν 0 0)\/(af=g/\S g/\g<w.heap.size)\/af=w.heap.size:=by
  rcases aH with⟨h1,_,J|J⟩|⟨h1,_⟩
  .rcases aj with W|W
   .exact .inl (J▸W)
   .obtain⟨_,⟨X,_⟩|⟨_,_,_,X,_⟩⟩:=aI
    .exact .inl (J▸X)
    .exact .inr (.inl ⟨h1,W,X.lt⟩)
  .exact .inr (.inl ⟨h1,aj.resolve_left J.2,J.1⟩)
  .exact .inr (.inr h1)
 refine aF U w' ⟨U,rfl,vs++us,if U= .slice ν 0 0 then w.heap.size else af,λi r=>if i<l.length then F i r/\r<w.heap.size else G (i-l.length) r/\r<w.heap.size,⟨λi r h=>?_,λ_ i h=>?_,λ_ i j r aJ h1 J=>?_⟩,⟨by simp[he.1,ai.1],λi c a hi ag=>?_⟩,?_,λ_=>⟨?_,aG,?_⟩⟩ (am.mono λr _ h=>an r h)
 .split at h
  .exact .inl (Y.sub i r h.1)
  .exact .inr (.inl ⟨_,h.1⟩)
 .have ab:(if U= .slice ν 0 0 then w.heap.size else af)<w.heap.size:=by split at h<;>exact h.2
  split at ab
  .omega
  .rename_i V;rw[if_neg V] at h;rcases ao with h1|⟨rfl,J,W⟩|h1
   .exact V h1
   .split at h
    .exact Y.top rfl i h.1
    .exact (ad _ W J).1 _ h.1
   .omega
 .split at h1<;>split at J
  .exact Y.gi rfl i j r aJ h1.1 J.1
  .exact (ad r h1.2 (Y.sub i r h1.1)).1 _ J.1
  .exact (ad r h1.2 (Y.sub j r J.1)).1 _ h1.1
  .exact aC (i-l.length) (j-l.length) r Ω h1.1 J.1
 .have au:∀r,r<w.heap.size->R r->¬(r=g/\v≠ .slice ν 0 0):=λr ac h1 J=>(ad r ac (an r J)).2 h1;by_cases ab:i<l.length
  .rw[Y0 (by rw[he.1];exact ab)] at hi;rw[Y0 ab] at ag;simp only[if_pos ab];refine ak.aa (ly (he.2 i c a hi ag)) am λr ac h1 J=>?_;rcases h1 with h1|h1
   .exact Y.top rfl i (J.1▸h1.1)
   .exact au r ac h1 J
  .rw[Y1 (by rw[he.1];omega),he.1] at hi;rw[Y1 Ω] at ag;simp only[if_neg ab];refine ak.aa (ly (ai.2 _ c a hi ag)) am λr ac h1 J=>?_;rcases h1 with h1|h1
   .exact (ad r ac (an r J)).1 _ h1.1
   .exact au r ac h1 J
 .rw[o5,List.flatten_append];refine od al ?_;rcases ao with h1|⟨rfl,J,_⟩|rfl
  .exact .inl h1
  .exact .inr (.inl (.inl J))
  .exact .inr (.inl (.inr (.inr (p9 _))))
 .rcases ao with h1|⟨rfl,J,_⟩|rfl
  .exact .inl h1
  .by_cases V:U= .slice ν 0 0
   .exact .inl V
   .rw[if_neg V];exact .inr (.inl J)
  .split
   .exact .inr (.inr (.inr (p9 _)))
   .exact .inr (.inr (.inr (p9 _)))
 .rw[o5,List.flatten_append];by_cases V:U= .slice ν 0 0
  .subst V;obtain⟨W,⟨_,X⟩|⟨_,_,X,_⟩⟩:=al
   .exact⟨W,.inl ⟨rfl,X⟩⟩
   .cases X
  .rw[if_neg V];exact al
theorem l4 {ac:r9} {b:Nat} {x:x1} {l:List α} {a:α} {A:ah} {K:x1->x3->Prop} (Y:P.underlying t=σ (.slice e)) (hi:aO P e (ak.n α) b z) (ad:z.cells.size=ak.n α)
  (h:bx S R w [v] l) (af:b5 w (ak.n α) x 1 cs) (ag:bx A R w cs a) (aa:∀r,r<w.heap.size->S r->¬(A r\/R r)) (J:(l.length+1)*b<=140737488355328) (ai:l.length+1<=9223372036854775807)
  (aj:∀U w',bx (λr=>S r\/A r\/w.heap.size<=r) R w' [U] (l++[a])->ae S w w'->K U w'):ax P (b8 #[t,t] ac #[v,x]) w K:=by
 refine HN (l':=[a]) (us:=[cs]) (G:=λi r=>i=0/\A r) Y Y hi ad h (by simpa using af) ⟨rfl,λi c b V J=>?_⟩ (λi j r al h1 W=>al (h1.1.trans W.1.symm)) (λr ab I=>⟨λi h=>aa r ab I (.inl h.2),λh=>aa r ab I (.inr h)⟩) (by simpa using J) (by simpa using ai)
  λU w' h1 W=>aj U w' (ak.mono h1 (λr _ h=>h.imp id (Or.imp (λ⟨_,h⟩=>h.2) id)) λ_ _ h=>h) W
 have X:=(x4.1 V).1;have X:i=0:=by simpa using X
 subst X;simp at V J;subst V J;exact ak.mono ag (λr _ h=>⟨rfl,h⟩) λ_ _ h=>h
end
theorem zn:∀ (c:List x1) (i:Nat) (z:Array x1),(i+c.length<=z.size)->((c.zipIdx i).foldl (λcs (x:x1×Nat)=>cs.setIfInBounds x.2 x.1) z).toList=z.toList.take i++c++z.toList.drop (i+c.length)
 |[],i,z,h=>Ξ
 |x::r,i,z,h=>by
  simp only[b9] at h;rw[List.zipIdx_cons,List.foldl_cons,zn r (i+1) _ Θ];simp only[Array.toList_setIfInBounds,b9];rw[List.drop_set_of_lt Ω,List.take_set,r8,x6 Θ];simp only[l9];rw[U9 _ _ Θ];have e:i-(z.toList.take i).length=0:=Θ
  rw[e,show i+1+r.length=i+(r.length+1) by omega];simp
theorem zo {k:Nat} {z:Array x1} (I:z.size=k) (J:v.cells.size=k):Instr.fill (λj=>σ (j*k,k)) z [(0,v)]=σ v.cells:=by
 have h:=zn v.cells.toList 0 z Θ;simp only[Instr.fill,Nat.zero_mul,X1];rw[if_neg Θ];congr 1;apply Array.toList_inj.1;rw[<-Array.foldl_toList,Array.toList_zipIdx,h];simp;omega
section
variable {P:W0} {w:x3} {α β:Type} [ak α] [ak β] {m:Bool} {S R:ah}
theorem jm {b:Nat} {x:x1} {a:α} {A:ah} {K:x1->x3->Prop} (Y:P.underlying t=σ (.slice e)) (hi:aO P e (ak.n α) b z) (ai:ak.n α<=100000)
  (U:x.cells=cs.toArray) (V:bx A R w cs a)
  (aa:∀v w',Ext w w'->bx (λr=>A r\/w.heap.size<=r) R w' [v] [a]->b5 w' (ak.n α) v 1 cs->K v w'):ax P (Z9 t 1 #[(0,x)]) w K:=by
 have ab:=ak.len V;refine jT Y hi Ω (cs:=x.cells) (zo Ξ (by rw[U];simpa using ab)) λg w' aj W I=>?_;have I:ac w' g e cs:=by rw[U] at I;simpa using I
 have hm:bT w' g e (ak.n α) (.slice (σ ⟨g,0,ν⟩) 1 1) 1 cs:=bT.full I Ω (by simp[maxLen]);refine aa _ w' W ⟨_,rfl,[cs],g,λi r=>i=0/\A r/\r<w.heap.size,⟨λi r h=>.inl h.2.1,λ_ i h=>Ω,λ_ i j r ad h1 ae=>ad (h1.1.trans ae.1.symm)⟩,⟨rfl,λi c a' J X=>?_⟩,?_,λ_=>⟨.inr (.inr Ω),e,by simpa using hm⟩⟩ hm.sl
 .have af:i=0:=by simpa using (x4.1 J).1
  subst af;simp at J X;subst J X;exact bq (ak.mono V (λr ag h=>⟨rfl,h,ag⟩) λ_ _ h=>h) W
 .have:=od (S:=λr=>(A r\/w.heap.size<=r)\/R r) hm (.inr (.inl (.inr Ω)));simpa using this
end
theorem ce.range {B:x1->x3->(x1->x3->Prop)->Prop} (n:Nat) (I:Nat->x3->Prop)
  (X:n<=9223372036854775807) (U:I 0 w)
  (V:∀ (i:Nat) (w:x3) (k:x1->x3->Prop),i<n->I i w->(∀w',I (i+1) w'->k (Δ (Y9.wrap ((i:Int)+1))) w')->B (Δ (i:Int)) w k)
  (W:∀ (w:x3) (k:x1->x3->Prop),I n w->B (Δ (n:Int)) w k):ce (Δ 0) w B:=by
 refine⟨λt w=>∃i:Nat,t=Δ (i:Int)/\i<=n/\I i w,λt _=>n-(bV t).toNat,⟨0,rfl,X2 _,U⟩,?_⟩;rintro _ w ⟨i,rfl,hi,h⟩;by_cases J:i<n
 .refine V i w _ J h λw' h'=>⟨⟨i+1,?_,J,h'⟩,?_⟩
  .rw[wrap_i64 Ω Ω];rfl
  .rw[wrap_i64 Ω Ω];simp only[bV];omega
 .have:i=n:=Ω
  subst this;exact W w _ h
theorem bU.range {a:x1} {B:x1->x1->x3->(x1->x1->x3->Prop)->Prop} (n:Nat) (I:Nat->x1->x3->Prop)
  (X:n<=9223372036854775807) (U:I 0 a w)
  (V:∀ (i:Nat) (a:x1) (w:x3) (k:x1->x1->x3->Prop),i<n->I i a w->(∀a' w',I (i+1) a' w'->k a' (Δ (Y9.wrap ((i:Int)+1))) w')->B a (Δ (i:Int)) w k)
  (W:∀ (a:x1) (w:x3) (k:x1->x1->x3->Prop),I n a w->B a (Δ (n:Int)) w k):bU a (Δ 0) w B:=by
 refine⟨λa t w=>∃i:Nat,t=Δ (i:Int)/\i<=n/\I i a w,λa t _=>n-(bV t).toNat,⟨0,rfl,X2 _,U⟩,?_⟩;rintro a _ w ⟨i,rfl,hi,h⟩;by_cases J:i<n
 .refine V i a w _ J h λa' w' h'=>⟨⟨i+1,?_,J,h'⟩,?_⟩
  .rw[wrap_i64 Ω Ω];rfl
  .rw[wrap_i64 Ω Ω];simp only[bV];omega
 .have:i=n:=Ω
  subst this;exact W a w _ h
theorem nR.range {a b:x1} {B:x1->x1->x1->x3->(x1->x1->x1->x3->Prop)->Prop} (n:Nat) (I:Nat->x1->x1->x3->Prop)
  (Y:n<=9223372036854775807) (V:I 0 a b w)
  (W:∀ (i:Nat) (a b:x1) (w:x3) (k:x1->x1->x1->x3->Prop),i<n->I i a b w->(∀a' J w',I (i+1) a' J w'->k a' J (Δ (Y9.wrap ((i:Int)+1))) w')->B a b (Δ (i:Int)) w k)
  (X:∀ (a b:x1) (w:x3) (k:x1->x1->x1->x3->Prop),I n a b w->B a b (Δ (n:Int)) w k):nR a b (Δ 0) w B:=by
 refine⟨λa b t w=>∃i:Nat,t=Δ (i:Int)/\i<=n/\I i a b w,λa b t _=>n-(bV t).toNat,⟨0,rfl,X2 _,V⟩,?_⟩;rintro a b _ w ⟨i,rfl,hi,h⟩;by_cases U:i<n
 .refine W i a b w _ U h λa' J w' h'=>⟨⟨i+1,?_,U,h'⟩,?_⟩
  .rw[wrap_i64 Ω Ω];rfl
  .rw[wrap_i64 Ω Ω];simp only[bV];omega
 .have:i=n:=Ω
  subst this;exact X a b w _ h
theorem q2.range {a b c:x1} {B:x1->x1->x1->x1->x3->(x1->x1->x1->x1->x3->Prop)->Prop} (n:Nat) (I:Nat->x1->x1->x1->x3->Prop)
  (aa:n<=9223372036854775807) (W:I 0 a b c w)
  (X:∀ (i:Nat) (a b c:x1) (w:x3) (k:x1->x1->x1->x1->x3->Prop),i<n->I i a b c w->(∀a' J U w',I (i+1) a' J U w'->k a' J U (Δ (Y9.wrap ((i:Int)+1))) w')->B a b c (Δ (i:Int)) w k)
  (Y:∀ (a b c:x1) (w:x3) (k:x1->x1->x1->x1->x3->Prop),I n a b c w->B a b c (Δ (n:Int)) w k):q2 a b c (Δ 0) w B:=by
 refine⟨λa b c t w=>∃i:Nat,t=Δ (i:Int)/\i<=n/\I i a b c w,λa b c t _=>n-(bV t).toNat,⟨0,rfl,X2 _,W⟩,?_⟩;rintro a b c _ w ⟨i,rfl,hi,h⟩;by_cases V:i<n
 .refine X i a b c w _ V h λa' J U w' h'=>⟨⟨i+1,?_,V,h'⟩,?_⟩
  .rw[wrap_i64 Ω Ω];rfl
  .rw[wrap_i64 Ω Ω];simp only[bV];omega
 .have:i=n:=Ω
  subst this;exact Y a b c w _ h
theorem nS.range {a b c d:x1} {B:x1->x1->x1->x1->x1->x3->(x1->x1->x1->x1->x1->x3->Prop)->Prop} (n:Nat) (I:Nat->x1->x1->x1->x1->x3->Prop)
  (ab:n<=9223372036854775807) (X:I 0 a b c d w)
  (Y:∀ (i:Nat) (a b c d:x1) (w:x3) (k:x1->x1->x1->x1->x1->x3->Prop),i<n->I i a b c d w->(∀a' J U V w',I (i+1) a' J U V w'->k a' J U V (Δ (Y9.wrap ((i:Int)+1))) w')->B a b c d (Δ (i:Int)) w k)
  (aa:∀ (a b c d:x1) (w:x3) (k:x1->x1->x1->x1->x1->x3->Prop),I n a b c d w->B a b c d (Δ (n:Int)) w k):nS a b c d (Δ 0) w B:=by
 refine⟨λa b c d t w=>∃i:Nat,t=Δ (i:Int)/\i<=n/\I i a b c d w,λa b c d t _=>n-(bV t).toNat,⟨0,rfl,X2 _,X⟩,?_⟩;rintro a b c d _ w ⟨i,rfl,hi,h⟩;by_cases W:i<n
 .refine Y i a b c d w _ W h λa' J U V w' h'=>⟨⟨i+1,?_,W,h'⟩,?_⟩
  .rw[wrap_i64 Ω Ω];rfl
  .rw[wrap_i64 Ω Ω];simp only[bV];omega
 .have:i=n:=Ω
  subst this;exact aa a b c d w _ h
section
variable {P:W0} {w:x3} {m:Bool} {S R:ah}
theorem HO (l:Λ):(l.map λx=>[V1 k x]).flatten=ints k l:=by
 induction l with
 |nil=>rfl
 |cons x l I=>simp only[U4,List.flatten_cons,I];rfl
theorem kG {g:Nat} (h:ap .i64 e w g v l):bx (λr=>r=g) R w [v] l:=by
 have J:(l.map λx=>[V1 .i64 x]).flatten=ints .i64 l:=HO l;refine⟨v,rfl,l.map λx=>[Δ x],g,λ_ _=>False,⟨λ_ _ h=>h.elim,λ_ _ h=>h,λ_ _ _ _ _ h=>h.elim⟩,⟨Ξ,λi c a I U=>?_⟩,?_,λ_=>⟨.inr rfl,e,?_⟩⟩
 .rw[x8,U] at I;simp at I;exact I.symm
 .rw[J];exact od h (.inr (.inl rfl))
 .rw[J];exact h
def gT.val (x:gT k):Int:=x
theorem HP (h:bx S R w [v] l):∃g e,ap .i64 e w g v l/\(v= .slice ν 0 0\/S g):=by
 obtain⟨vs,g,F,_,he,I,hm⟩:=iS h;obtain⟨h1,e,J⟩:=hm rfl;rw[zm he] at J;exact⟨g,e,J,h1⟩
end
end Go.Vc
namespace Go.Proofs.YtjjhhcfgfdepdaaGreatDoor
open Go Go.Vc Go.RowKit Go.Proofs Go.Proofs.Tryz
set_option maxRecDepth 100000
def right (k:Int):Prop:=1<=k/\k<=2147483648
def cn (a k:Int):Prop:=right k/\0<=a/\a<=k
instance (k:Int):Decidable (right k):=by unfold right;infer_instance
instance (a k:Int):Decidable (cn a k):=by unfold cn;infer_instance
theorem zp {k:Int}:aj x7 GX [Δ k] w λv w'=>v= .bool (decide (right k))/\Ext w w':=by
 refine aw func180 ?_;simp only[cg,cK,lr,ai];refine⟨λh=>⟨?_,Ext.refl _⟩,λh=>⟨?_,Ext.refl _⟩⟩
 .congr 1;simp[right,h]
 .rw[decide_eq_false];intro I;exact h I.1
theorem jn {k:Int}:aj x7 Gc [Δ a,Δ k] w λv w'=>v= .bool (decide (cn a k))/\Ext w w':=by
 refine aw func122 ?_;simp only[cg];refine zp.mono ?_;rintro _ J _ ⟨rfl,I⟩;simp only[cK,lr,ai];refine⟨λh=>⟨λU=>⟨?_,I⟩,λU=>⟨?_,I⟩⟩,λh=>⟨?_,I⟩⟩
 .congr 1;simp[cn,h,U]
 .rw[decide_eq_false];intro V;exact U V.2.1
 .rw[decide_eq_false];intro V;exact h V.1
theorem HQ {k:Int}:aj x7 GU [Δ k] w λv w'=>v= .bool (decide (right k))/\Ext w w':=by
 refine aw func175 ?_;simp only[cg,bM,lr,ai];refine⟨λh=>⟨?_,Ext.refl _⟩,λh=>⟨?_,Ext.refl _⟩⟩
 .congr 1;have h':1<=k:=Ω
  simp[right,h']
 .rw[decide_eq_false];intro I;have:=I.1;omega
theorem zq {k:Int}:aj x7 FY [Δ a,Δ k] w λv w'=>v= .bool (decide (cn a k))/\Ext w w':=by
 refine aw func107 ?_;simp only[cg];refine HQ.mono ?_;rintro _ J _ ⟨rfl,I⟩;simp only[cK,lr,ai];refine⟨λh=>⟨λU=>⟨?_,I⟩,λU=>⟨?_,I⟩⟩,λh=>⟨?_,I⟩⟩
 .congr 1;simp[cn,h,U]
 .rw[decide_eq_false];intro V;exact U V.2.1
 .rw[decide_eq_false];intro V;exact h V.1
def aG:Λ->Int
 |[]=>1
 |x::r=>x*aG r
theorem zr:∀ (a b:Λ),aG (a++b)=aG a*aG b
 |[],b=>by simp[aG]
 |x::a,b=>by simp[aG,zr a b,Int.mul_assoc]
theorem oe {i:Nat} {x:Int} (h:l[i]? =σ x):aG (l.take (i+1))=aG (l.take i)*x:=by
 rw[r8,h,zr];simp[aG]
def bX (l:Λ):Prop:=l.length<=6/\ ∀x∈l,1<=x/\x<=32
theorem bX.take (h:bX l) (i:Nat):bX (l.take i):=⟨by rw[j0];have:=h.1;omega,λx I=>h.2 x (S8 I)⟩
theorem bX.drop (h:bX l) (i:Nat):bX (l.drop i):=⟨by rw[List.length_drop];have:=h.1;omega,λx I=>h.2 x (List.mem_of_mem_drop I)⟩
theorem kH:∀ (l:Λ),(∀x∈l,1<=x/\x<=32)->1<=aG l/\aG l<=32 ^ l.length
 |[],_=>by simp[aG]
 |x::r,h=>by
  obtain⟨h1,I⟩:=kH r λy J=>h y (.tail _ J);obtain⟨U,V⟩:=h x (.head _);simp only[aG,b9];constructor
  .have:=Int.mul_le_mul U h1 Ω Ω;simpa using this
  .have:=Int.mul_le_mul V I Ω Ω;rw[Int.pow_succ];rw[Int.mul_comm (32 ^ r.length) 32];exact this
theorem prod_bound (h:bX l):1<=aG l/\aG l<=1073741824:=by
 obtain⟨h1,I⟩:=kH l h.2;refine⟨h1,Int.le_trans I ?_⟩;have:(32:Int) ^ l.length<=32 ^ 6:=by
  have J:=h.1
  match l.length,J with
  |0,_=>decide
  |1,_=>decide
  |2,_=>decide
  |3,_=>decide
  |4,_=>decide
  |5,_=>decide
  |6,_=>decide
 simpa using this
def cC:Λ->Λ->Int->Option Int
 |[],[],n=>σ n
 |k::s,v::t,n=>if 0<=v/\v<k then cC s t (n*k+v) else ν
 |_,_,_=>ν
theorem uL:∀ (s t:Λ) (n:Int),s.length≠t.length->cC s t n=ν
 |[],[],_,h=>absurd rfl h
 |[],_::_,_,_=>rfl
 |_::_,[],_,_=>rfl
 |k::s,v::t,n,h=>by
  unfold cC;split
  .exact uL s t _ (by simpa using h)
  .rfl
def cM:Λ->Int->Λ
 |[],_=>[]
 |k::s,n=>(n / aG s) % k::cM s n
theorem iT:∀ (s:Λ) (n:Int),(cM s n).length=s.length
 |[],_=>rfl
 |_::s,n=>by simp[cM,iT s n]
theorem zs:∀ {s:Λ} {n:Int} {i:Nat} {k:Int},s[i]? =σ k->(cM s n)[i]? =σ ((n / aG (s.drop (i+1))) % k)
 |I::s,n,0,k,h=>by simp at h;subst h;simp[cM]
 |I::s,n,i+1,k,h=>by
  simp only[List.getElem?_cons_succ] at h;simp only[cM,List.getElem?_cons_succ,List.drop_succ_cons];exact zs h
theorem m4:∀ {s t:Λ} {m n:Int},(∀x∈s,1<=x/\x<=32)->cC s t m=σ n->m*aG s<=n/\n<(m+1)*aG s
 |[],[],m,n,_,h=>by simp[cC] at h;subst h;simp[aG];omega
 |k::s,v::t,m,n,I,h=>by
  unfold cC at h;split at h
  .rename_i X;have U:=m4 (λx J=>I x (.tail _ J)) h;have Y:=(kH s λx J=>I x (.tail _ J)).1;simp only[aG];have V:m*(k*aG s)=m*k*aG s:=(Int.mul_assoc _ _ _).symm;have W:(m+1)*(k*aG s)=(m*k+k)*aG s:=by rw[<-Int.mul_assoc,Int.add_mul,Int.one_mul]
   rw[V,W];constructor
   .refine Int.le_trans ?_ U.1;exact Int.mul_le_mul_of_nonneg_right Ω Ω
   .refine Int.lt_of_lt_of_le U.2 ?_;exact Int.mul_le_mul_of_nonneg_right Ω Ω
  .cases h
 |[],_::_,_,_,_,h=>by cases h
 |_::_,[],_,_,_,h=>by cases h
def bi:Λ->List (Λ)
 |[]=>[[]]
 |k::s=>(W7 k.toNat).flatMap λ(v:Nat)=>(bi s).map λt=>(v:Int)::t
theorem ij:∀ {s:Λ},(∀x∈s,1<=x/\x<=32)->(bi s).length=(aG s).toNat
 |[],_=>rfl
 |k::s,h=>by
  have J:=ij (s:=s) λx I=>h x (.tail _ I);have hk:=h k (.head _);have U:=(kH s λx I=>h x (.tail _ I)).1;simp only[bi,aG,List.length_flatMap,u7,J];rw[List.map_const',List.length_range,List.sum_replicate_nat,Int.toNat_mul Ω Ω]
theorem rF:∀ {s x:Λ},x∈bi s->x.length=s.length
 |[],x,h=>by simp[bi] at h;subst h;rfl
 |k::s,x,h=>by
  simp only[bi,List.mem_flatMap,o8] at h;obtain⟨v,_,t,I,rfl⟩:=h;simp[rF I]
theorem zt {s x:Λ} (h:(bi s)[j]? =σ x):x.length=s.length:=rF (x5 h)
theorem og (h:aB .i64 w sv l) (I:bX l):
  aj x7 Gp [.agg #[sv]] w λv w'=>v=Δ (aG l)/\Ext w w':=by
 refine aw func135 ?_;refine bm λg w0 aa W X=>?_;rw[aD bt.p 0 X rfl,aV am.u (h.ext W)];refine⟨λn t J=>Ext w J/\ ∃i:Nat,t=Δ i/\i<=l.length/\n=Δ (aG (l.take i)),λ_ t _=>l.length-(bV t).toNat,⟨W,0,rfl,X2 _,rfl⟩,?_⟩;rintro _ _ J ⟨U,i,rfl,hi,rfl⟩;have ab:=I.1;simp only[aP,ai];refine⟨λac=>?_,λad=>⟨?_,U⟩⟩
 .obtain⟨x,V⟩:=aF (l:=l) (i:=i) Ω;rw[ba am.u ag.i Ψ (h.ext U) V];have Y:=prod_bound (I.take (i+1));rw[oe V] at Y;simp only[gh,aL];rw[wrap_i64 Ω Ω,wrap_i64 Ω Ω,<-oe V];refine⟨⟨U,i+1,rfl,Ω,rfl⟩,?_⟩;simp only[bV];omega
 .have:i=l.length:=Ω
  rw[this,o6]
theorem HR {i:Nat} (h:aB .i64 w sv l) (I:bX l) (hi:i<l.length):
  aj x7 GZ [.agg #[sv],Δ i] w λv w'=>v=Δ (aG (l.drop (i+1)))/\Ext w w':=by
 have ae:=I.1;refine aw func183 ?_;refine bm λg w0 af W X=>?_;have J:=h.ext W;simp only[cg,aP,ai];refine⟨λah=>Ω,λ_=>?_⟩;rw[aD bt.p 0 X rfl,aV am.u J];simp only[cK,ai];refine⟨λak=>Ω,λ_=>?_⟩;rw[aD bt.p 0 X rfl];simp only[aL];have Y:Y9.wrap ((i:Int)+1)=((i+1:Nat):Int):=by rw[wrap_i64 Ω Ω];omega
 rw[Y];have aa:=J;obtain⟨_,b,o,base,cap,rfl,al,an,ao,ap⟩:=id J;rw[ii am.u ag.i (l:=i+1) (h:=l.length) (m:=cap) rA jS fO Ω Ω Ω];have U:=b5.part (l:=i+1) (h:=l.length) (m:=cap) aa Ω Ω Ω Ω;generalize ab:(x1.slice (if cap=i+1 then base else V6 (λx=>x.add ((i+1)*1)) base) (l.length-(i+1)) (cap-(i+1)))=q at U ⊢;have ac:((ints .i64 l).drop ((i+1)*1)).take ((l.length-(i+1))*1)=ints .i64 (l.drop (i+1)):=by
  rw[j6 Ξ,U6,ints,<-List.map_drop]
 rw[ac] at U;rw[dc (cs:=#[q]) (by subst ab;kernel_rfl)];refine (og (aB.of U) (I.drop (i+1))).mono ?_;rintro _ V _ ⟨rfl,ad⟩;exact⟨rfl,W.trans ad⟩
def kI (s t:Λ):x1:=match cC s t 0 with
 |some n=>.tuple #[Δ n,Δ 0]
 |none=>.tuple #[Δ 0,Δ 3]
theorem zu {s t:Λ} (h:aB .i64 w sv s) (Y:aB .i64 w aI t) (I:bX s):
  aj x7 Gr [.agg #[sv],aI] w λv w'=>v=kI s t/\Ext w w':=by
 have an:=I.1;refine aw func137 ?_;refine bm λg w0 ao V aa=>?_;rw[aV am.u (Y.ext V),aD bt.p 0 aa rfl,aV am.u (h.ext V)];simp only[bh,ai];refine⟨λap=>⟨?_,V⟩,λac=>?_⟩
 .unfold kI;rw[uL _ _ _ Ω]
 .have ac:s.length=t.length:=Ω
  rw[aV am.u (Y.ext V)];refine⟨λ_ _ n c J=>Ext w0 J/\ ∃ (i:Nat) (m:Int),c=Δ i/\i<=t.length/\n=Δ m/\0<=m/\m<aG (s.take i)/\cC s t 0=cC (s.drop i) (t.drop i) m,λ_ _ _ c _=>t.length-(bV c).toNat,
   ⟨Ext.refl _,0,0,rfl,X2 _,rfl,Int.le_refl _,by simp[aG],rfl⟩,?_⟩
  rintro _ _ _ _ J ⟨X,i,m,rfl,hi,rfl,ad,aq,W⟩;have U:=V.trans X;simp only[aP,ai];refine⟨λau=>?_,λav=>⟨?_,U⟩⟩
  .obtain⟨v,ae,af⟩:∃v,t[i]? =σ v/\t.drop i=v::t.drop (i+1):=⟨t[i],x6 Ω,X7 Ω⟩;obtain⟨k,hk,ah⟩:∃k,s[i]? =σ k/\s.drop i=k::s.drop (i+1):=⟨s[i],x6 Ω,X7 Ω⟩;rw[af,ah] at W;have ak:=prod_bound (I.take (i+1));have ax:=prod_bound (I.take i);have ay:=I.2 k (x5 hk);rw[oe hk] at ak;have ab:¬(0<=v/\v<k)->kI s t= .tuple #[Δ 0,Δ 3]:=λal=>by unfold kI;rw[W];simp[cC,al]
   rw[ba am.u ag.i Ψ (Y.ext U) ae];simp only[cg,aP,ai,bA];refine⟨λaz=>⟨(ab Ω).symm,U⟩,λaA=>?_⟩;rw[aD bt.p 0 (aa.ext X) rfl,ba am.u ag.i Ψ (h.ext U) hk];simp only[cK,ai];refine⟨λaC=>⟨(ab Ω).symm,U⟩,λaE=>?_⟩;rw[aD bt.p 0 (aa.ext X) rfl,ba am.u ag.i Ψ (h.ext U) hk];have aF:0<=m*k/\m*k+k<=aG (s.take i)*k:=by
    constructor
    .exact Int.mul_nonneg ad Ω
    .have:=Int.mul_le_mul_of_nonneg_right (show m+1<=aG (s.take i) by omega) (show 0<=k by omega);rw[Int.add_mul,Int.one_mul] at this;exact this
   simp only[gh,aL];rw[wrap_i64 (x:=m*k) Ω Ω,wrap_i64 (x:=m*k+v) Ω Ω,wrap_i64 (x:=(i:Int)+1) Ω Ω];refine⟨⟨X,i+1,m*k+v,rfl,Ω,rfl,Ω,by rw[oe hk];omega,?_⟩,?_⟩
   .rw[W];simp[cC,show 0<=v/\v<k from⟨Ω,Ω⟩]
   .simp only[bV];omega
  .have:i=t.length:=Ω
   rw[this,List.drop_of_length_le Ω,List.drop_of_length_le Ω] at W;unfold kI;rw[W];rfl
theorem HS {ad ae:x1} {a b:Λ} (h1:b5 w 1 ad I (ints .i64 a)) (af:b5 w 1 ae X (ints .i64 b)):
  aj x7 yB [ad,ae] w λv w'=>v= .bool (decide (a=b))/\Ext w w':=by
 have az:a.length=I:=by simpa using h1.1
 have aB:b.length=X:=by simpa using af.1
 have ah:=h1.le;obtain⟨_,aC,aD,aE,aG,rfl,aH,aI,an,ao⟩:=h1;obtain⟨_,aJ,aK,aM,aN,rfl,aO,aQ,ap,aq⟩:=af;refine aw func42 ?_;simp only[hL am.u,bh,ai];refine⟨λak=>⟨?_,Ext.refl _⟩,λal=>?_⟩
 .rw[decide_eq_false];rintro rfl;omega
 .have al:I=X:=Ω
  refine⟨λt4 Y J=>Ext w J/\ ∃i:Nat,Y=Δ i/\i<=I/\a.take i=b.take i,λ_ Y _=>I-(bV Y).toNat,⟨Ext.refl _,0,rfl,X2 _,rfl⟩,?_⟩;rintro t4 _ J ⟨U,i,rfl,hi,aa⟩;simp only[aP,ai,eh];refine⟨λab V au _ _=>?_,λaR=>⟨?_,U⟩⟩
  .have ab:i<I:=Ω
   have U:=U.trans au;obtain⟨x,ac⟩:=aF (l:=a) (i:=i) Ω;obtain⟨y,W⟩:=aF (l:=b) (i:=i) Ω;have av:=ig U (ao i _ (kF ac));have ax:=ig U (aq i _ (kF W));rw[fm am.u ag.i ab an,U6,aA Ψ av,fm am.u ag.i (al▸ab) ap,U6,aA Ψ ax];simp only[bh,ai,aL];refine⟨λak=>⟨?_,U⟩,λaS=>⟨⟨U,i+1,?_,Ω,uH aa ac W Ω⟩,?_⟩⟩
   .rw[decide_eq_false];rintro rfl;rw[ac] at W;cases W;exact ak rfl
   .rw[wrap_i64 Ω (by simp only[maxLen] at ah;omega)];rfl
   .rw[wrap_i64 Ω (by simp only[maxLen] at ah;omega)];simp only[bV];omega
  .have ay:i=I:=Ω
   subst ay;rw[decide_eq_true];rw[j6 Ω,j6 Ω] at aa;exact aa
theorem HT {s:x1} {a:Λ} (h1:b5 w 1 s n (ints .i64 a)) (ae:n<=1000000):
  aj x7 yV [s] w λv w'=>Ext w w'/\ ∃g,w.heap.size<=g/\bT w' g ag 1 v n (ints .i64 a):=by
 have W:=h1;obtain⟨X,af,ah,ai,ak,rfl,al,an,Y,ao⟩:=h1;refine aw func164 ?_;simp only[rz am.u,cz];refine⟨λU=>⟨Ext.refl _,w.heap.size,p9 _,?_⟩,λ_=>?_⟩
 .have:n=0:=by
   rcases R4 n with h|h
   .exact h
   .rw[Y h] at U;cases U
  subst this;have:ints .i64 a=[]:=j9 (by simpa using X);rw[this];exact bT.nil _ _ _ _
 .refine jT am.u ag.i Ω (cs:=#[]) Ψ ?_;intro g J ap I aa;refine mY (g:=g) am.u am.u ag.i rfl (bT.full aa rfl Ω) (W.ext I) (pv _ _) Ω (by simp only[maxLen];omega) ?_;intro aq ab V au ac ad;refine⟨I.then ad (by rintro r av rfl;omega),ab,?_,?_⟩
  .have:=I.size;omega
  .simpa using ac
theorem HU {ad ae:x1} {a b:Λ} (h1:b5 w 1 ad I (ints .i64 a)) (af:b5 w 1 ae X (ints .i64 b)):
  aj x7 yz [ad,ae] w λv w'=>v= .bool (decide (a=b))/\Ext w w':=by
 have az:a.length=I:=by simpa using h1.1
 have aB:b.length=X:=by simpa using af.1
 have ag:=h1.le;obtain⟨_,aC,aD,aE,aG,rfl,aH,aI,am,an⟩:=h1;obtain⟨_,aJ,aK,aM,aN,rfl,aO,aQ,ao,ap⟩:=af;refine aw func27 ?_;simp only[hL aq.u,bh,ai];refine⟨λah=>⟨?_,Ext.refl _⟩,λak=>?_⟩
 .rw[decide_eq_false];rintro rfl;omega
 .have ak:I=X:=Ω
  refine⟨λt4 Y J=>Ext w J/\ ∃i:Nat,Y=Δ i/\i<=I/\a.take i=b.take i,λ_ Y _=>I-(bV Y).toNat,⟨Ext.refl _,0,rfl,X2 _,rfl⟩,?_⟩;rintro t4 _ J ⟨U,i,rfl,hi,aa⟩;simp only[aP,ai,eh];refine⟨λab V au _ _=>?_,λaR=>⟨?_,U⟩⟩
  .have ab:i<I:=Ω
   have U:=U.trans au;obtain⟨x,ac⟩:=aF (l:=a) (i:=i) Ω;obtain⟨y,W⟩:=aF (l:=b) (i:=i) Ω;have av:=ig U (an i _ (kF ac));have ax:=ig U (ap i _ (kF W));rw[fm aq.u al.i ab am,U6,aA Ψ av,fm aq.u al.i (ak▸ab) ao,U6,aA Ψ ax];simp only[bh,ai,aL];refine⟨λah=>⟨?_,U⟩,λaS=>⟨⟨U,i+1,?_,Ω,uH aa ac W Ω⟩,?_⟩⟩
   .rw[decide_eq_false];rintro rfl;rw[ac] at W;cases W;exact ah rfl
   .rw[wrap_i64 Ω (by simp only[maxLen] at ag;omega)];rfl
   .rw[wrap_i64 Ω (by simp only[maxLen] at ag;omega)];simp only[bV];omega
  .have ay:i=I:=Ω
   subst ay;rw[decide_eq_true];rw[j6 Ω,j6 Ω] at aa;exact aa
theorem HV {s:x1} {a:Λ} (h1:b5 w 1 s n (ints .i64 a)) (ae:n<=1000000):
  aj x7 yW [s] w λv w'=>Ext w w'/\ ∃g,w.heap.size<=g/\bT w' g al 1 v n (ints .i64 a):=by
 have W:=h1;obtain⟨X,af,ag,ah,ai,rfl,ak,am,Y,an⟩:=h1;refine aw func169 ?_;simp only[rz aq.u,cz];refine⟨λU=>⟨Ext.refl _,w.heap.size,p9 _,?_⟩,λ_=>?_⟩
 .have:n=0:=by
   rcases R4 n with h|h
   .exact h
   .rw[Y h] at U;cases U
  subst this;have:ints .i64 a=[]:=j9 (by simpa using X);rw[this];exact bT.nil _ _ _ _
 .refine jT aq.u al.i Ω (cs:=#[]) Ψ ?_;intro g J ao I aa;refine mY (g:=g) aq.u aq.u al.i rfl (bT.full aa rfl Ω) (W.ext I) (pv _ _) Ω (by simp only[maxLen];omega) ?_;intro ap ab V au ac ad;refine⟨I.then ad (by rintro r av rfl;omega),ab,?_,?_⟩
  .have:=I.size;omega
  .simpa using ac
theorem zv {I J:x1} {a b:Λ} (h1:aB .i64 w I a) (U:aB .i64 w J b):
  aj x7 yB [I,J] w λv w'=>v= .bool (decide (a=b))/\Ext w w':=HS h1 U
theorem kJ {s:x1} {a:Λ} (h1:aB .i64 w s a) (I:a.length<=1000000):
  aj x7 yV [s] w λv w'=>Ext w w'/\ ∃g,w.heap.size<=g/\ap .i64 ag w' g v a:=HT h1 I
theorem HW {I J:x1} {a b:Λ} (h1:aB .i64 w I a) (U:aB .i64 w J b):
  aj x7 yz [I,J] w λv w'=>v= .bool (decide (a=b))/\Ext w w':=HU h1 U
theorem uM {s:x1} {a:Λ} (h1:aB .i64 w s a) (I:a.length<=1000000):
  aj x7 yW [s] w λv w'=>Ext w w'/\ ∃g,w.heap.size<=g/\ap .i64 al w' g v a:=HV h1 I
theorem HX {n:Int} (h:aB .i64 w sv l) (I:bX l) (ab:0<=n) (aJ:n<aG l):
  aj x7 Gq [.agg #[sv],Δ n] w λv w'=>Ext w w'/\ ∃aI g,v= .tuple #[aI,Δ 0]/\w.heap.size<=g/\ap .i64 ag w' g aI (cM l n):=by
 have aK:=I.1;have aM:=prod_bound I;refine aw func136 ?_;refine bm λg w0 aN ad U=>?_;have aO:=h.cells;simp only[cg,aP,ai];refine⟨λaQ=>Ω,λ_=>?_⟩;rw[bI bt.p bt.i rfl U.range];refine (og (h.ext ad) I).mono ?_;rintro _ J _ ⟨rfl,W⟩;simp only[cK,ai];refine⟨λaR=>Ω,λ_=>?_⟩;have X:=ad.trans W;rw[aD bt.p 0 (U.ext W) rfl,aV am.u (h.ext X)];refine iR am.u ag.i Ω Ω ?_;intro al V aS ae au;simp only[hL am.u];have av:=X.trans ae;have s0:=ad.size;have aT:=W.size;have aU:=U.lt;refine⟨λt Y=>Ext w Y/\Ext w0 Y/\ ∃i:Nat,t=Δ i/\i<=l.length/\ac Y al ag (ints .i64 ((cM l n).take i++p8 (l.length-i) 0)),λt _=>l.length-(bV t).toNat,
  ⟨av,W.trans ae,0,rfl,X2 _,by simpa using au⟩,?_⟩
 rintro _ Y ⟨af,ah,i,rfl,hi,an⟩;simp only[aP,ai];refine⟨λak=>?_,λaW=>?_⟩
 .have ak:i<l.length:=Ω
  rw[bI bt.p bt.i rfl (U.ext ah).range];refine (HR (h.ext af) I ak).mono ?_;rintro _ aX _ ⟨rfl,ax⟩;simp only[eh];intro aY ay _ _;have aa:=ax.trans ay;have ao:=af.trans aa;obtain⟨k,hk⟩:∃k,l[i]? =σ k:=⟨l[i],x6 Ω⟩;have aZ:=I.2 k (x5 hk);have a1:=prod_bound (I.drop (i+1));have az:0<=n / aG (l.drop (i+1)):=Int.ediv_nonneg ab Ω;have a2:n / aG (l.drop (i+1))<=n:=Int.ediv_le_self _ ab;rw[pu Ω,Int.tdiv_eq_ediv_of_nonneg ab,wrap_i64 Ω Ω,
   aD bt.p 0 ((U.ext ah).ext aa) rfl,ba am.u ag.i Ψ (h.ext ao) hk,
   n7 Ω,Int.tmod_eq_emod_of_nonneg az,fm am.u ag.i ak (λ_=>rfl),U6]
  refine bz ag.i rfl rfl (an.ext aa) (by simp[iT];omega) ?_;intro a6 aq a7 aA;simp only[aL];rw[wrap_i64 Ω Ω];have a8:=ae.size;have bb:=X.size;refine⟨⟨ao.then aq (by rintro r aC rfl;omega),(ah.trans aa).then aq (by rintro r aC rfl;omega),i+1,rfl,Ω,?_⟩,?_⟩
  .have aE:=zs (n:=n) hk;have e:(ints .i64 ((cM l n).take i++p8 (l.length-i) 0)).set (0+i) (Δ (n / aG (l.drop (i+1)) % k))=ints .i64 ((cM l n).take (i+1)++p8 (l.length-(i+1)) 0):=by
    have aF:((cM l n).take i).length=i:=by rw[j0,iT];omega
    rw[X1,ints,<-U1];congr 1;rw[List.set_append,if_neg Ω,aF,V7,show l.length-i=(l.length-(i+1))+1 by omega,List.replicate_succ,List.set_cons_zero,r8,aE];simp
   rw[<-e];exact aA
  .simp only[bV];omega
 .have aH:i=l.length:=Ω
  subst aH;refine⟨af,_,al,rfl,by have:=X.size;omega,ap.of (n:=l.length) (bT.full ?_ (by simp[ints,iT]) (by simp[maxLen];omega))⟩;have e:(cM l n).take l.length++p8 (l.length-l.length) 0=cM l n:=by rw[V7,j6 (by rw[iT];omega)];simp
  rw[<-e];exact an
def hQ (x:Int):Prop:=1<=x/\x<=32
instance (x:Int):Decidable (hQ x):=by unfold hQ;infer_instance
theorem HY {x:Int}:aj x7 rt [Δ x] w λv w'=>v= .bool (decide (¬hQ x))/\Ext w w':=by
 refine aw func241 ?_;simp only[cg,aP,bM,ai];refine⟨λh=>⟨?_,Ext.refl _⟩,λh=>⟨?_,Ext.refl _⟩⟩
 .rw[decide_eq_true];intro I;have:=I.1;omega
 .congr 1;have:(32<x)=(¬hQ x):=propext ⟨λJ I=>by have:=I.2;omega,λJ=>by
   by_cases U:32<x
   .exact U
   .exact absurd ⟨Ω,Ω⟩ J⟩
  simp only[this]
theorem HZ (h:aB .i64 w sv l):
  aj x7 y4 [sv,.func (.func rt) #[] #[]] w λv w'=>Ext w w'/\ ∃n:Int,v=Δ n/\((0<=n)=¬∀x∈l,hQ x):=by
 have ad:=h.le;refine aw func221 ?_;rw[aV am.u h];refine⟨λ_ t J=>Ext w J/\ ∃i:Nat,t=Δ i/\i<=l.length/\ ∀x∈l.take i,hQ x,λ_ t _=>l.length-(bV t).toNat,⟨Ext.refl _,0,rfl,X2 _,Ξ⟩,?_⟩;rintro _ _ J ⟨U,i,rfl,hi,W⟩;simp only[aP,ai];refine⟨λae=>?_,λaf=>⟨U,-1,rfl,?_⟩⟩
 .obtain⟨x,X⟩:=aF (l:=l) (i:=i) Ω;rw[ba am.u ag.i Ψ (h.ext U) X];show aj x7 rt [Δ x] J _;refine HY.mono ?_;rintro _ V _ ⟨rfl,Y⟩;simp only[ai,aL];refine⟨λaa=>⟨U.trans Y,i,rfl,?_⟩,λab=>?_⟩
  .exact propext ⟨λ_ ac=>aa (ac x (x5 X)),λ_=>Ω⟩
  .rw[wrap_i64 Ω Ω];refine⟨⟨U.trans Y,i+1,rfl,Ω,λy I=>?_⟩,?_⟩
   .rw[r8,X] at I;rcases l7.1 I with I|I
    .exact W y I
    .simp at I;subst I;exact Y4.1 ab
   .simp only[bV];omega
 .have:i=l.length:=Ω
  rw[this,o6] at W;exact propext ⟨λh=>Ω,λh=>absurd W h⟩
theorem H0 (h:aB .i64 w sv l):
  aj x7 ux [sv,.func (.func rt) #[] #[]] w λv w'=>v= .bool (decide (¬∀x∈l,hQ x))/\Ext w w':=by
 refine aw func186 ?_;refine (HZ h).mono ?_;rintro _ J _ ⟨I,n,rfl,U⟩;simp only[cK];exact⟨by congr 1;simp only[U],I⟩
def H1 (w:x3) (l:Λ) (v:x1) (w':x3):Prop:=
 Ext w w'/\
   (¬bX l->v= .tuple #[.agg #[.slice ν 0 0],Δ 1])/\
   (bX l->4096<aG l->v= .tuple #[.agg #[.slice ν 0 0],Δ 5])/\
   (bX l->aG l<=4096-> ∃g aI,v= .tuple #[.agg #[aI],Δ 0]/\w.heap.size<=g/\ap .i64 ag w' g aI l)
theorem H2 (h:aB .i64 w sv l):aj x7 Hd [sv] w (H1 w l):=by
 refine aw func211 ?_;refine bN bt.i λaM J a1 U ab=>?_;have a2:=ab.lt;refine aR (λv V=>Ext w V/\Ext J V/\ ∃c:Bool,v= .bool c/\((c=true)=¬bX l)) ?_ ?_
 .rintro _ V ⟨ad,af,c,rfl,ax⟩;simp only[cz];refine⟨λaN=>?_,λaO=>?_⟩
  .have ay:¬bX l:=by rw[<-ax];exact aN
   rw[dc (cs:=#[.slice ν 0 0]) Ψ];refine cc (vs:=[.slice ν 0 0]) bt.i rfl rfl (by simp;rfl) (ab.ext af) ?_;intro a6 aP a7 aQ;rw[fB bt.p bt.i rfl aQ.range];exact⟨ad.then aP (by rintro r ah rfl;omega),λ_=>rfl,λh=>absurd h ay,λh=>absurd h ay⟩
  .have W:bX l:=by
    have az:¬(c=true):=by simp[aO]
    rw[ax] at az;exact Classical.not_not.1 az
   have a8:=W.1;refine (kJ (h.ext ad) Ω).mono ?_;rintro aI aA _ ⟨ak,aC,ba,hm⟩;have aD:=hm.ls.cells;rw[dc (cs:=#[aI]) (by obtain⟨_,_,_,_,_,rfl,_⟩:=hm.ls;kernel_rfl)];refine bN bt.i λgs bb bc al aS=>?_;refine cc (vs:=[aI]) bt.i rfl rfl (by intro u hu;simp at hu;subst hu;exact aD.2) aS ?_;intro an aE bd aF;rw[bI bt.p bt.i rfl aF.range];have be:=ak.size;have bf:=al.size;have bg:=af.size;have bh:ae (λr=>r=gs) aA an:=(al.aa _).trans aE;have ao:Ext aA an:=al.then aE (by rintro r ah rfl;omega);have aT:=(ad.trans ak).trans ao;have aG:ap .i64 ag an aC aI l:=hm.ext ao;refine (og aG.ls W).mono ?_;rintro _ aU _ ⟨rfl,X⟩;have aH:=aT.trans X;have aJ:ac aU aM bt [.slice ν 0 0]:=ab.ext (((af.trans ak).trans ao).trans X);simp only[bM,ai];refine⟨λaW=>?_,λaX=>?_⟩
   .rw[dc (cs:=#[.slice ν 0 0]) Ψ];refine cc (vs:=[.slice ν 0 0]) bt.i rfl rfl (by simp;rfl) aJ ?_;intro aY Y aZ aq;rw[fB bt.p bt.i rfl aq.range];exact⟨aH.then Y (by rintro r ah rfl;omega),λh=>absurd W h,λ_ _=>rfl,λ_ h=>Ω⟩
   .rw[bI bt.p bt.i rfl (aF.ext X).range];refine cc (vs:=[aI]) bt.i rfl rfl (by intro u hu;simp at hu;subst hu;exact aD.2) aJ ?_;intro aY Y aZ aq;rw[fB bt.p bt.i rfl aq.range];have bi:=U.size;exact⟨aH.then Y (by rintro r ah rfl;omega),λh=>absurd W h,λ_ h=>Ω,λ_ _=>⟨aC,aI,rfl,Ω,(aG.ext X).aa Y Ω⟩⟩
 .intro av aK;rw[aV am.u (h.ext U)];simp only[bM,ai];refine⟨λaW=>aK _ _ ⟨U,Ext.refl _,true,rfl,?_⟩,λaX=>?_⟩
  .exact propext ⟨λ_ I=>by have:=I.1;omega,λ_=>rfl⟩
  .refine (H0 (h.ext U)).mono ?_;rintro _ V _ ⟨rfl,aL⟩;refine aK _ _ ⟨U.trans aL,aL,_,rfl,?_⟩;rw[decide_eq_true_eq];exact propext ⟨λau I=>au I.2,λau I=>au ⟨Ω,I⟩⟩
theorem uN {P:W0} (I:0<=a) (h1:a<4294967296):
  U P (aE .and t cx cy (.int .u64 a) (.int .u64 4294967295)) w K=K (.int .u64 a):=U.of λw' _=>by
 obtain⟨n,rfl⟩:=W5 I;have X:n<4294967296:=Ω
 have e:(U3 64 (n:Int) &&& U3 64 4294967295).toNat=n:=by
  rw[BitVec.toNat_and,BitVec.toNat_ofInt,BitVec.toNat_ofInt];have J:((n:Int) % ((2 ^ 64:Nat):Int)).toNat=n:=Ω
  have V:((4294967295:Int) % ((2 ^ 64:Nat):Int)).toNat=2 ^ 32-1:=Φ
  rw[J,V,Nat.and_two_pow_sub_one_eq_mod];omega
 have W:(U3 V9.bits (n:Int) &&& U3 V9.bits 4294967295).toNat=n:=e;simp only[aE,eqGuard,binOp,Op.intBits,W];rw[wrap_u64 Ω Ω];rfl
theorem px {P:W0} (I:0<=a) (h1:a<4294967296):
  U P (aE .shr t cx cy (.int .u64 a) (.int .u64 32)) w K=K (.int .u64 0):=U.of λw' _=>by
 have e:a.fdiv (2 ^ min 32 V9.bits)=0:=by
  have:(2:Int) ^ min 32 V9.bits=4294967296:=rfl;rw[this,Int.fdiv_eq_ediv_of_nonneg _ Ω];omega
 simp[aE,eqGuard,binOp,Op.shift,e]
theorem H3 {x:Int} (U:0<=x/\x<65536) (I:0<=y/\y<65536):
  aj x7 Ht [.int .u64 x,.int .u64 y] w λv w'=>v= .tuple #[.int .u64 0,.int .u64 (x*y)]/\Ext w w':=by
 have W:0<=x*y/\x*y<4294967296:=⟨Int.mul_nonneg U.1 I.1,by
  have:x*y<=65535*65535:=Int.mul_le_mul Ω Ω I.1 Ω;omega⟩
 refine aw func242 ?_;refine aj.mono (K:=λv w'=>v= .tuple #[.int .u64 0,.int .u64 (x*y)]/\Ext w w') ?_ ?_
 .refine aw func257 ?_;rw[uN Ω Ω,px Ω Ω,uN Ω Ω,px Ω Ω];simp only[gh,Int.zero_mul,Int.mul_zero];rw[wrap_u64 (x:=x*y) Ω Ω,show V9.wrap 0=0 from rfl,px (a:=x*y) Ω Ω];simp only[aL,Int.add_zero];rw[show V9.wrap 0=0 from rfl,uN Ω Ω,px Ω Ω];simp only[gh,aL,Int.zero_mul,Int.mul_zero,Int.add_zero,show V9.wrap 0=0 from rfl];rw[px Ω Ω];simp only[gh,aL,Int.add_zero,show V9.wrap 0=0 from rfl];exact⟨trivial,Ext.refl _⟩
 .rintro _ J _ ⟨rfl,V⟩;rw[bf,bg];exact⟨rfl,V⟩
theorem zw {ez:x1} {c:Int} (h:aB .i64 w ez [c]) (aJ:n<65536):
  aj x7 He [ez,Δ n] w λv w'=>Ext w w'/\ ∃g,w.heap.size<=g/\ap .i64 al w' g v (p8 n c):=by
 refine aw func212 ?_;refine db (λJ=>w=J) ?_ ?_
 .rintro _ rfl;rw[aV aq.u h,e7 ag.u n4.u,e7 ag.u n4.u,wrap_u64 Ξ Ξ,wrap_u64 Ω Ω];refine (H3 (x:=([c].length:Int)) Ξ Ω).mono ?_;rintro _ V _ ⟨rfl,ad⟩;rw[bf,bg];have am:(([c].length:Int)*n)=(n:Int):=Ξ
  rw[am];refine db (λI=>V=I) ?_ ?_
  .rintro _ rfl;rw[e7 n4.u ag.u,wrap_i64 Ω Ω];refine iR aq.u al.i Ω Ω ?_;intro g aK aM an ao;have ae:=ad.trans an;have aN:=ad.size;refine zi aq.u al.i ao (o:=0) (λ_=>rfl) Ξ (h.ext ae) (pv _ _) ?_;intro aO au aQ af;have ax:=ae.then au (by rintro r ay rfl;omega);have st:over (ints .i64 (p8 n 0)) 0 ((ints .i64 [c]).take n)=ints .i64 (p8 (min 1 n) c++p8 (n-min 1 n) 0):=by
    rcases R4 n with rfl|U
    .simp[over]
    .rw[j6 Θ,l1 Θ];have:min 1 n=1:=Ω
     simp[this,ints]
   rw[st] at af;refine⟨λt W=>Ext w W/\ ∃i:Nat,t=Δ i/\i<=n/\(0<n->0<i)/\ac W g al (ints .i64 (p8 i c++p8 (n-i) 0)),λt _=>n-(bV t).toNat,
    ⟨ax,min 1 n,Ξ,Ω,Ω,af⟩,?_⟩
   rintro _ W ⟨X,i,rfl,hi,aT,Y⟩;simp only[hL aq.u,aP,ai,eh];refine⟨λaz aA aa _ _=>?_,λaU=>?_⟩
   .have az:i<n:=Ω
    have ah:=Y.ext aa;rw[ii aq.u al.i (l:=i) (h:=n) (m:=n) rA jS fO Ω Ω Ω,
     ii aq.u al.i (l:=0) (h:=i) (m:=n) jR rB fO Ω Ω Ω]
    have aC:b5 aA 1 (.slice (σ ⟨g,0,ν⟩) n n) n (ints .i64 (p8 i c++p8 (n-i) 0)):=(bT.full ah (by simp<;>omega) (by simp[maxLen]<;>omega)).sl;have U:=aC.part (l:=0) (h:=i) (m:=n) Ω Ω Ω Ω;have aD:((ints .i64 (p8 i c++p8 (n-i) 0)).drop (0*1)).take ((i-0)*1)=ints .i64 (p8 i c):=by
     simp[ints]
    rw[aD] at U;refine zi aq.u al.i ah (o:=i) (λ_=>?_) (by simp<;>omega) U (pv _ _) ?_
    .rw[if_neg Ω];simp[T2]
    .intro aW aE aX ak;have aY:=X.size;have aZ:=aa.size;have aF:over (ints .i64 (p8 i c++p8 (n-i) 0)) i ((ints .i64 (p8 i c)).take (n-i))=ints .i64 (p8 (i+min i (n-i)) c++p8 (n-(i+min i (n-i))) 0):=by
      apply Y8;intro j;rw[n8 _ _ _ (by simp[ints]<;>omega)];simp only[ints,c8,List.map_replicate,List.getElem?_append,List.getElem?_take,List.getElem?_replicate,j0,List.length_replicate]
      repeat' split
      all_goals first|rfl|omega
     rw[aF] at ak;have aG:min (i-0) (n-i)=min i (n-i):=Ω
     simp only[aL,aG];have aH:Y9.wrap ((i:Int)+((min i (n-i):Nat):Int))=((i+min i (n-i):Nat):Int):=by rw[wrap_i64 Ω Ω];omega
     rw[aH];refine⟨⟨(X.trans aa).then aE (by rintro r ay rfl;omega),_,rfl,Ω,Ω,ak⟩,?_⟩;simp only[bV,u9];omega
   .have:i=n:=Ω
    subst this;rw[V7,List.replicate_zero,U5] at Y;exact⟨X,g,Ω,ap.of (n:=i) (bT.full Y Ξ (by simp[maxLen];omega))⟩
  .intro av ab;refine aR (λv I=>v= .bool false/\V=I) ?_ ?_
   .rintro _ _ ⟨rfl,rfl⟩;rw[aS];exact ab _ rfl
   .intro a1 aI;simp only[bM,ai];refine⟨λh=>Ω,λ_=>aI _ _ ⟨?_,rfl⟩⟩;rw[decide_eq_false];omega
 .intro av ab;simp only[aP,ai];exact⟨λh=>Ω,λ_=>ab _ rfl⟩
def leads (v:x1) (r:Nat):Prop:=∃a n c,v= .slice (σ a) n c/\a.block=r
theorem bR {g:Nat} (h:ap k e w g v l) {r:Nat} (I:leads v r):r=g/\g<w.heap.size:=by
 obtain⟨a,n,c,rfl,rfl⟩:=I;obtain⟨_,⟨h,_⟩|⟨cap,cs,h,J,_⟩⟩:=h
 .cases h
 .cases h;exact⟨rfl,J.lt⟩
theorem bn {g:Nat} (h:ap k e w g v l) (I:ae S w w') (J:∀r,leads v r->¬S r):ap k e w' g v l:=by
 refine⟨h.1,h.2.imp id λ⟨cap,cs,h1,U,V⟩=>⟨cap,cs,h1,U.aa I (J g ⟨_,_,_,h1,rfl⟩),V⟩⟩
def c0 (w:x3) (g I:Nat) (sv:x1) (af:Λ) (k:Int) (cs:Λ):Prop:=
 (∃aW gs,ac w g cR [sv,Δ k,aW]/\ap .i64 ag w gs sv af/\ap .i64 al w I aW cs)/\(g≠I/\¬leads sv I/\aG af<=4096)/\bX af/\cs.length=(aG af).toNat
theorem c0.ext {g J:Nat} {k:Int} {cs:Λ} (h:c0 w g J sv af k cs) (I:Ext w w'):c0 w' g J sv af k cs:=by
 obtain⟨⟨aW,gs,h1,U,V⟩,W⟩:=h;exact⟨⟨aW,gs,h1.ext I,U.ext I,V.ext I⟩,W⟩
def zx (w:x3) (l:Λ) (k I:Int) (v:x1) (w':x3):Prop:=
 Ext w w'/\
  (¬bX l->v= .tuple #[.pointer ν,Δ 1])/\
  (bX l->4096<aG l->v= .tuple #[.pointer ν,Δ 5])/\
  (bX l->aG l<=4096->¬cn I k->v= .tuple #[.pointer ν,Δ 3])/\
  (bX l->aG l<=4096->cn I k-> ∃g J sv,v= .tuple #[Γ g,Δ 0]/\w.heap.size<=g/\w.heap.size<=J/\(∀r,leads sv r->w.heap.size<=r)/\
   c0 w' g J sv l k (p8 (aG l).toNat I))
theorem uO {k af:Int} (h:aB .i64 w sv l):aj x7 GM [sv,Δ k,Δ af] w (zx w l k af):=by
 refine aw func166 ?_;refine (H2 h).mono ?_;rintro v J _ ⟨ay,aM,aN,aO⟩;obtain⟨aI,e,rfl,aP,he⟩:∃ (aI:x1) (e:Int),v= .tuple #[.agg #[aI],Δ e]/\aI.oneCell'=true/\
   ((e=1/\¬bX l)\/(e=5/\bX l/\4096<aG l)\/(e=0/\bX l/\aG l<=4096/\ ∃g,w.heap.size<=g/\ap .i64 ag J g aI l)):=by
  by_cases I:bX l
  .by_cases ae:aG l<=4096
   .obtain⟨g,aI,rfl,h1,az⟩:=aO I ae;exact⟨aI,0,rfl,az.ls.cells.2,.inr (.inr ⟨rfl,I,ae,g,h1,az⟩)⟩
   .exact⟨_,_,aN I Ω,rfl,.inr (.inl ⟨rfl,I,Ω⟩)⟩
  .exact⟨_,_,aM I,rfl,.inl ⟨rfl,I⟩⟩
 rw[bf,bg];refine bN bt.i λbk V bl aQ aR=>?_;refine cc (vs:=[aI]) bt.i rfl rfl (by intro u hu;simp at hu;subst hu;exact aP) aR ?_;intro aS aT bn aU;have aA:Ext J aS:=aQ.then aT (by rintro r Y rfl;omega);have aC:=ay.trans aA;simp only[bh,ai];refine⟨λaV=>⟨aC,?_⟩,λbo=>?_⟩
 .rcases he with⟨rfl,ah⟩|⟨rfl,I,ae⟩|⟨rfl,_⟩
  .exact⟨λ_=>rfl,λh=>absurd h ah,λh=>absurd h ah,λh=>absurd h ah⟩
  .exact⟨λh=>absurd I h,λ_ _=>rfl,λ_ h=>Ω,λ_ h=>Ω⟩
  .exact absurd rfl aV
 .obtain⟨rfl,I,ae,gs,bp,hm⟩:e=0/\bX l/\aG l<=4096/\ ∃g,w.heap.size<=g/\ap .i64 ag J g aI l:=by
   rcases he with⟨rfl,ah⟩|⟨rfl,I,ae⟩|h
   .omega
   .omega
   .exact h
  have bq:=prod_bound I;refine jn.mono ?_;rintro _ br _ ⟨rfl,am⟩;have aD:=aC.trans am;simp only[bu,cz];refine⟨λaW=>⟨aD,λh=>absurd I h,λ_ h=>Ω,λ_ _ _=>rfl,λ_ _ h=>by simp[h] at aW⟩,λaX=>?_⟩;have aY:cn af k:=by simpa using aX
  simp only[cg,eh];intro aE ao _ _;have aZ:=aD.trans ao;have ak:=(aA.trans am).trans ao;have aF:=(aU.ext am).ext ao;rw[bI bt.p bt.i rfl aF.range,bI bt.p bt.i rfl aF.range];have bw:=ay.size;have bx:=ak.size;have aH:((aG l).toNat:Int)=aG l:=Ω
  have aJ:∀ {ac:x3} {ab:x1} {ad:Nat},Ext aE ac->aE.heap.size<=ad->ap .i64 al ac ad ab (p8 (aG l).toNat af)->
    U x7 (Instr.build cR #[(0,.agg #[aI]),(1,Δ k),(2,ab)]) ac λa1=>ax x7 (Instr.box cR a1) ac λa2 aK=>zx w l k af (.tuple #[a2,Δ 0]) aK:=by
   intro ac ab ad aa aL Y;rw[dc (cs:=#[aI,Δ k,ab]) (by
    obtain⟨_,_,_,_,_,rfl,_⟩:=Y.ls;obtain⟨_,_,_,_,_,rfl,_⟩:=hm.ls;kernel_rfl)]
   refine bm λg aK bz au a6=>?_;have bA:=aa.size;have a7:leads ab ad:=by
    obtain⟨bB,⟨_,a8⟩|⟨cap,cs,rfl,_⟩⟩:=Y
    .simp at a8;omega
    .exact⟨_,_,_,rfl,rfl⟩
   have bC:=(bR Y a7).2;refine⟨(aZ.trans aa).trans au,λh=>absurd I h,λ_ h=>Ω,λ_ _ h=>absurd aY h,λ_ _ _=>⟨g,ad,aI,rfl,Ω,Ω,λr ba=>?_,⟨ab,gs,a6,((hm.ext ak).ext aa).ext au,Y.ext au⟩,⟨Ω,λbb=>?_,ae⟩,I,Ξ⟩⟩
   .have:=(bR hm ba).1;omega
   .have:=bR hm bb;omega
  constructor
  .refine en aq.u al.i rfl λez an bc bd W av=>⟨.inl W,?_⟩;refine (og ((hm.ext ak).ext W).ls I).mono ?_;rintro _ be _ ⟨rfl,X⟩;refine⟨.inl (W.trans X),?_⟩;rw[<-aH];refine (zw (av.ext X).ls Ω).mono ?_;rintro ab ac _ ⟨aa,ad,aL,Y⟩;have bi:=W.size;have bj:=X.size;exact⟨.inl ((W.trans X).trans aa),aJ ((W.trans X).trans aa) Ω Y⟩
  .refine (og (hm.ext ak).ls I).mono ?_;rintro _ bc _ ⟨rfl,W⟩;refine⟨.inl W,?_⟩;refine en aq.u al.i rfl λez an be bd X av=>⟨.inl (W.trans X),?_⟩;rw[<-aH];refine (zw av.ls Ω).mono ?_;rintro ab ac _ ⟨aa,ad,aL,Y⟩;have bi:=W.size;have bj:=X.size;exact⟨.inl ((W.trans X).trans aa),aJ ((W.trans X).trans aa) Ω Y⟩
theorem m7 {g:Nat} {I:List x1} {o:Nat} (h:ac w g e cs) (J:∀j v,I[j]? =σ v->cs[o+j]? =σ v):w.rangeAt g o I:=λj v U=>h.cell (J j v U)
theorem zy {g W:Nat} {t:Λ} {k:Int} {cs:Λ} (h:c0 w g W sv af k cs) (X:aB .i64 w aI t):
  aj x7 Hi [Γ g,aI] w λv w'=>v=kI af t/\Ext w w':=by
 obtain⟨⟨aW,gs,Y,hm,aa⟩,_,I,_⟩:=h;refine aw func217 ?_;rw[cV eH.u];simp only[Z3,aS];rw[bQ,aT cR.p rfl,bI (cs:=[sv]) bt.p bt.i rfl (m7 Y (by
  intro j v U
  match j,U with
  |0,U=>exact U))]
 refine (zu hm.ls X I).mono ?_;rintro _ J _ ⟨rfl,V⟩;unfold kI;cases cC af t 0 with
 |none=>rw[bf,bg];exact⟨rfl,V⟩
 |some n=>rw[bf,bg];exact⟨rfl,V⟩
def oh (af t cs:Λ):x1:=match cC af t 0 with
 |some n=>.tuple #[Δ (cs.getD n.toNat 0),Δ 0]
 |none=>.tuple #[Δ 0,Δ 3]
theorem zz {t cs:Λ} {n:Int} (I:bX af) (J:cs.length=(aG af).toNat) (h:cC af t 0=σ n):n=(n.toNat:Int)/\n.toNat<cs.length:=by
 have:=m4 I.2 h;simp only[Int.zero_mul,Int.zero_add,Int.one_mul] at this;omega
theorem uP {g W:Nat} {t:Λ} {k:Int} {cs:Λ} (h:c0 w g W sv af k cs) (X:aB .i64 w aI t):
  aj x7 Ha [Γ g,aI] w λv w'=>v=oh af t cs/\Ext w w':=by
 refine aw func202 ?_;refine (zy h X).mono ?_;rintro _ J _ ⟨rfl,U⟩;obtain⟨⟨aW,gs,Y,hm,aa⟩,_,I,ab⟩:=h.ext U;unfold kI oh;cases hi:cC af t 0 with
 |none=>
  rw[bf,bg];simp only[bh,ai];exact⟨λ_=>⟨trivial,U⟩,λh=>by simp at h⟩
 |some n=>
  obtain⟨ac,V⟩:=zz I ab hi;rw[bf,bg];simp only[bh,ai];refine⟨λh=>absurd rfl h,λ_=>?_⟩;rw[aM cR.p 2 Y rfl,
   fP ac aq.u al.i Ψ aa.ls (x6 V)]
  refine⟨?_,U⟩;rw[u4,x6 V];rfl
def rG (af t:Λ) (k c:Int) (cs:Λ):Λ:=match cC af t 0 with
 |some n=>if cn c k then cs.set n.toNat c else cs
 |none=>cs
def zA (af t:Λ) (k c:Int):Int:=match cC af t 0 with
 |some _=>if cn c k then 0 else 3
 |none=>3
theorem H4 {g:Nat} {t:Λ} {k c:Int} {cs:Λ} (h:c0 w g X sv af k cs) (an:aB .i64 w aI t):
  aj x7 GO [Γ g,aI,Δ c] w λv w'=>v=Δ (zA af t k c)/\ae (λr=>r=X) w w'/\c0 w' g X sv af k (rG af t k c cs):=by
 refine aw func168 ?_;refine (zy h an).mono ?_;rintro _ J _ ⟨rfl,U⟩;have h1:=h.ext U;obtain⟨⟨aW,gs,W,hm,Y⟩,_,I,ab⟩:=h1;unfold kI zA rG;cases hi:cC af t 0 with
 |none=>
  rw[bf,bg];simp only[bh,ai];exact⟨λ_=>⟨trivial,U.aa _,h.ext U⟩,λh=>by simp at h⟩
 |some n=>
  obtain⟨aC,aD⟩:=zz I ab hi;rw[bf,bg];simp only[bh,ai];refine⟨λh=>absurd rfl h,λ_=>?_⟩;rw[aM cR.p 1 W rfl];refine jn.mono ?_;rintro _ V _ ⟨rfl,ac⟩;have ag:=(h.ext U).ext ac;by_cases ah:cn c k
  .simp only[ah,decide_true,bu,Z8,aS,if_true];obtain⟨⟨aW,gs,W,hm,Y⟩,⟨ao,ak⟩,I,ab⟩:=ag;have aE:=Y;obtain⟨aF,⟨rfl,aG⟩|⟨cap,full,rfl,ap,au,av,ax,am⟩⟩:=Y
   .omega
   .rw[aM cR.p 2 W rfl,
     ze (i:=n) aq.u al.i Ω Ω (λ_=>rfl)]
    refine bz al.i rfl rfl ap Ω ?_;intro aH ad aJ ay;refine⟨trivial,((U.trans ac).aa _).trans ad,⟨_,gs,W.aa ad Ω,bn hm ad (λr az aA=>ak.1 (aA▸az)),?_⟩,⟨ao,ak⟩,I,by simp[ab]⟩;refine⟨Ξ,.inr ⟨cap,full.set (0+n.toNat*1) (Δ c),?_,ay,by simpa using au,av,by simpa using ax,?_⟩⟩
    .simp
    .simp only[Z4,X1,U6] at am ⊢;rw[List.take_set,am,ints,ints,U1]
  .simp only[ah,decide_false,bu,X3,bA,if_false];exact⟨trivial,(U.trans ac).aa _,ag⟩
def cp (b:Int):Bool:=decide (b=32\/b=9\/b=10\/b=13)
def bE (b:Int):Bool:=decide (33<=b/\b<=126)
def m8:Nat->Λ->List (Λ)×Bool
 |0,_=>([],true)
 |n+1,p=>
  match p.dropWhile cp with
  |[]=>([],true)
  |b::q=>
   if bE b then
    match (b::q).dropWhile bE with
    |[]=>([(b::q).takeWhile bE],true)
    |c::r=>if cp c then (((b::q).takeWhile bE)::(m8 n (c::r)).1,(m8 n (c::r)).2) else ([],false)
   else ([],false)
def lex (p:Λ):List (Λ)×Bool:=m8 (p.length+1) p
theorem oi (f:Int->Bool):∀ (l:Λ),(l.dropWhile f).length<=l.length
 |[]=>p9 _
 |x::l=>by
  rw[List.dropWhile_cons];split
  .exact Y7 (oi f l) (Nat.le_succ _)
  .exact p9 _
theorem rH {f:Int->Bool} {x:Int} (h:f x=true):((x::l).dropWhile f).length<=l.length:=by
 rw[List.dropWhile_cons,if_pos h];exact oi f l
theorem zB:∀ {n m:Nat} {p:Λ},p.length<n->p.length<m->m8 n p=m8 m p
 |n+1,m+1,p,W,hm=>by
  unfold m8;have h1:=oi cp p;cases U:p.dropWhile cp with
  |nil=>rfl
  |cons b q=>
   rw[U] at h1;simp only;by_cases I:bE b=true
   .rw[if_pos I,if_pos I];have J:=rH (l:=q) I;cases V:(b::q).dropWhile bE with
    |nil=>rfl
    |cons c r=>
     rw[V] at J;simp only[b9] at h1 J;simp only;rw[zB (n:=n) (m:=m) (p:=c::r) (by rw[b9];omega) (by rw[b9];omega)]
   .rw[if_neg I,if_neg I]
theorem jW (p:Λ):lex p=match p.dropWhile cp with
  |[]=>([],true)
  |b::q=>
   if bE b then
    match (b::q).dropWhile bE with
    |[]=>([(b::q).takeWhile bE],true)
    |c::r=>if cp c then (((b::q).takeWhile bE)::(lex (c::r)).1,(lex (c::r)).2) else ([],false)
   else ([],false):=by
 unfold lex
 conv=>lhs;unfold m8
 have h1:=oi cp p;cases U:p.dropWhile cp with
 |nil=>rfl
 |cons b q=>
  rw[U] at h1;simp only;by_cases I:bE b=true
  .rw[if_pos I,if_pos I];have J:=rH (l:=q) I;cases V:(b::q).dropWhile bE with
   |nil=>rfl
   |cons c r=>
    rw[V] at J;simp only[b9] at h1 J;simp only;rw[zB (n:=p.length) (m:=(c::r).length+1) (p:=c::r) (by rw[b9];omega) Ω]
  .rw[if_neg I,if_neg I]
theorem py:∀ (n:Nat) (p:Λ),p.length<=n->(lex p).1.length<=p.length
 |n,p,X=>by
  rw[jW];have h1:=oi cp p;cases V:p.dropWhile cp with
  |nil=>simp
  |cons b q=>
   rw[V] at h1;simp only;by_cases I:bE b=true
   .rw[if_pos I];have J:=rH (l:=q) I;cases W:(b::q).dropWhile bE with
    |nil=>simp only[b9,List.length_nil] at h1 ⊢;omega
    |cons c r=>
     rw[W] at J;simp only[b9] at h1 J;simp only;by_cases U:cp c=true
     .rw[if_pos U]
      match n with
      |0=>omega
      |n+1=>
       have:=py n (c::r) (by rw[b9];omega);simp only[b9] at this ⊢;omega
     .rw[if_neg U];simp
   .rw[if_neg I];simp
theorem rI:∀ (n:Nat) (p:Λ),p.length<=n-> ∀w∈(lex p).1,w≠[]/\(∀b∈w,bE b=true)/\w.length<=p.length
 |n,p,ab,w,hw=>by
  rw[jW] at hw;have h1:=oi cp p;cases J:p.dropWhile cp with
  |nil=>rw[J] at hw;simp at hw
  |cons b q=>
   rw[J] at h1 hw;simp only at hw;have Y:(b::q).length<=p.length:=h1;by_cases I:bE b=true
   .rw[if_pos I] at hw;have U:=rH (l:=q) I;have V:(b::q).takeWhile bE≠[]/\(∀x∈(b::q).takeWhile bE,bE x=true)/\((b::q).takeWhile bE).length<=p.length:=
     ⟨by rw[List.takeWhile_cons,if_pos I];simp,λx aa=>List.all_takeWhile (l:=b::q) (p:=bE) |> List.all_eq_true.1 |> λh=>h x aa,Y7 (List.takeWhile_sublist _).length_le Y⟩
    cases W:(b::q).dropWhile bE with
    |nil=>
     rw[W] at hw;simp only[n9] at hw;subst hw;exact V
    |cons c r=>
     rw[W] at U hw;simp only[b9] at h1 U;simp only at hw;by_cases X:cp c=true
     .rw[if_pos X] at hw;rcases V0.1 hw with rfl|hw
      .exact V
      .match n with
       |0=>omega
       |n+1=>
        have:=rI n (c::r) (by rw[b9];omega) w hw;exact⟨this.1,this.2.1,Y7 this.2.2 (by rw[b9];omega)⟩
     .rw[if_neg X] at hw;simp at hw
   .rw[if_neg I] at hw;simp at hw
def ao:Int:=4611686018427387904
def fQ (b:Int):Bool:=decide (48<=b/\b<=57)
def eP (n b:Int):Int:=min ao (10*n+(b-48))
def jX:Λ->Option Int
 |[]=>ν
 |l=>if l.all fQ then σ (l.foldl eP 0) else ν
def fR:Λ->Option Int
 |45::l=>(jX l).map λn=>-n
 |l=>jX l
theorem H5 {n b:Int} (J:0<=n) (I:fQ b=true):0<=eP n b/\eP n b<=ao:=by
 have I:=of_decide_eq_true I;unfold eP ao;omega
theorem rJ:∀ {l:Λ} {n:Int},l.all fQ=true->0<=n/\n<=ao->0<=l.foldl eP n/\l.foldl eP n<=ao
 |[],n,_,I=>I
 |b::l,n,h,I=>by
  rw[List.all_cons,U2] at h;exact rJ (l:=l) h.2 (H5 I.1 h.1)
structure az where
 toks:List (Λ)
 told:Int
 big:Bool
 shared:List (Λ×List (Λ×Int))
deriving DecidableEq
def dJ (s:az):Option (Λ×az):=match s.toks with
 |[]=>ν
 |w::l=>σ (w,{s with toks:=l})
def bc (lo hi:Int) (s:az):Option (Int×az):=match dJ s with
 |none=>ν
 |some (w,s)=>match fR w with
  |none=>ν
  |some n=>if lo<=n/\n<=hi then σ (n,s) else ν
def a8 (b:Bool) (s:az):az:={s with big:=s.big||b}
def cI {α:Type} (f:List α->az->Option (α×az)):Nat->List α->az->Option (List α×az)
 |0,acc,s=>σ (acc,s)
 |n+1,acc,s=>match f acc s with
  |none=>ν
  |some (a,s)=>cI f n (acc++[a]) s
def eQ (n:Int) (I:Nat) (s:az):Option (Λ×az):=cI (λacc s=>match bc 0 (n-1) s with
 |none=>ν
 |some (v,s)=>if v∈acc then ν else σ (v,s)) I [] s
def ik:Λ->Λ->az->Option (Λ×az)
 |[],acc,s=>σ (acc,s)
 |k::l,acc,s=>match bc 0 (k-1) s with
  |none=>ν
  |some (v,s)=>ik l (acc++[v]) s
def dK (sizes:Λ) (acc:List (Λ×Int)) (s:az):Option ((Λ×Int)×az):=match ik sizes [] s with
 |none=>ν
 |some (t,s)=>match bc 0 ao s with
  |none=>ν
  |some (c,s)=>if t∈acc.map (·.1) then ν else σ ((t,c),s)
def dL (sizes:Λ) (s:az):Option (List (Λ×Int)×az):=match bc (-ao) ao s with
 |none=>ν
 |some (n,s)=>
  if n<0 then match s.shared[(-n-1).toNat]? with
   |none=>ν
   |some (z,l)=>if z=sizes then σ (l,s) else ν
  else cI (dK sizes) n.toNat [] (a8 (decide (16384<min (s.told+n) ao)) {s with told:=min (s.told+n) ao})
def de (sizes:Λ):Bool:=decide (4096<aG (sizes.map λk=>min k 4097))
structure cm where
 scope:Λ
 sizes:Λ
 other:Int
 lines:List (Λ×Int)
deriving DecidableEq
def cX (all:Λ) (s:az):Option (cm×az):=match bc (-ao) ao s with
 |none=>ν
 |some (a,s)=>match eQ all.length a.natAbs s with
  |none=>ν
  |some (scope,s)=>
   let sizes:=scope.map λv=>all.getD v.toNat 0
   match bc 0 ao (a8 (decide (6<a.natAbs)||de sizes) s) with
   |none=>ν
   |some (other,s)=>match dL sizes s with
    |none=>ν
    |some (lines,s)=>σ (⟨scope,sizes,other,lines⟩,if a<0 then {s with shared:=s.shared++[(sizes,lines)]} else s)
def fC (most:Int) (_:Λ) (s:az):Option (Int×az):=match bc 1 most s with
 |none=>ν
 |some (z,s)=>σ (z,a8 (decide (32<z)) s)
structure bY where
 name:Λ
 k:Int
 sizes:Λ
 funs:List cm
deriving DecidableEq
def hr (s:az):Option (bY×az):=match dJ s with
 |none=>ν
 |some (name,s)=>match bc 1 ao (a8 (decide (64<name.length)) s) with
  |none=>ν
  |some (n,s)=>match bc 1 ao (a8 (decide (64<n)) s) with
   |none=>ν
   |some (most,s)=>match bc 0 ao s with
    |none=>ν
    |some (I,s)=>match bc 1 ao (a8 (decide (256<I)) s) with
     |none=>ν
     |some (k,s)=>match cI (fC most) n.toNat [] (a8 (decide (2147483648<k)) s) with
      |none=>ν
      |some (sizes,s)=>match cI (λ_ s=>cX sizes s) I.toNat [] s with
       |none=>ν
       |some (funs,s)=>σ (⟨name,k,sizes,funs⟩,s)
def fS (p:Λ):Option bY:=if 65536<p.length then ν else match hr ⟨(lex p).1,0,false,[]⟩ with
 |none=>ν
 |some (f,s)=>if s.toks=[]/\(lex p).2=true/\s.big=false then σ f else ν
def l5 (n:Int) (I:Bool) (v:Int):Prop:=0<=n/\n<=4611686018427387909/\(I=true->v=ao)/\(I=false->v=min ao n)
theorem H6 {n b v:Int} {I:Bool} (h:l5 n I v) (X:48<=b/\b<=57):
  l5 (if I=true\/461168601842738790<n then n else 10*n+(b-48)) (I||decide (461168601842738790<n)) (eP v b):=by
 obtain⟨h1,U,V,W⟩:=h;unfold eP l5 ao at*;cases I with
 |true=>
  have:=V rfl;rw[if_pos (.inl rfl)];exact⟨h1,U,λ_=>Ω,λh=>by cases h⟩
 |false=>
  have:=W rfl;by_cases J:461168601842738790<n
  .rw[if_pos (.inr J),decide_eq_true J];exact⟨h1,U,λ_=>Ω,λh=>by cases h⟩
  .rw[if_neg (by simp[J]),decide_eq_false J];exact⟨Ω,Ω,(λh=>by cases h),λ_=>Ω⟩
theorem H7:l5 0 false 0:=by unfold l5 ao;exact⟨Ω,Ω,(λh=>by cases h),λ_=>Ω⟩
theorem H8 {n v:Int} {I:Bool} (h:l5 n I v):v=if I=true\/4611686018427387904<n then 4611686018427387904 else n:=by
 obtain⟨h1,W,U,V⟩:=h;unfold ao at*;cases I with
 |true=>rw[if_pos (.inl rfl)];exact U rfl
 |false=>
  have:=V rfl;by_cases J:4611686018427387904<n
  .rw[if_pos (.inr J)];omega
  .rw[if_neg (by simp[J])];omega
end Go.Proofs.YtjjhhcfgfdepdaaGreatDoor
