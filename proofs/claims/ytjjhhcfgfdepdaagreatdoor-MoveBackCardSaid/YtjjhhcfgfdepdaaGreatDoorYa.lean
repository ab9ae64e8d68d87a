/- own texts, made small by a tool (wip/ holds them as they were written): no statement of the seat. -/
import Derived.RangeFuncNested
import Derived.RangeFuncLeaves
import Derived.OrdersIn
import Derived.KernelRfl
import Derived.Deep.Upon
import Derived.RangeFuncBound
import Derived.Deep.MidRow
import Derived.Laws.Cover3
import Derived.Laws.Pointers
import Derived.Laws.StructEq
import Derived.Laws.Tables
import Derived.Below
import Derived.Laws.MakeOwn
import Derived.Lib.Overlaps
import Derived.Lib.AppendZerosOnto
import Derived.Lib.SliceRun
import Derived.OpenShut
import Derived.Lib.ConvBytes
import Derived.Laws.BytesArg
import Derived.Laws.Concat
import Derived.MapKept
import Derived.Carry
import Derived.WideKeyArr
import Derived.WideKeyMaps
import Derived.Laws.IdiomRangeMap
import Derived.Shelf.SlSortCmp.NoneTotal
import Derived.Shelf.SlSortCmp.WholeK
import Derived.Ground.SlsfProg
import Derived.WideKeyEntry
import Derived.WalkKit
import Derived.Test.YtjjhhcfgfdepdaaGreatDoorProg
import Derived.Test.YtjjhhcfgfdepdaaGreatDoorChecked
set_option linter.unusedVariables false
set_option linter.unusedSimpArgs false
set_option linter.unnecessarySimpa false
open Array renaming getElem?_eq_some_iff→j0,getElem?_toList→S5
open BitVec renaming ofInt→U5
open Bool renaming not_true→Y4,not_false→W5,and_eq_true→U4,or_eq_false_iff→S2
open Decidable renaming not_not→Y3
open Go renaming Value→x1,World→x3,TypeId→r9,IntKind→o6,Builtin→Z1,Program→W3,Oper→T0,Operand→S0,FuncId→R3
open Go.Addr renaming add_mid→T5
open Go.Builtin renaming append_→b8,len_→W7
open Go.Instr renaming loadAt→u5,fieldAt→u6,storeAt→o8,indexAt→c7,extract→Z7,buildSlice→Y1,sliceAt→V5,alloc→T7
open Go.IntKind renaming i64→X2,u64→U2
open Go.Proofs.Tryz renaming prog→x7
open Go.Result renaming andThen→W0
open Go.Sem renaming run_bind→X8,run_pure→W9
open Go.Sort renaming Holds→S1
open Go.Value renaming int→V0
open Go.World renaming putObj_heap_other→R4
open Int renaming toNat_natCast→r8,eq_ofNat_of_zero_le→V7
open List renaming getElem?_eq_some_iff→x4,mem_of_getElem?→x5,getElem?_eq_getElem→x6,getElem?_map→x8,getD_eq_getElem?_getD→u4,length_map→u7,take_add_one→u9,length_append→p8,replicate→p9,take_length→o5,take_of_length_le→o9,mem_map→n9,mem_append→l7,mem_singleton→l9,getElem?_set_self→j4,length_take→j5,map_append→j6,append_assoc→c9,eq_nil_of_length_eq_zero→b9,length_cons→Z0,length_set→Z2,getElem?_eq_none→Z3,getElem?_append_left→Z8,getElem?_append_right→Z9,getElem?_set_ne→Y0,ext_getElem?→Y2,getElem?_take_of_lt→Y8,getElem?_set→X1,mem_or_eq_of_mem_set→X6,drop_eq_getElem_cons→X7,append_nil→X9,mem_cons→W6,length_eq_one_iff→W8,range→V1,map_cons→V4,map_set→U3,set_append_right→T2,mem_of_mem_take→T3,getElem_mem→T8
open Nat renaming le_refl→o4,le_trans→Y5,mul_le_mul_right→Y9,zero_le→X3,zero_add→X5,add_mul→V9,sub_self→U1,mul_one→U9,beq→T4,eq_zero_or_pos→S4,add_assoc→S9,lt_of_lt_of_le→R5
open Ne renaming symm→S3
open Option renaming toList_some→o7,map_some→Z4,isNone_some→Z5,getD_some→V6,map→V8
open Option.some renaming injEq→X0
open Prod.mk renaming injEq→T9
set_option maxHeartbeats 16000000
open Option renaming some→σ,none→ν
abbrev Λ:=List Int
namespace Go
theorem Ω{p:Prop}(h:p:=by omega):p:=h
theorem Ψ{p:Prop}(h:p:=by kernel_rfl):p:=h
theorem Φ{p:Prop}(h:p:=by decide):p:=h
theorem Ξ{p:Prop}(h:p:=by simp):p:=h
theorem Θ{p:Prop}(h:p:=by simp;omega):p:=h
abbrev Γ(n:Nat):Value:=.pointer (some ⟨n,0,none⟩)
abbrev Δ:Int→Value:=Value.int .i64
end Go
variable {a y:Int}{c w w':x3}{S:Nat->Prop}{N h j m n:Nat}{aM f sv v z:x1}{args cs vs xs:List x1}{K:x1->Prop}{ad l:Λ}{D:List Nat}{k:o6}{e t:r9}{cx cy:Bool}
namespace Go.Vc
open Go Go.RowKit
def fp:Obj->Bool
 | .loop _=>false
 | .deferred _=>false
 | .mapIter ..=>false
 |_=>true
def book:Obj->Bool
 | .loop _=>true
 | .deferred _=>true
 |_=>false
theorem xF {o:Obj} (h:book o=true):fp o=false:=by cases o<;>first|rfl|cases h
def rg:Obj->Bool
 | .mapIter ..=>true
 |_=>false
theorem E9 {o:Obj} (h:rg o=true):fp o=false:=by cases o<;>first|rfl|cases h
structure Ext (w w':x3):Prop where
 size:w.heap.size<=w'.heap.size
 aW:∀ (r:Nat) (o:Obj),w.heap[r]? =σ o->fp o=true->w'.heap[r]? =σ o
theorem Ext.refl (w:x3):Ext w w:=⟨o4 _,λ_ _ h _=>h⟩
theorem Ext.trans {a b:x3} (h:Ext a b) (k:Ext b c):Ext a c:=
 ⟨Y5 h.size k.size,λr o e I=>k.aW r o (h.aW r o e I) I⟩
structure ae (S:Nat->Prop) (w w':x3):Prop where
 size:w.heap.size<=w'.heap.size
 aW:∀ (r:Nat) (o:Obj),w.heap[r]? =σ o->fp o=true->¬S r->w'.heap[r]? =σ o
theorem Ext.V (S:Nat->Prop) (h:Ext w w'):ae S w w':=⟨h.size,λr o a I _=>h.aW r o a I⟩
theorem ae.ext (h:ae S w w') (e:∀r,r<w.heap.size->¬S r):Ext w w':=
 ⟨h.size,λr o a I=>h.aW r o a I (e r (j0.1 a).1)⟩
theorem ae.refl (S:Nat->Prop) (w:x3):ae S w w:=⟨o4 _,λ_ _ h _ _=>h⟩
theorem ae.trans {a b:x3} (h:ae S a b) (k:ae S b c):ae S a c:=
 ⟨Y5 h.size k.size,λr o f I e=>k.aW r o (h.aW r o f I e) I e⟩
theorem ae.mono {T:Nat->Prop} {a b:x3} (h:ae S a b) (f:∀r,r<a.heap.size->S r->T r):ae T a b:=
 ⟨h.size,λr o e I j=>h.aW r o e I λp=>j (f r (j0.1 e).1 p)⟩
theorem Ext.then {a b:x3} (h:Ext a b) (k:ae S b c) (f:∀r,r<a.heap.size->¬S r):Ext a c:=
 ⟨Y5 h.size k.size,λr o e I=>k.aW r o (h.aW r o e I) I (f r (j0.1 e).1)⟩
def jv (w w':x3):Prop:=w'.tape=w.tape/\w.drawn<=w'.drawn
theorem jv.j3 (h:w'.tape=w.tape:=by rfl) (k:w'.drawn=w.drawn:=by rfl):jv w w':=⟨h,Nat.le_of_eq k.symm⟩
theorem jv.trans {a b:x3} (k:jv b c) (h:jv a b):jv a c:=⟨k.1.trans h.1,Y5 h.2 k.2⟩
structure cM (w w':x3):Prop where
 os:w'.os=w.os
 tape:jv w w'
 output:w'.output=w.output
 size:w.heap.size<=w'.heap.size
 aW:∀ (r:Nat) (o:Obj),w.heap[r]? =σ o->fp o=false->w'.heap[r]? =σ o
structure cB (n:Nat) (w w':x3):Prop where
 os:w'.os=w.os
 tape:jv w w'
 output:w'.output=w.output
 size:w.heap.size<=w'.heap.size
 aW:∀ (r:Nat) (o:Obj),w.heap[r]? =σ o->book o=true->w'.heap[r]? =σ o
 old:∀ (r:Nat) (o:Obj),r<n->w.heap[r]? =σ o->fp o=false->w'.heap[r]? =σ o
theorem cM.b (h:cM w w'):cB n w w':=⟨h.os,h.tape,h.output,h.size,λr o a I=>h.aW r o a (xF I),λr o _ a I=>h.aW r o a I⟩
theorem cB.refl (n:Nat) (w:x3):cB n w w:=⟨rfl,.j3,rfl,o4 _,λ_ _ h _=>h,λ_ _ _ h _=>h⟩
theorem cB.trans {a b:x3} (h:cB n a b) (k:cB n b c):cB n a c:=
 ⟨k.os.trans h.os,k.tape.trans h.tape,k.output.trans h.output,Y5 h.size k.size,λr o e I=>k.aW r o (h.aW r o e I) I,λr o f e I=>k.old r o f (h.old r o f e I) I⟩
theorem cB.ct (h:cB n w w') (e:w.heap.size<=n):cM w w':=
 ⟨h.os,h.tape,h.output,h.size,λr o a I=>h.old r o (R5 (j0.1 a).1 e) a I⟩
structure fq (n:Nat) (w w':x3):Prop where
 os:w'.os=w.os
 tape:jv w w'
 output:w'.output=w.output
 size:w.heap.size<=w'.heap.size
 old:∀ (r:Nat) (o:Obj),r<n->w.heap[r]? =σ o->fp o=false->w'.heap[r]? =σ o
theorem cB.o (h:cB n w w'):fq n w w':=⟨h.os,h.tape,h.output,h.size,h.old⟩
theorem cM.o (h:cM w w'):fq n w w':=⟨h.os,h.tape,h.output,h.size,λr o _ a I=>h.aW r o a I⟩
theorem fq.mono (h:fq n w w') (hm:m<=n):fq m w w':=⟨h.os,h.tape,h.output,h.size,λr o a=>h.old r o (R5 a hm)⟩
theorem cB.xG {a b:x3} (h:cB n a b) (k:fq m b c) (hm:a.heap.size<=m):cB n a c:=
 ⟨k.os.trans h.os,k.tape.trans h.tape,k.output.trans h.output,Y5 h.size k.size,
  λr o e I=>k.old r o (R5 (j0.1 e).1 hm) (h.aW r o e I) (xF I),
  λr o f e I=>k.old r o (R5 (j0.1 e).1 hm) (h.old r o f e I) I⟩
def eW (w w':x3):Prop:=∀ (r:Nat) (o:Obj),w.heap[r]? =σ o->rg o=true->w'.heap[r]? =σ o
theorem eW.refl (w:x3):eW w w:=λ_ _ h _=>h
theorem eW.trans {a b:x3} (h:eW a b) (k:eW b c):eW a c:=λr o e I=>k r o (h r o e I) I
theorem cM.j7 (h:cM w w'):eW w w':=λr o a I=>h.aW r o a (E9 I)
abbrev fs:=Bool×Nat
theorem cM.refl (w:x3):cM w w:=⟨rfl,.j3,rfl,o4 _,λ_ _ h _=>h⟩
theorem cM.trans {a b:x3} (h:cM a b) (k:cM b c):cM a c:=
 ⟨k.os.trans h.os,k.tape.trans h.tape,k.output.trans h.output,Y5 h.size k.size,λr o e I=>k.aW r o (h.aW r o e I) I⟩
theorem rh (w:x3) (n:Nat):Ext w {w with drawn:=n}:=⟨o4 _,λ_ _ h _=>h⟩
theorem pw (w:x3) (n:Nat) (h:w.drawn<=n):cM w {w with drawn:=n}:=⟨rfl,⟨rfl,h⟩,rfl,o4 _,λ_ _ h _=>h⟩
theorem px (w:x3) (o:Obj):Ext w {w with heap:=w.heap.push o}:=
 ⟨Ξ,λr o' h _=>by
  have a:=(j0.1 h).1;simp only[Array.getElem?_push];rw[if_neg Ω];exact h⟩
theorem py (w:x3) (o:Obj):cM w {w with heap:=w.heap.push o}:=
 ⟨rfl,.j3,rfl,Ξ,λr o' h _=>by
  have a:=(j0.1 h).1;simp only[Array.getElem?_push];rw[if_neg Ω];exact h⟩
inductive ez where
 |v (x:x1)
 |b (c:Bool)
 |u
def ez.val:ez->x1
 | .v x=>x
 | .b c=>.bool c
 | .u=>undef
def ez.ofConst:x1->ez
 | .bool c=>.b c
 |x=>.v x
theorem ez.Fa (x:x1):(ez.ofConst x).val=x:=by cases x<;>rfl
abbrev Env:=List (Nat×ez)
def look:Env->Nat->Option ez
 |[],_=>ν
 |(s,x)::r,t=>bif T4 s t then σ x else look r t
def eJ (e:Env):S0->Option ez
 | .tmp t=>look e t
 | .const x=>σ (ez.ofConst x)
 | .global g=>σ (.v (Γ g))
 | .func f=>σ (.v (.func (.func f) #[] #[]))
def cV (e:Env) (x:S0):x1:=
 match eJ e x with
 |some y=>y.val
 |none=>undef
def known (e:Env):List S0->Bool
 |[]=>true
 |x::r=>(eJ e x).isSome&&known e r
def S1 (N:Nat) (e:Env) (a:Act):Prop:=
 a.tmps.size=N/\ ∀t x,look e t=σ x->a.tmps.getD t undef=x.val
theorem S1.eJ {e:Env} {a:Act} (h:S1 N e a) {x:S0} {y:ez} (j:Vc.eJ e x=σ y):a.eval x=y.val:=by
 cases x with
 |tmp t=>exact h.2 t y j
 |const v=>simp[Vc.eJ] at j;subst j;simp[Act.eval,ez.Fa]
 |global g=>simp[Vc.eJ] at j;subst j;rfl
 |func f=>simp[Vc.eJ] at j;subst j;rfl
theorem S1.eval {e:Env} {a:Act} (h:S1 N e a) {x:S0} (j:(Vc.eJ e x).isSome=true):a.eval x=cV e x:=by
 obtain⟨y,f⟩:=Option.isSome_iff_exists.1 j;rw[h.eJ f];simp[cV,f]
theorem uc {e:Env}:∀ {l:List S0},known e l=true-> ∀x∈l,(eJ e x).isSome=true
 |[],_,_,a=>by cases a
 |y::r,h,x,a=>by
  simp only[known,U4] at h;cases a with
  |head=>exact h.1
  |tail _ a=>exact uc h.2 x a
def dY (e:Env) (d:Option Tmp) (x:ez):Env:=
 match d with
 |some t=>(t,x)::e
 |none=>e
def jw (N:Nat) (d:Option Tmp):Bool:=
 match d with
 |some t=>Nat.blt t N
 |none=>true
theorem S1.put {e:Env} {a:Act} (h:S1 N e a) {d:Option Tmp} (p:jw N d=true) {x:ez} (q:x.val=v):
  S1 N (dY e d x) (a.put d v):=by
 cases d with
 |none=>exact h
 |some t=>
  have r:t<N:=by simpa[jw,Nat.blt_eq] using p
  refine⟨by simp[Act.put,h.1],λs y I=>?_⟩;simp only[dY,look] at I;cases f:T4 t s with
  |true=>
   have j:t=s:=Nat.eq_of_beq_eq_true f;subst j;simp only[f,cond_true,X0] at I;subst I;simp[Act.put,h.1,r,q]
  |false=>
   have j:t≠s:=Nat.ne_of_beq_eq_false f;simp only[f,cond_false] at I;have:=h.2 s y I;simp only[Act.put,Array.getD_eq_getD_getElem?] at this ⊢;rw[Array.getElem?_setIfInBounds_ne j];exact this
def ev (r:Option Nat):Fence:={Fence.wide with round:=r}
theorem ud (r:Option Nat) (n:Nat):(ev r).depth.isSome=true->1<=n:=λh=>by simp[ev,Fence.wide] at h
theorem xH {r:Option Nat} {P:W3} {f:R3} {args:Array x1} {R:Ending->x3->Prop}
  (h:Calls P f args w R):CallsIn (ev r) n P f args w R:=by
 have:=(callsIn_wide (n:=n)).2 h;exact this
section
variable (P:W3)
def ax {α:Type} (s:Sem α) (w:x3) (K:α->x3->Prop):Prop:=∃v w',s.run P w= .ok v w'/\cM w w'/\K v w'
def ri {α:Type} (free:fs) (s:Sem α) (w:x3) (K:α->x3->Prop):Prop:=∃v w',s.run P w= .ok v w'/\(free.1=false->cB free.2 w w')/\K v w'
def Split (x:x1) (A B:Prop):Prop:=∃c,x= .bool c/\(c=true->A)/\(c=false->B)
def aZ:Bool->S0
 |true=>.const (.bool true)
 |false=>.tmp 0
def og:S0->Bool
 | .const _=>true
 |_=>false
theorem Fb (op:BinOp) (t:r9) (x y:S0) (a b:x1):eqGuard op t x y a b=eqGuard op t (aZ (og x)) (aZ (og y)) a b:=by
 cases x<;>cases y<;>rfl
def aJ (op:BinOp) (t:r9) (cx cy:Bool) (a b:x1):Sem x1:=do eqGuard op t (aZ cx) (aZ cy) a b;binOp op t a b
def rj (s:Sem Next):Sem x1:=do
 match <-s with
 | .value v=>pure v
 |_=>stuck "no value"
def bO (x:x1):Sem x1:=rj (execOp (λ_=>x) {dst:=ν,op:=.nilCheck (.tmp 0),type:=0,pos:= "",after:=#[],guard:=ν})
def bK (a:S0->x1):List S0->List x1
 |[]=>[]
 |x::r=>a x::bK a r
theorem rk (a:S0->x1):∀l,bK a l=l.map a
 |[]=>rfl
 |x::r=>by simp[bK,rk a r]
theorem ue (a:S0->x1) (l:Array S0):(bK a l.toList).toArray=l.map a:=by
 apply Array.toList_inj.1;simp[rk]
def partsOf (a:S0->x1):List (Nat×S0)->List (Nat×x1)
 |[]=>[]
 |x::r=>(x.1,a x.2)::partsOf a r
theorem xI (a:S0->x1):∀l,partsOf a l=l.map λ(i,x)=>(i,a x)
 |[]=>rfl
 |x::r=>by simp[partsOf,xI a r]
theorem Fc (a:S0->x1) (l:Array (Nat×S0)):(partsOf a l.toList).toArray=l.map λ(i,x)=>(i,a x):=by
 apply Array.toList_inj.1;simp[xI]
def opsOf:Op->List S0
 | .alloc _| .ready _| .waits _=>[]
 | .move x| .assign x| .box _ x| .load _ x| .nilCheck x| .unOp _ _ x| .convert _ _ x| .sliceToArrayPointer _ x| .makeInterface _ x
 | .makeChan _ x| .fieldAddr _ x _| .field _ x _| .range _ x| .next x _| .entry x| .typeAssert x _ _ _| .extract x _| .panic x| .recv _ x _=>[x]
 | .pick c a b=>[c,a,b]
 | .build _ e| .buildSlice _ _ e=>e.toList.map (·.2)
 | .store _ a v| .binOp _ _ a v _| .makeSlice _ a v| .indexAddr _ a v| .index _ a v| .lookup _ a v _| .mapEntry _ a v| .send a v=>[a,v]
 | .makeFunc _ first j=>first.toList++j.toList
 | .makeMap _ r=>match r with
  |some x=>[x]
  |none=>[]
 | .slice _ x l h m=>x::((match l with
  |some y=>[y]
  |none=>[])++((match h with
  |some y=>[y]
  |none=>[])++(match m with
  |some y=>[y]
  |none=>[])))
 | .mapUpdate _ m k v| .entryStore _ m k v| .insert _ m k v=>[m,k,v]
 | .call c=>match c.callee with
  | .value f=>f::c.args.toList
  | .invoke r _=>r::c.args.toList
  | .builtin _=>c.args.toList
 | .go _| .defer _| .select ..=>[]
theorem Fe {op:Op} (h1:∀c,op≠ .go c) (e:∀c,op≠ .defer c) (f:∀cs b,op≠ .select cs b):∀x∈op.operands,x∈opsOf op:=by
 intro x a;cases op<;>simp only[Op.operands,opsOf] at a ⊢<;>try (first|(simp at a;done)|(simp at a ⊢;exact a))
 case go c=>exact absurd rfl (h1 c)
 case defer c=>exact absurd rfl (e c)
 case select cs b=>exact absurd rfl (f cs b)
 case makeMap t r=>cases r<;>simp at a ⊢<;>exact a
 case slice t y l h m=>cases l<;>cases h<;>cases m<;>simpa[or_assoc] using a
 case call c=>cases j:c.callee<;>simpa[Call.operands,j] using a
def pz (e:S0->x1):Op->Option (Sem x1)
 | .pick c a b=>σ (do pure (if <-asBool (e c) then e a else e b))
 | .alloc j=>σ (T7 j true (.tuple #[]))
 | .box j x=>σ (Instr.box j (e x))
 | .build t parts=>σ (Instr.build t (partsOf e parts.toList).toArray)
 | .buildSlice t len parts=>σ (Y1 t len (partsOf e parts.toList).toArray)
 | .load t a=>σ (u5 t (e a))
 | .nilCheck x=>σ (bO (e x))
 | .binOp op gF x y _=>σ (aJ op gF (og x) (og y) (e x) (e y))
 | .unOp op _ x=>σ (Op.unary op (e x))
 | .convert src dst x=>σ (convert src dst (e x))
 | .makeInterface gF x=>σ (Instr.makeInterface gF (e x))
 | .makeFunc fn first p=>σ (Instr.makeFunc fn (bK e first.toList).toArray (bK e p.toList).toArray)
 | .makeMap t r=>σ (Instr.makeMap t (r.map e))
 | .makeSlice t l c=>σ (Instr.makeSlice t (e l) (e c))
 | .slice t x lo hi mx=>σ (V5 t (e x) (lo.map e) (hi.map e) (mx.map e))
 | .fieldAddr s x f=>σ (u6 s (e x) f)
 | .field gF x f=>σ (Instr.field gF (e x) f)
 | .indexAddr t x h=>σ (c7 t (e x) (e h))
 | .index gF x h=>σ (Instr.index gF (e x) (e h))
 | .lookup gF x h ok=>σ (Instr.lookup gF (e x) (e h) ok)
 | .mapEntry t m k=>σ (Instr.mapEntry t (e m) (e k))
 | .range gF x=>σ (Instr.range gF (e x))
 | .entry q=>σ (Instr.entry (e q))
 | .typeAssert x gF w ok=>σ (Instr.typeAssert (e x) gF w ok)
 | .extract t h=>σ (Z7 (e t) h)
 |_=>ν
def uf (e:S0->x1):Op->Option (Sem Unit)
 | .store t a x=>σ (o8 t (e a) (e x))
 | .mapUpdate t m k x=>σ (Instr.mapUpdate t (e m) (e k) (e x))
 | .insert t m k x=>σ (Instr.mapUpdate t (e m) (e k) (e x))
 | .entryStore t m s x=>σ (Instr.entryStore t (e m) (e s) (e x))
 |_=>ν
def oh (b:Z1) (ats:Array r9) (a:r9) (args:Array x1):Option (Sem x1):=
 match b with
 | .append=>σ (b8 ats a args)
 | .cap=>σ (Z1.cap_ ats a args)
 | .clear=>σ (Z1.clear_ ats a args)
 | .copy=>σ (Z1.copy_ ats a args)
 | .delete=>σ (Z1.delete_ ats a args)
 | .len=>σ (W7 ats a args)
 | .max=>σ (Z1.max_ ats a args)
 | .min=>σ (Z1.min_ ats a args)
 |_=>ν
theorem Ff {s:Sem Next} (h:(rj s).run P w= .ok v w'):s.run P w= .ok (.value v) w':=by
 unfold rj at h;rw[X8] at h;cases I:s.run P w with
 |halt x J=>rw[I] at h;simp[W0] at h
 |ok x J=>
  rw[I] at h;cases x<;>simp_all [W0,stuck,W9]
theorem Fg (x:x1) (b:Bool) (t:r9):Instr.next x b 0=Instr.next x b t:=rfl
theorem ug {f:S0->x1} {o:T0} {s:Sem x1} (h:pz f o.op=σ s) (a:s.run P w= .ok v w'):
  (execOp f o).run P w= .ok (.value v) w':=by
 cases e:o.op with
 |nilCheck x=>
  rw[e] at h;cases h;have:=Ff P a;unfold execOp at this ⊢;simpa[e] using this
 |pick c x y=>
  rw[e] at h;cases h;unfold execOp;simp only[e,X8,W9] at a ⊢;cases j:(asBool (f c)).run P w with
  |halt x J=>rw[j] at a;simp[W0] at a
  |ok x J=>rw[j] at a;simp only[W0,Result.ok.injEq] at a ⊢;simp[a]
 |binOp op gF x y p=>
  rw[e] at h;cases h;unfold execOp;simp only[e];unfold aJ at a;rw[<-Fb] at a;simp only[X8,W9] at a ⊢;rw[a];rfl
 |_=>
  rw[e] at h
  first
   |(cases h;done)
   |(cases h;simp only[ue,Fc] at a;unfold execOp;simp only[e,X8,a,W0,W9])
   |(cases h;unfold execOp;simp only[e,X8,a,W0,W9])
theorem Fh {a:S0->x1} {o:T0} {s:Sem Unit} (h:uf a o.op=σ s) {v:Unit} (f:s.run P w= .ok v w'):
  (execOp a o).run P w= .ok .skip w':=by
 cases e:o.op with
 |_=>
  rw[e] at h
  first
   |(cases h;done)
   |(cases h;unfold execOp;simp only[e,X8,f,W0,W9])
def Enters (f:R3):Prop:=∀args w,(callFunc f args).run P w= .ok (.enter f args) w
inductive ai (f:R3) (args:List x1) (w:x3) (K:x1->x3->Prop):Prop
 |code (h1:Enters P f) (h2:Calls P f args.toArray w λe w'=>∃v,e= .returned v/\cM w w'/\K v w')
 |ext (v:x1) (w':x3) (h1:(callFunc f args.toArray).run P w= .ok (.value v) w') (h2:cM w w') (h3:K v w')
inductive gG (f:R3) (args:List x1) (w:x3) (K:x1->x3->Prop):Prop
 |code (h1:Enters P f) (h2:Calls P f args.toArray w λe w'=>∃v,e= .returned v/\K v w')
 |ext (v:x1) (w':x3) (h1:(callFunc f args.toArray).run P w= .ok (.value v) w') (h3:K v w')
theorem gG.calls {f:R3} {K:x1->x3->Prop} (h:gG P f args w K) (a:Enters P f):Calls P f args.toArray w λe w'=>∃v,e= .returned v/\K v w':=by
 cases h with
 |code _ h=>exact h
 |ext v w' h1=>rw[a] at h1;cases h1
def hK (l:Nat) (args:List x1) (w:x3) (K:x1->x3->Prop):Prop:=
 YieldAt Fence.wide 0 P l args.toArray w λe w'=>∃v,e= .returned v/\K v w'
theorem hK.mono {P:W3} {l:Nat} {K a:x1->x3->Prop} (h:hK P l args w K) (e:∀v w',K v w'->a v w'):hK P l args w a:=by
 obtain⟨fn,tmps,f,body,j,p⟩:=h;exact⟨fn,tmps,f,body,j,RoundIn.mono p λ_ w' ⟨v,h1,q⟩=>⟨v,h1,e v w' q⟩⟩
def rl (free:Bool) (f:x1) (args:List x1) (w:x3) (K:x1->x3->Prop):Prop:=
 match f with
 | .func (.func g) first cap=>bif free then gG P g (first.toList++args++cap.toList) w K else ai P g (first.toList++args++cap.toList) w K
 | .func (.yield l) first _=>bif free then free=true/\hK P l (first.toList++args) w K else hK P l (first.toList++args) w λv w'=>cM w w'/\K v w'
 |_=>False
def aa (s:Sem x1) (w:x3) (K:x1->Prop):Prop:=∃v,(∀w',Ext w w'->s.run P w'= .ok v w')/\K v
def Fi:List (Nat×Nat):=[(9,22),(22,22)]
def Fj (s d:Nat):Bool:=Fi.any λp=>T4 p.1 s&&T4 p.2 d
def ja (o:T0):Bool:=
 match o.op with
 | .convert s d _=>!Fj s d
 | .move _| .assign _| .pick .. | .load .. | .nilCheck _| .binOp .. | .unOp .. | .makeInterface .. | .makeFunc .. | .slice .. | .fieldAddr .. | .field ..
 | .indexAddr .. | .index .. | .lookup .. | .extract .. | .build .. | .typeAssert ..=>true
 | .call c=>
  match c.callee with
  | .builtin .len| .builtin .cap| .builtin .min| .builtin .max=>true
  |_=>false
 |_=>false
def ci (s:Sem x1) (v:x1) (w':x3):Prop:=∀a,Ext w' a->s.run P a= .ok v a
def ly (o:T0) (e:Env) (w:x3) (K:Env->(x3->Prop)->Prop):Prop:=
 bif known e (opsOf o.op) then
  match o.op with
  | .move x| .assign x=>
   match eJ e x with
   |some y=>K (dY e o.dst y) (λ_=>True)
   |none=>False
  | .pick c a b=>
   match eJ e c with
   |some (.b true)=>(match eJ e a with|some y=>K (dY e o.dst y) (λ_=>True)|none=>False)
   |some (.b false)=>(match eJ e b with|some y=>K (dY e o.dst y) (λ_=>True)|none=>False)
   |some (.v x)=>Split x (K (dY e o.dst (.v (cV e a))) (λ_=>True)) (K (dY e o.dst (.v (cV e b))) (λ_=>True))
   |some .u=>False
   |none=>False
  | .call c=>
   match c.callee with
   | .builtin b=>
    match oh b c.argTypes o.type (bK (cV e) c.args.toList).toArray with
    |some s=>aa P s w λv=>K (dY e o.dst (.v v)) (ci P s v)
    |none=>False
   |_=>False
  |op=>
   match pz (cV e) op with
   |some s=>aa P s w λv=>K (dY e o.dst (.v v)) (ci P s v)
   |none=>False
 else False
def uh (free:fs) (o:T0) (e:Env) (w:x3) (K:Env->x3->Prop):Prop:=
 bif known e (opsOf o.op) then
  match o.op with
  | .call c=>
   match c.callee with
   | .builtin b=>
    match oh b c.argTypes o.type (bK (cV e) c.args.toList).toArray with
    |some s=>ax P s w λv w'=>K (dY e o.dst (.v v)) w'
    |none=>False
   | .value (.func f)=>
    bif free.1 then gG P f (bK (cV e) c.args.toList) w λv w'=>K (dY e o.dst (.v v)) w'
    else ai P f (bK (cV e) c.args.toList) w λv w'=>K (dY e o.dst (.v v)) w'
   | .value x=>rl P free.1 (cV e x) (bK (cV e) c.args.toList) w λv w'=>K (dY e o.dst (.v v)) w'
   | .invoke _ _=>False
  | .next x str=>ri P free (Instr.next (cV e x) str 0) w λv w'=>K (dY e o.dst (.v v)) w'
  |op=>
   match pz (cV e) op with
   |some s=>ax P s w λv w'=>K (dY e o.dst (.v v)) w'
   |none=>
    match uf (cV e) op with
    |some s=>ax P s w λ_ w'=>K (dY e o.dst (.v undef)) w'
    |none=>False
 else False
def oi (free:fs) (o:T0) (e:Env) (w:x3) (K:Env->x3->Prop):Prop:=
 bif ja o then ly P o e w (λa _=>K a w) else uh P free o e w K
theorem Enters.of {f:R3} {fn:Func} {c:Code} (a:P.funcs[f]? =σ fn) (e:fn.body=σ c) (h:(fn.name == "runtime.NumGoroutine")=false):Enters P f:=by
 intro args w;have j:fn.name≠ "runtime.NumGoroutine":=by simpa using h
 unfold callFunc;simp[X8,program,Sem.run,W0,a,j,e,W9]
variable {P}
variable {N:Nat} {r:Option Nat} {o:T0} {e:Env} {a:Act} {w:x3}
theorem j8 (f:S1 N e a) (hk:known e (opsOf o.op)=true) (I:∀cs b,o.op≠ .select cs b) (h:∀c,o.op≠ .go c:=by simp_all) (j:∀c,o.op≠ .defer c:=by simp_all):
  execOp a.eval o=execOp (cV e) o:=
 execOp_congr o I λx p=>f.eval (uc hk x (Fe h j I x p))
theorem pA {next:Act->x3->Prop} {Q:Exit->Act->x3->Prop} (j:S1 N e a) (hk:known e (opsOf o.op)=true) (I:∀cs b,o.op≠ .select cs b)
  (f:∀c,o.op≠ .defer c) {v:x1} {w':x3} (p:(execOp (cV e) o).run P w= .ok (.value v) w') (h:next (a.put o.dst v) w') (q:∀c,o.op≠ .go c:=by simp_all):o.wpIn (ev r) 0 P a w next Q:=by
 refine⟨λ_ _=>trivial,?_⟩;rw[T0.semAt_eq _ _ _ f,j8 j hk I q f,p,T0.uponIn_value];exact h
theorem Fk {next:Act->x3->Prop} {Q:Exit->Act->x3->Prop} (j:S1 N e a) (hk:known e (opsOf o.op)=true) (I:∀cs b,o.op≠ .select cs b)
  (f:∀c,o.op≠ .defer c) {w':x3} (p:(execOp (cV e) o).run P w= .ok .skip w') (h:next (a.put o.dst undef) w') (q:∀c,o.op≠ .go c:=by simp_all):o.wpIn (ev r) 0 P a w next Q:=by
 refine⟨λ_ _=>trivial,?_⟩;rw[T0.semAt_eq _ _ _ f,j8 j hk I q f,p,T0.uponIn_skip];exact h
def fg (N:Nat) (free:fs) (K:Env->x3->Prop) (o:T0) (a:Act) (w:x3) (a':Act) (w':x3):Prop:=
 ∃e v,K e w'/\S1 N e a'/\a'=a.put o.dst v/\(free.1=false->cB free.2 w w')
theorem fg.of {free:fs} {K:Env->x3->Prop} {x:ez} (f:K (dY e o.dst x) w') (h:S1 N e a) (j:jw N o.dst=true) (p:x.val=v)
  (q:free.1=false->cB free.2 w w'):fg N free K o a w (a.put o.dst v) w':=⟨_,v,f,h.put j p,rfl,q⟩
theorem xJ {free:fs} {K:Env->x3->Prop} {Q:Exit->Act->x3->Prop} {f:R3} {args:Array x1} (p:S1 N e a) (q:jw N o.dst=true)
  (h:Calls P f args w λj w'=>∃v,j= .returned v/\(free.1=false->cB free.2 w w')/\K (dY e o.dst (.v v)) w'):
  o.uponIn (ev r) 0 P a (fg N free K o a w) Q (.ok (.enter f args) w):=by
 rw[T0.uponIn_enter];refine⟨ud _ _,CallsIn.mono (xH h) ?_⟩;rintro j w' ⟨v,rfl,s,x⟩;exact fg.of x p q rfl s
theorem lz {x:S0} {y:ez} (h:eJ e x=σ y):cV e x=y.val:=by simp[cV,h]
theorem xK {l:List S0} {x:S0} (hk:known e l=true) (a:x∈l):∃y,eJ e x=σ y:=Option.isSome_iff_exists.1 (uc hk x a)
theorem xL {K:Env->(x3->Prop)->Prop} (h:ly P o e w K) (A:S1 N e a) (L:jw N o.dst=true):
  ∃v,∃st:x3->Prop,(∀w',Ext w w'->(execOp a.eval o).run P w'= .ok (.value v) w')/\(∃B,K B st/\S1 N B (a.put o.dst v))/\(∀c,o.op≠ .defer c)/\
   (∀w',st w'-> ∀j,Ext w' j->(execOp a.eval o).run P j= .ok (.value v) j):=by
 unfold ly at h;cases hk:known e (opsOf o.op) with
 |false=>rw[hk] at h;exact h.elim
 |true=>
  rw[hk] at h;simp only[cond_true] at h;have put:∀ {x:ez} {v:x1} {st:x3->Prop},K (dY e o.dst x) st->x.val=v-> ∃B,K B st/\S1 N B (a.put o.dst v):=λh1 C=>⟨_,h1,A.put L C⟩;cases f:o.op with
  |move x=>
   rw[f] at h;simp only at h;cases q:eJ e x with
   |none=>rw[q] at h;exact h.elim
   |some y=>
    rw[q] at h;have all:∀w':x3,(execOp a.eval o).run P w'= .ok (.value y.val) w':=λw'=>by
     rw[j8 A hk (by simp[f])];unfold execOp;simp only[f,W9,lz q]
    exact⟨y.val,_,λw' _=>all w',put h rfl,Ξ,λ_ _ j _=>all j⟩
  |assign x=>
   rw[f] at h;simp only at h;cases q:eJ e x with
   |none=>rw[q] at h;exact h.elim
   |some y=>
    rw[q] at h;have all:∀w':x3,(execOp a.eval o).run P w'= .ok (.value y.val) w':=λw'=>by
     rw[j8 A hk (by simp[f])];unfold execOp;simp only[f,W9,lz q]
    exact⟨y.val,_,λw' _=>all w',put h rfl,Ξ,λ_ _ j _=>all j⟩
  |pick c x y=>
   rw[f] at h;simp only at h;have F:=hk;rw[f] at F;obtain⟨R,q⟩:=xK F (x:=x) (by simp[opsOf]);obtain⟨S,J⟩:=xK F (x:=y) (by simp[opsOf]);have E:∀ (t:Bool) (w':x3),cV e c= .bool t->(execOp a.eval o).run P w'= .ok (.value (if t=true then cV e x else cV e y)) w':=by
    intro t w' G;rw[j8 A hk (by simp[f])];unfold execOp;simp[f,G,asBool,W9]
   cases p:eJ e c with
   |none=>rw[p] at h;exact h.elim
   |some M=>
    rw[p] at h;cases M with
    |b t=>
     cases t with
     |true=>
      simp only[q] at h;exact⟨_,_,λw' _=>E true w' (lz p),put h (by simp[lz q]),Ξ,λ_ _ w' _=>E true w' (lz p)⟩
     |false=>
      simp only[J] at h;exact⟨_,_,λw' _=>E false w' (lz p),put h (by simp[lz J]),Ξ,λ_ _ w' _=>E false w' (lz p)⟩
    |v z=>
     obtain⟨t,O,G,Q⟩:=h;have r:=λw'=>E t w' (by rw[lz p];exact O);cases t with
     |true=>exact⟨_,_,λw' _=>r w',put (G rfl) rfl,Ξ,λ_ _ w' _=>r w'⟩
     |false=>exact⟨_,_,λw' _=>r w',put (Q rfl) rfl,Ξ,λ_ _ w' _=>r w'⟩
    |u=>exact h.elim
  |call c=>
   rw[f] at h;simp only at h;cases p:c.callee with
   |builtin b=>
    rw[p] at h;simp only at h;rw[ue] at h;cases I:oh b c.argTypes o.type (c.args.map (cV e)) with
    |none=>rw[I] at h;exact h.elim
    |some s=>
     rw[I] at h;obtain⟨v,r,H⟩:=h;have all:∀w':x3,s.run P w'= .ok v w'->(execOp a.eval o).run P w'= .ok (.value v) w':=λw' r=>by
      rw[j8 A hk (by simp[f])];unfold execOp;cases b<;>simp only[oh] at I<;>first|(cases I;done)|(cases I;simp[f,p,resolve,invoke,builtin,r,W0])
     exact⟨v,_,λw' hw=>all w' (r w' hw),put H rfl,Ξ,λw' h1 j C=>all j (h1 j C)⟩
   |value x=>rw[p] at h;exact h.elim
   |invoke x m=>rw[p] at h;exact h.elim
  |_=>
   rw[f] at h
   first
    |(simp only[pz] at h;done)
    |(obtain⟨v,r,H⟩:=h
      refine⟨v,_,λw' hw=>?_,put H rfl,Ξ,λw' h1 j C=>?_⟩
      .rw[j8 A hk (by simp[f])];exact ug P (by rw[f];rfl) (r w' hw)
      .rw[j8 A hk (by simp[f])];exact ug P (by rw[f];rfl) (h1 j C))
theorem Fl {free:fs} {K:Env->x3->Prop} {Q:Exit->Act->x3->Prop} (h:uh P free o e w K) (p:S1 N e a) (C:jw N o.dst=true):
  o.wpIn (ev r) 0 P a w (fg N free K o a w) Q:=by
 unfold uh at h;cases hk:known e (opsOf o.op) with
 |false=>rw[hk] at h;exact h.elim
 |true=>
  rw[hk] at h;simp only[cond_true] at h;cases j:o.op with
  |call c=>
   rw[j] at h;simp only at h;cases E:c.callee with
   |builtin b=>
    rw[E] at h;simp only at h;rw[ue] at h;cases I:oh b c.argTypes o.type (c.args.map (cV e)) with
    |none=>rw[I] at h;exact h.elim
    |some s=>
     rw[I] at h;obtain⟨v,w',q,A,B⟩:=h;refine pA p hk (by simp[j]) (by simp[j]) (v:=v) (w':=w') ?_ (fg.of B p C rfl λ_=>A.b);unfold execOp;cases b<;>simp only[oh] at I<;>first|(cases I;done)|(cases I;simp[j,E,resolve,invoke,builtin,q,W0])
   |value x=>
    rw[E] at h;have step:∀ (d:Deferred) (y:x1),cV e x=y->Deferred.ofValue y (c.args.map (cV e))=pure d->
      (invoke d.target d.args).run P w=(execOp (cV e) o).run P w:=by
     intro d y z S;unfold execOp;simp only[j,E,resolve,z,S,X8,W9,W0]
    have H:∀ (g:R3) (first cap:Array x1),cV e x= .func (.func g) first cap->
      (execOp (cV e) o).run P w=(callFunc g (first.toList++bK (cV e) c.args.toList++cap.toList).toArray).run P w:=by
     intro g first cap z
     rw[<-step {target:=.fn (.func g) cap,args:=first++c.args.map (cV e)} _ z rfl];simp only[invoke];have J:first++c.args.map (cV e)++cap=(first.toList++bK (cV e) c.args.toList++cap.toList).toArray:=by apply Array.toList_inj.1;simp[rk]
     rw[J]
    have enter:∀ (g:R3) (first cap:Array x1),cV e x= .func (.func g) first cap->Enters P g->
      (execOp (cV e) o).run P w= .ok (.enter g (first.toList++bK (cV e) c.args.toList++cap.toList).toArray) w:=by
     intro g first cap z F
     rw[H g first cap z,F]
    have go:∀ (g:R3) (first cap:Array x1),cV e x= .func (.func g) first cap->
      (bif free.1 then gG P g (first.toList++bK (cV e) c.args.toList++cap.toList) w λv w'=>K (dY e o.dst (.v v)) w'
       else ai P g (first.toList++bK (cV e) c.args.toList++cap.toList) w λv w'=>K (dY e o.dst (.v v)) w')->
      o.wpIn (ev r) 0 P a w (fg N free K o a w) Q:=by
     intro g first cap z h
     obtain⟨fr,T⟩:=free;cases fr with
     |true=>
      rcases h with⟨F,L⟩|⟨v,w',q,B⟩
      .refine⟨λ_ _=>trivial,?_⟩;rw[T0.semAt_eq _ _ _ (by simp[j]),j8 p hk (by simp[j])];rw[enter g first cap z F];exact xJ p C (L.mono λG w' ⟨v,h1,M⟩=>⟨v,h1,(λh=>by cases h),M⟩)
      .rw[<-H g first cap z] at q;exact pA p hk (by simp[j]) (by simp[j]) q (fg.of B p C rfl λh=>by cases h)
     |false=>
      rcases h with⟨F,L⟩|⟨v,w',q,A,B⟩
      .refine⟨λ_ _=>trivial,?_⟩;rw[T0.semAt_eq _ _ _ (by simp[j]),j8 p hk (by simp[j])];rw[enter g first cap z F];exact xJ p C (L.mono λG w' ⟨v,h1,A,M⟩=>⟨v,h1,λ_=>A.b,M⟩)
      .rw[<-H g first cap z] at q;exact pA p hk (by simp[j]) (by simp[j]) q (fg.of B p C rfl λ_=>A.b)
    have O:rl P free.1 (cV e x) (bK (cV e) c.args.toList) w (λv w'=>K (dY e o.dst (.v v)) w')->
      o.wpIn (ev r) 0 P a w (fg N free K o a w) Q:=by
     intro h;unfold rl at h;split at h
     .rename_i g first cap z
      exact go g first cap z h
     .rename_i l first cap z
      obtain⟨fn,tmps,R,body,U,V⟩:hK P l (first.toList++bK (cV e) c.args.toList) w λv w'=>(free.1=false->cB free.2 w w')/\K (dY e o.dst (.v v)) w':=by
       obtain⟨fr,T⟩:=free;cases fr with
       |true=>exact hK.mono h.2 λv w' hk=>⟨(λh=>by cases h),hk⟩
       |false=>exact hK.mono h λv w' hk=>⟨λ_=>hk.1.b,hk.2⟩
      refine⟨λ_ _=>trivial,?_⟩;rw[T0.semAt_eq _ _ _ (by simp[j]),j8 p hk (by simp[j])];have:(execOp (cV e) o).run P w= .ok (.round l fn tmps R body) w:=by
       rw[<-step {target:=.fn (.yield l) cap,args:=first++c.args.map (cV e)} _ z rfl,<-U];have J:(first.toList++bK (cV e) c.args.toList).toArray=first++c.args.map (cV e):=by apply Array.toList_inj.1;simp[rk]
       rw[J];rfl
      rw[this,T0.uponIn_round];refine⟨ud _ _,?_⟩;have W:RoundIn (ev r) (0-1) P l fn tmps R body w λG w'=>∃v,G= .returned v/\(free.1=false->cB free.2 w w')/\K (dY e o.dst (.v v)) w':=V;refine RoundIn.mono W ?_;rintro G w' ⟨v,rfl,A,B⟩;exact fg.of B p C rfl A
     .exact h.elim
    cases x with
    |func f=>exact go f #[] #[] rfl (by simpa using h)
    |tmp t=>exact O h
    |const v=>exact O h
    |global g=>exact O h
   |invoke x m=>rw[E] at h;exact h.elim
  |next x str=>
   rw[j] at h;obtain⟨v,w',q,A,B⟩:=h;refine pA p hk (by simp[j]) (by simp[j]) (v:=v) (w':=w') ?_ (fg.of B p C rfl A);rw[Fg _ _ o.type] at q;unfold execOp;simp only[j,X8,q,W0,W9]
  |_=>
   rw[j] at h
   first
    |(simp only[pz,uf] at h;done)
    |(obtain⟨v,w',q,A,B⟩:=h
      exact pA p hk (by simp[j]) (by simp[j]) (ug P (by rw[j];rfl) q) (fg.of B p C rfl λ_=>A.b))
    |(obtain⟨v,w',q,A,B⟩:=h
      exact Fk p hk (by simp[j]) (by simp[j]) (Fh P (by rw[j];rfl) q) (fg.of B p C rfl λ_=>A.b))
theorem rm {free:fs} {K:Env->x3->Prop} {Q:Exit->Act->x3->Prop} (h:oi P free o e w K) (j:S1 N e a) (p:jw N o.dst=true):
  o.wpIn (ev r) 0 P a w (fg N free K o a w) Q:=by
 unfold oi at h;cases q:ja o with
 |false=>rw[q] at h;exact Fl h j p
 |true=>
  rw[q] at h;have h:ly P o e w (λf _=>K f w):=h;obtain⟨v,st,s,⟨f,x,y⟩,z,_⟩:=xL h j p;refine⟨λ_ _=>trivial,?_⟩;rw[T0.semAt_eq _ _ _ z,s w (Ext.refl _),T0.uponIn_value];exact⟨f,v,x,y,rfl,λ_=>cB.refl _ _⟩
end
section
variable {P:W3}
def Still {α:Type} (P:W3) (s:Sem α):Prop:=∀w v J,s.run P w= .ok v J->J=w/\ ∀w',s.run P w'= .ok v w'
theorem Still.pure {α:Type} (a:α):Still P (Pure.pure a:Sem α):=λw v J h=>by
 rw[W9] at h;cases h;exact⟨rfl,λw'=>by rw[W9]⟩
theorem Still.bind {α β:Type} {s:Sem α} {f:α->Sem β} (I:Still P s) (j:∀a,Still P (f a)):Still P (s >>= f):=λw v J h=>by
 rw[X8] at h;cases e:s.run P w with
 |halt x U=>rw[e] at h;simp[W0] at h
 |ok a U=>
  rw[e] at h;obtain⟨rfl,p⟩:=I w a U e;obtain⟨rfl,q⟩:=j a _ v J h;exact⟨rfl,λw'=>by rw[X8,p w'];exact q w'⟩
theorem Still.never {α:Type} {s:Sem α} (h:∀w v J,s.run P w≠ .ok v J):Still P s:=λw v J h'=>absurd h' (h w v J)
theorem Still.stuck {α:Type} (m:String):Still P (stuck m:Sem α):=.never λw v J h=>by simp[Go.stuck] at h
theorem Still.unsupported {α:Type} (m):Still P (unsupported m:Sem α):=.never λw v J h=>by simp[Go.unsupported] at h
theorem Still.program:Still P program:=λw v J h=>by cases h;exact⟨rfl,λ_=>rfl⟩
theorem Still.underlying (t:r9):Still P (underlying t):=Still.bind .program λp=>by
 cases p.underlying t with
 |some d=>exact Still.pure d
 |none=>exact Still.stuck _
theorem Still.typeInfo (t:r9):Still P (typeInfo t):=Still.bind .program λp=>by
 cases p.info? t with
 |some d=>exact Still.pure d
 |none=>exact Still.stuck _
theorem Still.sizeOf (t:r9):Still P (sizeOf t):=Still.bind (.typeInfo t) λ_=>Still.pure _
theorem Still.boundsPanic {α:Type} (k:o6) (x y:Int) (c:BoundsCode):Still P (boundsPanic k x y c:Sem α):=.never λw v J h=>by
 have e:∀ (s:Sem Bool) (w:x3) (v:α) (J:x3),(s >>= λb=>(runtimePanic (.bounds (X2.wrap x) y b c):Sem α)).run P w≠ .ok v J:=by
  intro s w v J h;rw[X8] at h;cases f:s.run P w with
  |halt x U=>rw[f] at h;simp[W0] at h
  |ok a U=>rw[f] at h;simp[W0,Go.runtimePanic,Go.goPanic] at h
 unfold Go.boundsPanic at h;dsimp only at h;split at h
 .exact e _ _ _ _ h
 .exact e _ _ _ _ h
theorem Still.asIntOf (v:x1):Still P (asIntOf v):=by
 unfold Go.asIntOf;split
 .exact Still.pure _
 .exact Still.unsupported _
 .exact Still.stuck _
theorem Still.sureAddr (v:x1):Still P (Instr.sureAddr v):=by
 unfold Instr.sureAddr;split
 .exact Still.pure _
 .exact Still.stuck _
theorem Still.extract (v:x1) (i:Nat):Still P (Z7 v i):=by
 unfold Z7;split
 .split
  .exact Still.pure _
  .exact Still.stuck _
 .exact Still.stuck _
theorem Still.indexAt (t:r9) (x i:x1):Still P (c7 t x i):=by
 have tail:∀ (t:r9) (k:o6) (i:Int) (base:Option Addr) (len:Nat) (e:r9),Still P (do
   let f:=len<=1&&(match <-Go.underlying t with| .array ..=>true|_=>false)
   match base with
   |some a=>
    if 0<=i/\i<len then Pure.pure (x1.pointer (σ (a.add (i.toNat*(<-Go.sizeOf e)))))
    else if f then Go.unsupported (.noEntry "op/indexAddr.an index out of range at an array of length 0 or 1 (ledger 616)")
    else Go.boundsPanic k i len .index
   |none=>Go.boundsPanic k i 0 .index):=by
  intro t k i base len e;refine .bind (.underlying t) λd=>?_;cases base with
  |none=>exact Still.boundsPanic _ _ _ _
  |some a=>
   dsimp only;split
   .exact .bind (.sizeOf e) λ_=>.pure _
   .split<;>split<;>first|exact Still.unsupported _|exact Still.boundsPanic _ _ _ _
 unfold c7;refine .bind (.asIntOf i) λh=>?_;refine .bind (.underlying t) λd=>?_;split
 .refine .bind (.sureAddr _) λb=>?_;refine .bind (.pure _) λy=>?_;exact tail _ _ _ _ _ _
 .refine .bind (.pure _) λy=>?_;exact tail _ _ _ _ _ _
 .refine .bind (.stuck _) λy=>?_;exact tail _ _ _ _ _ _
end
section
variable (P:W3)
def rn (free:fs) (ops:Array T0) (o:T0) (e:Env) (w:x3) (K:Env->x3->Prop):Prop:=
 match o.guard with
 |none=>oi P free o e w K
 |some (j,b)=>
  match (ops[j]?).bind (·.dst) with
  |none=>False
  |some s=>
   match look e s with
   |some (.b c)=>bif xor c b then K (dY e o.dst .u) w else oi P free o e w K
   |some (.v x)=>
    Split x (bif b then oi P free o ((s,.b true)::e) w K else K (dY ((s,.b true)::e) o.dst .u) w)
     (bif b then K (dY ((s,.b false)::e) o.dst .u) w else oi P free o ((s,.b false)::e) w K)
   |some .u=>K (dY e o.dst .u) w
   |none=>False
def oj (free:fs) (ops:Array T0):List T0->Env->x3->(Env->x3->Prop)->Prop
 |[],e,w,K=>K e w
 |o::l,e,w,K=>rn P free ops o e w λa w'=>oj free ops l a w' K
def ui (ops:Array T0) (o:T0) (e:Env) (w:x3) (K:Env->(x3->Prop)->Prop):Prop:=
 match o.guard with
 |none=>ly P o e w K
 |some (j,b)=>
  match (ops[j]?).bind (·.dst) with
  |none=>False
  |some s=>
   match look e s with
   |some (.b c)=>bif xor c b then K (dY e o.dst .u) (λ_=>True) else ly P o e w K
   |some (.v x)=>
    Split x (bif b then ly P o ((s,.b true)::e) w K else K (dY ((s,.b true)::e) o.dst .u) (λ_=>True))
     (bif b then K (dY ((s,.b false)::e) o.dst .u) (λ_=>True) else ly P o ((s,.b false)::e) w K)
   |some .u=>K (dY e o.dst .u) (λ_=>True)
   |none=>False
def lA (o:T0):Bool:=
 match o.op with
 | .move _| .assign _| .extract .. | .indexAddr ..=>true
 |_=>false
def mc (ops:Array T0):List Nat->Option Nat
 |[]=>ν
 |i::r=>match ops[i]? with
  |some o=>bif ja o then σ i else mc ops r
  |none=>mc ops r
def uj (p:Nat->Prop):List Nat->Prop
 |[]=>True
 |[i]=>p i
 |i::r=>p i/\uj p r
def kG (bs:Array Nat) (j k:Nat):Bool:=!(T4 k j)&&(!((bs.getD j 0).testBit k)&& !((bs.getD k 0).testBit j))
def pB (same:Bool) (q:Nat) (w:x3) (st:x3->Prop) (a:List (x3×List (Nat×(x3->Prop)))):List (x3×List (Nat×(x3->Prop))):=
 match same,a with
 |true,g::r=>(g.1,(q,st)::g.2)::r
 |_,a=>(w,[(q,st)])::a
def pC (bs:Array Nat) (j:Nat):List (Nat×(x3->Prop))->Bool
 |[]=>false
 |x::r=>kG bs j x.1||pC bs j r
def ol (bs:Array Nat) (j:Nat) (w':x3):List (Nat×(x3->Prop))->Prop
 |[]=>True
 |x::r=>bif kG bs j x.1 then x.2 w'/\ol bs j w' r else ol bs j w' r
def mZ (bs:Array Nat) (j:Nat) (w':x3) (C:Prop):List (x3×List (Nat×(x3->Prop)))->Prop
 |[]=>C
 |g::r=>bif pC bs j g.2 then (Ext g.1 w'\/ol bs j w' g.2)/\mZ bs j w' C r else mZ bs j w' C r
def md (free:fs) (ops:Array T0) (bs:Array Nat):Nat->Array Bool->Bool->List (x3×List (Nat×(x3->Prop)))->Env->x3->(Env->x3->Prop)->Prop
 |0,a,_,_,e,w,K=>match Region.ready .any ops a with|[]=>K e w|_=>False
 |fuel+1,a,same,f,e,w,K=>
  match Region.ready .any ops a with
  |[]=>K e w
  |i::r=>
   match mc ops (i::r) with
   |some q=>
    bif Region.free .any ops a q then
     match ops[q]? with
     |some o=>ui P ops o e w λh st=>
       bif lA o then md free ops bs fuel (a.setIfInBounds q true) same f h w K
       else md free ops bs fuel (a.setIfInBounds q true) true (pB same q w st f) h w K
     |none=>False
    else False
   |none=>
    uj (λj=>match ops[j]? with
     |some o=>rn P free ops o e w λh w'=>mZ bs j w' (md free ops bs fuel (a.setIfInBounds j true) false f h w' K) f
     |none=>False) (i::r)
def uk (free:fs) (ops:Array T0) (e:Env) (w:x3) (K:Env->x3->Prop):Prop:=
 bif Region.noSelect ops then md P free ops (Region.before ops) ops.size (Array.replicate ops.size false) false [] e w K else False
end
section
variable {P:W3} {N:Nat} {r:Option Nat} {free:fs} {ops:Array T0}
theorem Fm {e:Env} {a:Act} (p:S1 N e a) {s:Nat} {c:Bool} (q:(ops[j]?).bind (·.dst)=σ s) {x:ez} (I:look e s=σ x) (r:x.val= .bool c):
  yielded ops a.tmps j=σ c:=by
 have h:=p.2 s x I;rw[r] at h;have w:a.tmps[s]? =σ (.bool c):=by
  rw[Array.getD_eq_getD_getElem?] at h;cases f:a.tmps[s]? with
  |none=>rw[f] at h;simp[undef] at h
  |some y=>rw[f] at h;simpa using h
 simp[yielded,q,w]
theorem rp {e:Env} {a:Act} (f:S1 N e a) {o:T0} {s:Nat} {b c:Bool} (h:o.guard=σ (j,b)) (p:(ops[j]?).bind (·.dst)=σ s) {x:ez}
  (I:look e s=σ x) (q:x.val= .bool c):Region.wanted o (yielded ops a.tmps)= !(xor c b):=by
 simp only[Region.wanted,h,Fm f p I q];cases c<;>cases b<;>rfl
theorem xM {e:Env} {a:Act} (p:S1 N e a) {o:T0} {s:Nat} {b:Bool} (q:o.guard=σ (j,b)) (r:(ops[j]?).bind (·.dst)=σ s)
  (I:look e s=σ .u):Region.wanted o (yielded ops a.tmps)=false:=by
 have h:=p.2 s .u I;have w:yielded ops a.tmps j=ν:=by
  rw[Array.getD_eq_getD_getElem?] at h;unfold yielded;rw[r];cases f:a.tmps[s]? with
  |none=>simp[f]
  |some y=>
   rw[f] at h;simp only[V6,ez.val] at h;subst h;simp[f,undef]
 simp[Region.wanted,q,w]
theorem S1.lit {e:Env} {a:Act} (h:S1 N e a) {s:Nat} {x:ez} {c:Bool} (I:look e s=σ x) (p:x.val= .bool c):S1 N ((s,.b c)::e) a:=by
 refine⟨h.1,λt y f=>?_⟩;simp only[look] at f;cases j:T4 s t with
 |true=>
  have:s=t:=Nat.eq_of_beq_eq_true j;subst this;simp only[j,cond_true,X0] at f;subst f;rw[h.2 s x I,p];rfl
 |false=>simp only[j,cond_false] at f;exact h.2 t y f
theorem xN {o:T0} {e:Env} {a:Act} {K:Env->x3->Prop} {Q:Exit->Act->x3->Prop} (h:rn P free ops o e w K) (f:S1 N e a) (p:jw N o.dst=true):
  (Region.wanted o (yielded ops a.tmps)=true/\o.wpIn (ev r) 0 P a w (fg N free K o a w) Q)\/
  (Region.wanted o (yielded ops a.tmps)=false/\fg N free K o a w (a.put o.dst undef) w):=by
 unfold rn at h;cases q:o.guard with
 |none=>rw[q] at h;exact .inl ⟨by simp[Region.wanted,q],rm h f p⟩
 |some F=>
  obtain⟨j,b⟩:=F;rw[q] at h;simp only at h;cases z:(ops[j]?).bind (·.dst) with
  |none=>rw[z] at h;exact h.elim
  |some s=>
   rw[z] at h;simp only at h;cases I:look e s with
   |none=>rw[I] at h;exact h.elim
   |some x=>
    rw[I] at h;cases x with
    |b c=>
     simp only at h;have hw:=rp f q z I (c:=c) rfl;cases E:xor c b with
     |true=>
      rw[E] at h hw;exact .inr ⟨hw,fg.of h f p rfl λ_=>cB.refl _ _⟩
     |false=>
      rw[E] at h hw;exact .inl ⟨hw,rm h f p⟩
    |v y=>
     simp only at h;obtain⟨c,rfl,A,B⟩:=h;have hw:=rp f q z I (c:=c) rfl;have C:=f.lit I (c:=c) rfl;cases c with
     |true=>
      have A:=A rfl;cases b with
      |true=>exact .inl ⟨hw,rm A C p⟩
      |false=>exact .inr ⟨hw,fg.of A C p rfl λ_=>cB.refl _ _⟩
     |false=>
      have B:=B rfl;cases b with
      |true=>exact .inr ⟨hw,fg.of B C p rfl λ_=>cB.refl _ _⟩
      |false=>exact .inl ⟨hw,rm B C p⟩
    |u=>exact .inr ⟨xM f q z I,fg.of h f p rfl λ_=>cB.refl _ _⟩
def gH (D:List Nat) (a a':Act):Prop:=a'.defers=a.defers/\ ∀t,t∉D->a'.tmps.getD t undef=a.tmps.getD t undef
theorem gH.refl (D:List Nat) (a:Act):gH D a a:=⟨rfl,λ_ _=>rfl⟩
theorem gH.trans {a b c:Act} (h:gH D a b) (k:gH D b c):gH D a c:=⟨k.1.trans h.1,λt e=>(k.2 t e).trans (h.2 t e)⟩
theorem gH.put (a:Act) {d:Option Tmp} (v:x1) (e:∀t,d=σ t->t∈D):gH D a (a.put d v):=by
 cases d with
 |none=>exact gH.refl _ _
 |some s=>
  refine⟨rfl,λt f=>?_⟩;have j:s≠t:=λh=>f (h▸e s rfl);simp only[Act.put,Array.getD_eq_getD_getElem?];rw[Array.getElem?_setIfInBounds_ne j]
def me (N:Nat) (free:fs) (K:Env->x3->Prop) (D:List Nat) (a:Act) (w:x3) (a':Act) (w':x3):Prop:=
 ∃e,K e w'/\S1 N e a'/\gH D a a'/\(free.1=false->cB free.2 w w')
theorem me.step {K:Env->x3->Prop} {a e a':Act} {J:x3} (h:me N free K D e J a' w') (hk:gH D a e) (j:free.1=false->cB free.2 w J):
  me N free K D a w a' w':=by
 obtain⟨p,h1,q,r,s⟩:=h;exact⟨p,h1,q,hk.trans r,λf=>(j f).trans (s f)⟩
def m3 (N:Nat) (l:List T0):Bool:=l.all λo=>jw N o.dst
theorem Fo {K:Env->x3->Prop} {Q:Exit->Act->x3->Prop} (B:∀o∈ops.toList,∀t,o.dst=σ t->t∈D) (y:m3 N ops.toList=true):
  ∀ (l:List T0) (k:Nat) (e:Env) (a:Act) (w:x3),(∀j,l[j]? =ops[k+j]?)->oj P free ops l e w K->S1 N e a->
   (∀a' w',me N free K D a w a' w'->Q .normal a' w')->wpOpsIn (ev r) 0 P ops Q (List.range' k l.length) a w:=by
 intro l;induction l with
 |nil=>
  intro k e a w _ h f p;exact p a w ⟨e,h,f,gH.refl _ _,λ_=>cB.refl _ _⟩
 |cons o l C=>
  intro k e a w z h f p;have q:=z 0;simp only[List.getElem?_cons_zero,Nat.add_zero] at q;have A:o∈ops.toList:=by
   have:=q.symm;rw[<-S5] at this;exact x5 this
  have E:jw N o.dst=true:=by
   simp only[m3,List.all_eq_true] at y;exact y o A
  have F:∀j,l[j]? =ops[k+1+j]?:=λj=>by
   have:=z (j+1);rw[List.getElem?_cons_succ] at this;rw[this];congr 1;omega
  have next:∀s J,fg N free (λG w'=>oj P free ops l G w' K) o a w s J->wpOpsIn (ev r) 0 P ops Q (List.range' (k+1) l.length) s J:=by
   rintro s J ⟨H,v,I,L,rfl,M⟩;refine C (k+1) H _ J F I L λa' w' O=>p a' w' (O.step (gH.put a v λt R=>B o A t R) M)
  simp only[oj] at h;show wpOpsIn (ev r) 0 P ops Q (k::List.range' (k+1) l.length) a w;unfold wpOpsIn;rw[<-q];simp only;rcases xN (r:=r) (Q:=Q) h f E with⟨hw,x⟩|⟨hw,x⟩
  .rw[if_pos hw];exact T0.wpIn_mono next x
  .rw[hw];exact⟨λ_ _=>trivial,next _ _ x⟩
theorem Fp {K:Env->x3->Prop} {Q:Exit->Act->x3->Prop} {id:Nat} {e:Env} {a:Act} (f:∀o∈ops.toList,∀t,o.dst=σ t->t∈D)
  (p:m3 N ops.toList=true) (h:oj P free ops ops.toList e w K) (q:S1 N e a) (s:∀a' w',me N free K D a w a' w'->Q .normal a' w'):
  (Code.region id ops false).wpIn (ev r) 0 P Q a w:=by
 refine wpIn_region ?_;have:=Fo (r:=r) f p ops.toList 0 e a w (λj=>Ξ) h q s;rw[List.range_eq_range'];simpa using this
end
section
variable {P:W3} {N:Nat} {r:Option Nat} {free:fs} {ops:Array T0} {Q:Exit->Act->x3->Prop}
theorem Fq (e:Option Nat) (o:T0) (I:∀cs b,o.op≠ .select cs b) (a:Act) (d:Option Tmp) (v:x1) (h:∀t,d=σ t->t∉o.looksAt ops):
  o.semAt e (a.put d v).eval=o.semAt e a.eval:=by
 have he:=execOp_put o I a d v h;unfold T0.semAt;split
 .rename_i l c f;have:resolve (a.put d v).eval c o.type=resolve a.eval c o.type:=resolve_congr c o.type λx j=>Act.eval_put λt p q=>h t p (by
   subst q;refine List.mem_append_left _ (List.mem_filterMap.2 ⟨.tmp t,?_,rfl⟩);rw[f];simpa[Op.operands] using j)
  rw[this]
 .exact he
def mf (o:T0) (w0:x3) (st:x3->Prop) (w':x3):Prop:=lA o=true\/Ext w0 w'\/ ∃J,st J/\Ext J w'
theorem mf.ext {o:T0} {w0:x3} {st:x3->Prop} (h:mf o w0 st w) (k:Ext w w'):mf o w0 st w':=by
 rcases h with h|h|⟨J,h1,a⟩
 .exact .inl h
 .exact .inr (.inl (h.trans k))
 .exact .inr (.inr ⟨J,h1,a.trans k⟩)
theorem Fr {o:T0} (hm:lA o=true) {e:S0->x1} (h:(execOp e o).run P w= .ok (.value v) w):(execOp e o).run P w'= .ok (.value v) w':=by
 unfold lA at hm;split at hm
 .rename_i x a;unfold execOp at h ⊢;simp only[a,W9,Result.ok.injEq,and_true] at h ⊢;exact h
 .rename_i x a;unfold execOp at h ⊢;simp only[a,W9,Result.ok.injEq,and_true] at h ⊢;exact h
 .rename_i x i a;unfold execOp at h ⊢;simp only[a] at h ⊢;exact ((Still.bind (Still.extract _ _) λ_=>Still.pure _) _ _ _ h).2 _
 .rename_i t x i a;unfold execOp at h ⊢;simp only[a] at h ⊢;exact ((Still.bind (Still.indexAt _ _ _) λ_=>Still.pure _) _ _ _ h).2 _
 .cases hm
def h2 (P:W3) (ops:Array T0) (o:T0) (v:x1) (a:Act) (w0:x3->Prop):Prop:=
 (Region.wanted o (yielded ops a.tmps)=true/\(∀c,o.op≠ .defer c)/\ ∀w',w0 w'->(execOp a.eval o).run P w'= .ok (.value v) w')\/
 (Region.wanted o (yielded ops a.tmps)=false/\v=undef)
theorem h2.put {o e:T0} {a:Act} {w0:x3->Prop} (f:h2 P ops o v a w0) (I:∀cs b,o.op≠ .select cs b) (h:∀t,e.dst=σ t->t∉o.looksAt ops) (u:x1):
  h2 P ops o v (a.put e.dst u) w0:=by
 unfold h2 at*;rw[execOp_put o I a e.dst u h,wanted_put o a e.dst u h];exact f
theorem h2.go {i:Nat} {e:T0} {a:Act} {w0:x3->Prop} (hi:ops[i]? =σ e) (f:h2 P ops e v a w0) (hw:w0 w) {K:Act->x3->Prop} (h:K (a.put e.dst v) w):
  wpOpIn (ev r) 0 P ops Q i K a w:=by
 unfold wpOpIn;simp only[hi];rcases f with⟨h1,j,p⟩|⟨h1,rfl⟩
 .rw[if_pos h1];refine⟨λ_ _=>trivial,?_⟩;rw[T0.semAt_eq _ _ _ j,p w hw,T0.uponIn_value];exact h
 .rw[h1];exact⟨λ_ _=>trivial,h⟩
theorem Fs {p s:T0} (B:ops[j]? =σ s) (C:p.apart ops s=true) (E:∀cs b,p.op≠ .select cs b) (F:∀cs b,s.op≠ .select cs b)
  (z:∀c a w,¬Q (.panic c) a w) {K:Act->x3->Prop} {a:Act} {w:x3} {w0:x3->Prop} (q:h2 P ops p v a w0) (h:wpOpIn (ev r) 0 P ops Q j K (a.put p.dst v) w):
  wpOpIn (ev r) 0 P ops Q j (λa' w'=>h2 P ops p v a' w0/\K (a'.put p.dst v) w') a w:=by
 obtain⟨h1,y,G⟩:=T0.apart_spec C;have aW:∀ (a:Act),h2 P ops p v a w0-> ∀u,h2 P ops p v (a.put s.dst u) w0:=λa q u=>q.put E G u;have H:∀d,h2 P ops p v {a with defers:=d::a.defers} w0:=λd=>q;unfold wpOpIn at*;simp only[B] at*;rw[wanted_put s a p.dst v h1] at h;split
 .rename_i hw;simp only[hw,if_true] at h;obtain⟨_,h⟩:=h;refine⟨λ_ _=>trivial,?_⟩;rw[Fq _ s F a p.dst v h1] at h;generalize (s.semAt (ev r).round a.eval).run P w=res at*;cases res with
  |ok n w'=>
   cases n<;>simp only[T0.uponIn] at h ⊢
   case value u=>exact⟨aW a q u,by rw[<-Act.put_comm a v u y];exact h⟩
   case skip=>exact⟨aW a q _,by rw[<-Act.put_comm a v undef y];exact h⟩
   case defer d=>
    refine⟨aW _ (H d) _,?_⟩;rw[<-Act.put_comm _ v undef y,<-Act.put_defers];exact h
   case enter f args=>
    refine⟨h.1,CallsIn.mono h.2 λe A he=>?_⟩;cases e with
    |returned u=>exact⟨aW a q u,by rw[<-Act.put_comm a v u y];exact he⟩
    |panicked c=>exact absurd he (z _ _ _)
    |outgrown=>exact he
   case row row args=>exact⟨h.1,RowsIn.mono h.2 λu A he=>⟨aW a q u,by rw[<-Act.put_comm a v u y];exact he⟩⟩
   case round l f tmps I body=>
    refine⟨h.1,RoundIn.mono h.2 λe A he=>?_⟩;cases e with
    |returned u=>exact⟨aW a q u,by rw[<-Act.put_comm a v u y];exact he⟩
    |panicked c=>exact absurd he (z _ _ _)
    |outgrown=>exact he
  |halt x w'=>
   cases x<;>simp only[T0.uponIn] at h ⊢
   case panic u=>exact absurd h (z _ _ _)
 .rename_i hw;simp only[hw] at h;exact⟨λ_ _=>trivial,aW a q _,by rw[<-Act.put_comm a v undef y];exact h.2⟩
def lB (ops:Array T0) (bs:Array Nat):Bool:=
 (V1 ops.size).all λj=>(V1 ops.size).all λk=>!((bs.getD j 0).testBit k)||
  (match ops[j]? with
   |some o=>o.after.any λe=>Region.binds .any e&&Nat.blt e.on j&&(T4 e.on k||(bs.getD e.on 0).testBit k)
   |none=>false)
def Down (ops:Array T0) (a:Array Bool):Prop:=
 ∀ (x:Nat) (o:T0),ops[x]? =σ o->a.getD x false=true-> ∀e∈o.after,Region.binds .any e=true->a.getD e.on false=true
theorem xO {bs:Array Nat} (f:lB ops bs=true) {k:Nat} (q:j<ops.size) (hk:k<ops.size) (h:(bs.getD j 0).testBit k=true):
  ∃o,ops[j]? =σ o/\ ∃e∈o.after,Region.binds .any e=true/\e.on<j/\(e.on=k\/(bs.getD e.on 0).testBit k=true):=by
 simp only[lB,List.all_eq_true,List.mem_range] at f;have:=f j q k hk;rw[h] at this;simp only[Y4,Bool.false_or] at this;cases p:ops[j]? with
 |none=>rw[p] at this;cases this
 |some o=>
  rw[p] at this;obtain⟨e,he,a⟩:=Array.any_eq_true'.1 this;simp only[U4,Nat.blt_eq,Bool.or_eq_true] at a;exact⟨o,rfl,e,he,a.1.1,a.1.2,a.2.imp (λh=>Nat.eq_of_beq_eq_true h) id⟩
theorem Ft {bs:Array Nat} {a:Array Bool} (p:lB ops bs=true) (q:Down ops a):∀ (j k:Nat),j<ops.size->k<ops.size->a.getD j false=true->
  (bs.getD j 0).testBit k=true->a.getD k false=true:=by
 intro j;induction j using Nat.strongRecOn with
 |_ j r=>
  intro k s hk w h;obtain⟨o,x,e,he,y,z,h⟩:=xO p s hk h;have f:=q j o x w e he y;rcases h with rfl|h
  .exact f
  .exact r e.on z k Ω hk f h
theorem xP {bs:Array Nat} {a:Array Bool} (f:lB ops bs=true) (s:Down ops a) {k:Nat} (hk:k<ops.size) (w:j∈Region.ready .any ops a)
  (h:(bs.getD j 0).testBit k=true):a.getD k false=true:=by
 obtain⟨_,o,p,x⟩:=mem_ready.1 w;have y:=(j0.1 p).1;obtain⟨o',q,e,he,z,A,h⟩:=xO f y hk h;rw[p] at q;cases q;have r:=x e he z;rcases h with rfl|h
 .exact r
 .exact Ft f s e.on k Ω hk r h
theorem Down.set {a:Array Bool} (r:Down ops a) {i:Nat} (s:i∈Region.ready .any ops a):Down ops (a.setIfInBounds i true):=by
 intro x o f h e he j;by_cases p:x=i
 .subst p;obtain⟨_,o',q,w⟩:=mem_ready.1 s;rw[f] at q;cases q;exact getD_set_true (w e he j)
 .rw[getD_set_ne false (S3 p)] at h;exact getD_set_true (r x o f h e he j)
theorem ul {a:Array Bool} {k:Nat} (h:a.getD k true=false):a.getD k false=false:=by
 rcases Nat.lt_or_ge k a.size with h'|h'
 .simpa[h'] using h
 .simp[Array.getElem?_eq_none h'] at h
def mg (ops:Array T0) (i:Nat):Bool:=match ops[i]? with
 |some o=>ja o
 |none=>false
def mh (bs:Array Nat) (a:List (x3×List (Nat×(x3->Prop)))) (j:Nat) (w':x3):Prop:=∀g∈a,∀x∈g.2,kG bs j x.1=true->Ext g.1 w'\/x.2 w'
theorem um {bs:Array Nat} {j:Nat} {w':x3}:∀ {l:List (Nat×(x3->Prop))},ol bs j w' l-> ∀x∈l,kG bs j x.1=true->x.2 w'
 |[],_,_,h,_=>by cases h
 |y::l,h,x,a,hu=>by
  unfold ol at h;cases e:kG bs j y.1 with
  |true=>
   rw[e] at h;cases a with
   |head=>exact h.1
   |tail _ a=>exact um h.2 x a hu
  |false=>
   rw[e] at h;cases a with
   |head=>rw[e] at hu;cases hu
   |tail _ a=>exact um (show ol bs j w' l from h) x a hu
theorem xQ {bs:Array Nat} {j:Nat}:∀ {l:List (Nat×(x3->Prop))},pC bs j l=false-> ∀x∈l,kG bs j x.1=false
 |[],_,_,h=>by cases h
 |y::l,h,x,a=>by
  simp only[pC,S2] at h;cases a with
  |head=>exact h.1
  |tail _ a=>exact xQ h.2 x a
theorem uo {bs:Array Nat} {j:Nat} {w':x3} {C:Prop}:∀ {s:List (x3×List (Nat×(x3->Prop)))},mZ bs j w' C s->C/\mh bs s j w'
 |[],h=>⟨h,λg w=>by cases w⟩
 |g::r,h=>by
  unfold mZ at h;cases hu:pC bs j g.2 with
  |true=>
   rw[hu] at h;obtain⟨h1,p⟩:=uo h.2;refine⟨h1,λq a x f e=>?_⟩;cases a with
   |head=>exact h.1.imp id λh=>um h x f e
   |tail _ a=>exact p q a x f e
  |false=>
   rw[hu] at h;obtain⟨h1,p⟩:=uo (show mZ bs j w' C r from h);refine⟨h1,λq a x f e=>?_⟩;cases a with
   |head=>rw[xQ hu x f] at e;cases e
   |tail _ a=>exact p q a x f e
def uq (ops:Array T0) (bs:Array Nat) (a:List (x3×List (Nat×(x3->Prop)))) (j:Nat) (w w':x3):Prop:=(mg ops j=true->Ext w w')/\(mg ops j=false->mh bs a j w')
def iz (r:Option Nat) (P:W3) (ops:Array T0) (bs:Array Nat) (Q:Exit->Act->x3->Prop):Nat->Array Bool->List (x3×List (Nat×(x3->Prop)))->Act->x3->Prop
 |0,e,_,a,w=>Region.ready .any ops e=[]/\Q .normal a w
 |fuel+1,e,f,a,w=>(Region.ready .any ops e=[]->Q .normal a w)/\
  ∀i∈Region.ready .any ops e,wpOpIn (ev r) 0 P ops Q i (λa' w'=>uq ops bs f i w w'/\iz r P ops bs Q fuel (e.setIfInBounds i true) f a' w') a w
theorem iz.any {bs:Array Nat}:∀ (fuel:Nat) (e:Array Bool) (f:List (x3×List (Nat×(x3->Prop)))) (a:Act) (w:x3),iz r P ops bs Q fuel e f a w->wpAnyIn (ev r) 0 P .any ops Q fuel e a w
 |0,_,_,_,_,h=>h
 |fuel+1,_,_,_,_,h=>⟨h.1,λi hi=>wpOpIn_mono (λa' w' h'=>iz.any fuel _ _ a' w' h'.2) (h.2 i hi)⟩
theorem Fu {bs:Array Nat} {a:Array Bool} (e:lB ops bs=true) (f:Down ops a) {i:Nat} {r:T0} (hi:ops[i]? =σ r)
  (p:i∈Region.ready .any ops a) (q:j∈Region.ready .any ops a) (s:j≠i):kG bs j i=true:=by
 have w:=(j0.1 hi).1;obtain⟨x,B,y,_⟩:=mem_ready.1 q;have z:=(j0.1 y).1;have A:=(mem_ready.1 p).1;simp only[kG,U4,Bool.not_eq_true'];refine⟨?_,?_,?_⟩
 .cases h:T4 i j with
  |true=>exact absurd (Nat.eq_of_beq_eq_true h).symm s
  |false=>rfl
 .cases h:(bs.getD j 0).testBit i with
  |true=>have:=xP e f w q h;rw[ul A] at this;cases this
  |false=>rfl
 .cases h:(bs.getD i 0).testBit j with
  |true=>have:=xP e f z p h;rw[ul x] at this;cases this
  |false=>rfl
theorem iz.take {bs:Array Nat} (S:lB ops bs=true) (T:Region.noSelect ops=true) (U:∀c a w,¬Q (.panic c) a w) {i:Nat} {p:T0} (hi:ops[i]? =σ p) (V:ja p=true)
  {w0:x3} {A ev':List (x3×List (Nat×(x3->Prop)))} (G:∀j w',mh bs ev' j w'->mh bs A j w') {st:x3->Prop} (W:lA p=false-> ∀j w',kG bs j i=true->mh bs ev' j w'->Ext w0 w'\/st w'):
  ∀ (fuel:Nat) (f:Array Bool) (a:Act) (w:x3),Down ops f->
   (∀j y,ops[j]? =σ y->j≠i->f.getD j true=false->(∀e∈y.after,Region.binds .any e=true->e.on≠i)->p.apart ops y=true)->
   i∈Region.ready .any ops f->h2 P ops p v a (mf p w0 st)->mf p w0 st w->
   iz r P ops bs Q fuel (f.setIfInBounds i true) ev' (a.put p.dst v) w->iz r P ops bs Q (fuel+1) f A a w:=by
 have I:=Region.noSelect_spec T;have X:mg ops i=true:=by simp[mg,hi,V]
 have hL:∀ (fuel:Nat) (f:Array Bool) (a:Act) (w:x3),iz r P ops bs Q fuel f ev' a w->iz r P ops bs Q fuel f A a w:=by
  intro fuel;induction fuel with
  |zero=>intro f a w h;exact h
  |succ fuel C=>intro f a w h;exact⟨h.1,λj s=>wpOpIn_mono (λa' w' h'=>⟨⟨h'.1.1,λE=>G _ _ (h'.1.2 E)⟩,C _ a' w' h'.2⟩) (h.2 j s)⟩
 have J:∀w,uq ops bs A i w w:=λw=>⟨λ_=>Ext.refl _,λh=>by rw[X] at h;cases h⟩;intro fuel;induction fuel with
 |zero=>
  intro f a w _ _ x B hw H;refine⟨λh=>(by rw[h] at x;cases x),λj s=>?_⟩;by_cases q:j=i
  .subst q;exact B.go hi hw ⟨J w,hL _ _ _ _ H⟩
  .have:=ready_mono s q;rw[H.1] at this;cases this
 |succ fuel C=>
  intro f a w K L x B hw H;refine⟨λh=>(by rw[h] at x;cases x),λj s=>?_⟩;by_cases q:j=i
  .subst q;exact B.go hi hw ⟨J w,hL _ _ _ _ H⟩
  .have h1:=H.2 j (ready_mono s q);have hu:=Fu S K hi x s q;obtain⟨M,y,F,Y⟩:=mem_ready.1 s;have Z:∀e∈y.after,Region.binds .any e=true->e.on≠i:=λe he aa ab=>by
    have h1:=Y e he aa;rw[ab,ul (mem_ready.1 x).1] at h1;cases h1
   have ac:=Fs F (L j y F q M Z) (λcs b=>I i p cs b hi) (λcs b=>I j y cs b F) U B h1;have ad:∀k ok,ops[k]? =σ ok->k≠i->(f.setIfInBounds j true).getD k true=false->
     (∀e∈ok.after,Region.binds .any e=true->e.on≠i)->p.apart ops ok=true:=λk ok hk ae N af=>by
    refine L k ok hk ae ?_ af;by_cases O:j=k
    .subst O;exact M
    .rw[getD_set_ne true O] at N;exact N
   refine wpOpIn_mono (λa' w' z=>⟨⟨z.2.1.1,λE=>G _ _ (z.2.1.2 E)⟩,C (f.setIfInBounds j true) a' w' (K.set s) ad (ready_mono x (S3 q)) z.1 ?_ ?_⟩) ac
   .cases hm:lA p with
    |true=>exact .inl hm
    |false=>
     cases R:mg ops j with
     |true=>exact hw.ext (z.2.1.1 R)
     |false=>exact .inr ((W hm j w' hu (z.2.1.2 R)).imp id λh=>⟨w',h,Ext.refl _⟩)
   .rw[Array.setIfInBounds_comm _ _ q];exact z.2.2
theorem xR {p:Nat->Prop}:∀ {l:List Nat},uj p l-> ∀i∈l,p i
 |[],_,_,h=>by cases h
 |[i],h,j,a=>by cases a with
  |head=>exact h
  |tail _ h=>cases h
 |i::k::l,h,j,a=>by
  obtain⟨h1,e⟩:=h;cases a with
  |head=>exact h1
  |tail _ a=>exact xR e j a
theorem ur:∀ {l:List Nat} {q:Nat},mc ops l=σ q->q∈l/\ ∃o,ops[q]? =σ o/\ja o=true
 |[],q,h=>by cases h
 |i::l,q,h=>by
  simp only[mc] at h;cases a:ops[i]? with
  |none=>rw[a] at h;obtain⟨h1,e⟩:=ur h;exact⟨.tail _ h1,e⟩
  |some o=>
   rw[a] at h;simp only at h;cases f:ja o with
   |true=>rw[f] at h;simp only[cond_true,X0] at h;subst h;exact⟨.head _,o,a,f⟩
   |false=>rw[f] at h;obtain⟨h1,e⟩:=ur h;exact⟨.tail _ h1,e⟩
theorem Fv {o:T0} {e:Env} {a:Act} {K:Env->(x3->Prop)->Prop} (h:ui P ops o e w K) (f:S1 N e a) (F:jw N o.dst=true):
  ∃v st,h2 P ops o v a (mf o w st)/\ ∃p,K p st/\S1 N p (a.put o.dst v):=by
 unfold ui at h;have z:∀ {e:Env},S1 N e a->ly P o e w K->Region.wanted o (yielded ops a.tmps)=true-> ∃v st,h2 P ops o v a (mf o w st)/\ ∃p,K p st/\S1 N p (a.put o.dst v):=λf h hw=>by
  obtain⟨v,st,h1,G,H,L⟩:=xL h f F;exact⟨v,st,.inl ⟨hw,H,λw' A=>A.elim (λhm=>Fr hm (h1 w (Ext.refl w))) λh=>h.elim (h1 w') λ⟨J,M,O⟩=>L J M w' O⟩,G⟩
 have skip:∀ {e:Env},S1 N e a->K (dY e o.dst .u) (λ_=>True)->Region.wanted o (yielded ops a.tmps)=false-> ∃v st,h2 P ops o v a (mf o w st)/\ ∃p,K p st/\S1 N p (a.put o.dst v):=λf h hw=>
  ⟨undef,_,.inr ⟨hw,rfl⟩,_,h,f.put F rfl⟩
 cases q:o.guard with
 |none=>rw[q] at h;exact z f h (by simp[Region.wanted,q])
 |some Q=>
  obtain⟨j,b⟩:=Q;rw[q] at h;simp only at h;cases r:(ops[j]?).bind (·.dst) with
  |none=>rw[r] at h;exact h.elim
  |some s=>
   rw[r] at h;simp only at h;cases I:look e s with
   |none=>rw[I] at h;exact h.elim
   |some x=>
    rw[I] at h;cases x with
    |b c=>
     simp only at h;have hw:=rp f q r I (c:=c) rfl;cases A:xor c b with
     |true=>rw[A] at h hw;exact skip f h hw
     |false=>rw[A] at h hw;exact z f h hw
    |v y=>
     simp only at h;obtain⟨c,rfl,B,C⟩:=h;have hw:=rp f q r I (c:=c) rfl;have E:=f.lit I (c:=c) rfl;cases c with
     |true=>
      have B:=B rfl;cases b with
      |true=>exact z E B hw
      |false=>exact skip E B hw
     |false=>
      have C:=C rfl;cases b with
      |true=>exact skip E C hw
      |false=>exact z E C hw
    |u=>exact skip f h (xM f q r I)
theorem uu:∀ {l:List Nat},mc ops l=ν-> ∀j∈l,mg ops j=false
 |[],_,_,h=>by cases h
 |i::l,h,j,a=>by
  simp only[mc] at h;cases e:ops[i]? with
  |none=>
   rw[e] at h;cases a with
   |head=>simp[mg,e]
   |tail _ a=>exact uu h j a
  |some o=>
   rw[e] at h;simp only at h;cases f:ja o with
   |true=>rw[f] at h;cases h
   |false=>
    rw[f] at h;cases a with
    |head=>simp[mg,e,f]
    |tail _ a=>exact uu h j a
theorem Fw {bs:Array Nat} {same:Bool} {q:Nat} {st:x3->Prop} {a:List (x3×List (Nat×(x3->Prop)))} (I:same=true-> ∃ks r,a=(w,ks)::r):
  (∀j w',mh bs (pB same q w st a) j w'->mh bs a j w')/\(∀j w',kG bs j q=true->mh bs (pB same q w st a) j w'->Ext w w'\/st w')/\ ∃ks r,pB same q w st a=(w,ks)::r:=by
 cases same with
 |true=>
  obtain⟨ks,r,rfl⟩:=I rfl;refine⟨λj w' h g e x f hu=>?_,λj w' hu h=>h (w,(q,st)::ks) (.head _) (q,st) (.head _) hu,_,_,rfl⟩;cases e with
  |head=>exact h (w,(q,st)::ks) (.head _) x (.tail _ f) hu
  |tail _ e=>exact h g (.tail _ e) x f hu
 |false=>
  refine⟨λj w' h g e x f hu=>h g (.tail _ e) x f hu,λj w' hu h=>h (w,[(q,st)]) (.head _) (q,st) (.head _) hu,_,_,rfl⟩
theorem Fx {K:Env->x3->Prop} {bs:Array Nat} (V:lB ops bs=true) (W:Region.noSelect ops=true) (X:∀c a w,¬Q (.panic c) a w)
  (M:∀o∈ops.toList,∀t,o.dst=σ t->t∈D) (Y:m3 N ops.toList=true):
  ∀ (fuel:Nat) (p:Array Bool) (same:Bool) (s:List (x3×List (Nat×(x3->Prop)))) (e:Env) (a:Act) (w:x3),Down ops p->(same=true-> ∃ks r,s=(w,ks)::r)->
   md P free ops bs fuel p same s e w K->S1 N e a->
   (∀a' w',me N free K D a w a' w'->Q .normal a' w')->iz r P ops bs Q fuel p s a w:=by
 have F:∀ {j:Nat} {o:T0},ops[j]? =σ o->o∈ops.toList:=λh=>by
  rw[<-S5] at h;exact x5 h
 have ok:∀ {j:Nat} {o:T0},ops[j]? =σ o->jw N o.dst=true:=λh=>by
  simp only[m3,List.all_eq_true] at Y;exact Y _ (F h)
 intro fuel;induction fuel with
 |zero=>
  intro p same s e a w A O h C B;unfold md at h;cases y:Region.ready .any ops p with
  |nil=>rw[y] at h;exact⟨y,B a w ⟨e,h,C,gH.refl _ _,λ_=>cB.refl _ _⟩⟩
  |cons i l=>rw[y] at h;exact h.elim
 |succ fuel R=>
  intro p same s e a w A O h C B;unfold md at h;cases y:Region.ready .any ops p with
  |nil=>
   rw[y] at h;refine⟨λ_=>B a w ⟨e,h,C,gH.refl _ _,λ_=>cB.refl _ _⟩,λi hi=>?_⟩;rw[y] at hi;cases hi
  |cons i l=>
   rw[y] at h;simp only at h;cases G:mc ops (i::l) with
   |some q=>
    rw[G] at h;simp only at h;obtain⟨ae,o,f,Z⟩:=ur G;cases H:Region.free .any ops p q with
    |false=>rw[H] at h;exact h.elim
    |true=>
     rw[H,f] at h;simp only[cond_true] at h;obtain⟨v,st,aa,I,z,ab⟩:=Fv h C (ok f);have L:q∈Region.ready .any ops p:=by rw[y];exact ae
     cases hm:lA o with
     |true=>
      rw[hm] at z;refine iz.take V W X f Z (w0:=w) (ev':=s) (λ_ _ h=>h) (λh=>by rw[hm] at h;cases h) fuel p a w A (Region.free_spec f H) L aa (.inr (.inl (Ext.refl _))) ?_;exact R _ same s I _ w (A.set L) O z ab λa' w' x=>B a' w' (x.step (gH.put a v λt E=>M o (F f) t E) λ_=>cB.refl _ _)
     |false=>
      rw[hm] at z;obtain⟨h1,af,ag⟩:=Fw (bs:=bs) (q:=q) (st:=st) O;refine iz.take V W X f Z (w0:=w) (ev':=pB same q w st s) h1 (λ_=>af) fuel p a w A (Region.free_spec f H) L aa (.inr (.inl (Ext.refl _))) ?_;exact R _ true _ I _ w (A.set L) (λ_=>ag) z ab λa' w' x=>B a' w' (x.step (gH.put a v λt E=>M o (F f) t E) λ_=>cB.refl _ _)
   |none=>
    rw[G] at h;simp only at h;refine⟨(λac=>by rw[y] at ac;cases ac),λj ad=>?_⟩;have S:=ad;rw[y] at S;have ah:=uu G j S;have x:=xR h j S;cases f:ops[j]? with
    |none=>rw[f] at x;exact x.elim
    |some o=>
     rw[f] at x;simp only at x;unfold wpOpIn;simp only[f];have next:∀T J,fg N free (λI w'=>mZ bs j w' (md P free ops bs fuel (p.setIfInBounds j true) false s I w' K) s) o a w T J->
       uq ops bs s j w J/\iz r P ops bs Q fuel (p.setIfInBounds j true) s T J:=by
      rintro T J ⟨ai,v,z,aj,rfl,ak⟩;obtain⟨z,al⟩:=uo z;exact⟨⟨λh=>(by rw[ah] at h;cases h),λ_=>al⟩,
       R _ false s ai _ J (A.set ad) (λh=>by cases h) z aj λa' w' x=>B a' w' (x.step (gH.put a v λt E=>M o (F f) t E) ak)⟩
     rcases xN (r:=r) (Q:=Q) x C (ok f) with⟨hw,U⟩|⟨hw,U⟩
     .rw[if_pos hw];exact T0.wpIn_mono next U
     .rw[hw];exact⟨λ_ _=>trivial,next _ _ U⟩
theorem Fy (hm:P.follows .mixedOrders=true) {K:Env->x3->Prop} {id:Nat} {e:Env} {a:Act} (p:lB ops (Region.before ops)=true) (q:∀c a w,¬Q (.panic c) a w)
  (s:∀o∈ops.toList,∀t,o.dst=σ t->t∈D) (y:m3 N ops.toList=true)
  (h:∀w',Ext w w'->Ext w' w->cM w w'->uk P free ops e w' K) (z:S1 N e a) (A:∀a' w',me N free K D a w a' w'->Q .normal a' w'):
  (Code.region id ops true).wpIn (ev r) 0 P Q a w:=by
 refine wpIn_region_any hm ?_;have h:=h {w with drawn:=w.drawn+1} (rh w _) ⟨o4 _,λ_ _ h _=>h⟩ (pw w _ (Nat.le_succ _));unfold uk at h;cases f:Region.noSelect ops with
 |false=>rw[f] at h;exact h.elim
 |true=>
  rw[f] at h;refine iz.any _ _ _ _ _ (Fx p f q s y ops.size _ false [] e a _ ?_ (λh=>by cases h) h z λa' w' B=>A a' w' (B.step (gH.refl _ _) λ_=>(pw w _ (Nat.le_succ _)).b));intro x o _ j;rcases Nat.lt_or_ge x ops.size with h'|h'
  .simp[h'] at j
  .simp[h'] at j
end
def jb (t:Nat):List Nat->Bool
 |[]=>false
 |s::r=>bif T4 s t then true else jb t r
theorem uv {t:Nat}:∀ {l:List Nat},jb t l=true↔t∈l
 |[]=>by simp[jb]
 |s::r=>by
  simp only[jb];cases h:T4 s t with
  |true=>simp[Nat.eq_of_beq_eq_true h]
  |false=>
   have:=Nat.ne_of_beq_eq_false h;simp[uv (l:=r),S3 this]
def m4:List T0->List Nat
 |[]=>[]
 |o::l=>match o.dst with
  |some d=>d::m4 l
  |none=>m4 l
def tmpsOf:List S0->List Nat
 |[]=>[]
 | .tmp t::l=>t::tmpsOf l
 |_::l=>tmpsOf l
def Fz (ops:Array T0) (o:T0):List Nat:=
 match o.guard with
 |some (j,_)=>match (ops[j]?).bind (·.dst) with
  |some s=>[s]
  |none=>[]
 |none=>[]
def rq (D:List Nat):List Nat->List Nat
 |[]=>[]
 |t::r=>bif jb t D then rq D r else t::rq D r
def uw (D:List Nat):List Nat->List Nat
 |[]=>[]
 |t::r=>bif jb t D then t::uw D r else uw D r
def xS (ops:Array T0):List T0->List Nat->List Nat
 |[],_=>[]
 |o::l,D=>rq D (tmpsOf (opsOf o.op)++Fz ops o)++xS ops l (match o.dst with
  |some d=>d::D
  |none=>D)
def dz:Code->List Nat
 | .region _ ops _=>m4 ops.toList
 | .seq a b=>dz a++dz b
 | .cond _ a b=>dz a++dz b
 | .block _ c=>dz c
 | .loop c=>dz c
 | .scope c=>dz c
 |_=>[]
def jx (id:Nat):Code->Nat
 | .seq a b=>jx id a+jx id b
 | .cond _ a b=>jx id a+jx id b
 | .block _ c=>jx id c
 | .loop c=>jx id c
 | .scope c=>jx id c
 | .exit i=>bif T4 i id then 1 else 0
 | .rangeFunc _ _ _ b=>jx id b
 |_=>0
def FA (ops:Array T0):Bool:=
 let bs:=Region.before ops;let a:=λ(i:Nat)=>match ops[i]? with|some o=>!(ja o)|none=>false
 (V1 ops.size).any λj=>a j&&((V1 j).any λi=>a i&&(!((bs.getD j 0).testBit i)&& !((bs.getD i 0).testBit j)))
def kH:Code->Nat
 | .region _ ops e=>bif (e&&FA ops)||ops.any (·.guard.isSome) then 2 else 1
 | .seq a b=>bif T4 (kH a) 0 then 0 else kH b
 | .cond _ a b=>kH a+kH b
 | .block id c=>kH c+jx id c
 | .loop _=>0
 | .scope c=>kH c
 | .exit _=>0
 | .goto _=>0
 | .ret=>0
 | .refuse _=>0
 |_=>1
def lC:Code->List Nat
 | .region _ ops _=>m4 ops.toList
 | .seq a b=>lC a++lC b
 | .cond _ a b=>bif T4 (kH a) 0 then lC b else bif T4 (kH b) 0 then lC a else uw (lC a) (lC b)
 | .block id c=>bif T4 (jx id c) 0 then lC c else[]
 | .scope c=>lC c
 |_=>[]
def reads:Code->List Nat
 | .region _ ops _=>xS ops ops.toList []
 | .seq a b=>reads a++rq (lC a) (reads b)
 | .cond c a b=>tmpsOf [c]++(reads a++reads b)
 | .block _ c=>reads c
 | .loop c=>reads c
 | .scope c=>reads c
 | .rangeFunc f _ a b=>tmpsOf [f]++(reads a++reads b)
 |_=>[]
def ka:Code->Bool
 | .seq a b=>ka a||ka b
 | .cond _ a b=>ka a||ka b
 | .block _ c=>ka c
 | .loop c=>ka c
 | .scope c=>ka c
 | .rangeFunc ..=>true
 |_=>false
def wf (N:Nat):Code->Bool
 | .region _ ops e=>m3 N ops.toList&&(!e||lB ops (Region.before ops))
 | .seq a b=>wf N a&&wf N b
 | .cond _ a b=>wf N a&&wf N b
 | .block _ c=>wf N c
 | .loop c=>wf N c
 | .scope c=>wf N c
 | .rangeFunc _ f a b=>(f.toList.all λt=>Nat.blt t N)&&(wf N a&&wf N b)
 |_=>true
def m8:Nat->Type->Type
 |0,β=>β
 |n+1,β=>x1->m8 n β
def app {β:Type}:(n:Nat)->m8 n β->List x1->β
 |0,f,_=>f
 |n+1,f,[]=>app n (f undef) []
 |n+1,f,v::r=>app n (f v) r
def lam {β:Type}:(n:Nat)->(List x1->β)->m8 n β
 |0,f=>f []
 |n+1,f=>λv=>lam n λr=>f (v::r)
def rr:(n:Nat)->m8 n Prop->Prop
 |0,p=>p
 |n+1,p=>∀v,rr n (p v)
theorem rt {β:Type}:∀ (n:Nat) (f:List x1->β) (vs:List x1),vs.length=n->app n (lam n f) vs=f vs
 |0,f,[],_=>rfl
 |n+1,f,v::r,h=>by
  simp only[app,lam];exact rt n _ r (by simpa using h)
theorem ru:∀ (n:Nat) (p:m8 n Prop) (vs:List x1),rr n p->app n p vs
 |0,_,_,h=>h
 |n+1,_,[],h=>ru n _ [] (h undef)
 |n+1,_,v::r,h=>ru n _ r (h v)
def FB (n:Nat) (vs:List x1) (w:x3) (B:List x1->x3->(List x1->x3->Prop)->Prop):Prop:=
 ∃ (a:m8 n (x3->Prop)) (e:m8 n (x3->Nat)),app n a vs w/\
  rr n (lam n λus=>∀w',app n a us w'->B us w' λf h=>app n a f h/\app n e f h<app n e us w')
def FC (w:x3) (B:x3->(x3->Prop)->Prop):Prop:=
 ∃ (a:x3->Prop) (e:x3->Nat),a w/\ ∀w',a w'->B w' λf=>a f/\e f<e w'
def ch (a:x1) (w:x3) (B:x1->x3->(x1->x3->Prop)->Prop):Prop:=
 ∃ (e:x1->x3->Prop) (f:x1->x3->Nat),e a w/\ ∀a w',e a w'->B a w' λa' h=>e a' h/\f a' h<f a w'
def b1 (a b:x1) (w:x3) (B:x1->x1->x3->(x1->x1->x3->Prop)->Prop):Prop:=
 ∃ (e:x1->x1->x3->Prop) (f:x1->x1->x3->Nat),e a b w/\ ∀a b w',e a b w'->B a b w' λa' h j=>e a' h j/\f a' h j<f a b w'
def om (a b c:x1) (w:x3) (B:x1->x1->x1->x3->(x1->x1->x1->x3->Prop)->Prop):Prop:=
 ∃ (e:x1->x1->x1->x3->Prop) (f:x1->x1->x1->x3->Nat),e a b c w/\
  ∀a b c w',e a b c w'->B a b c w' λa' h j p=>e a' h j p/\f a' h j p<f a b c w'
def rv (a b c d:x1) (w:x3) (B:x1->x1->x1->x1->x3->(x1->x1->x1->x1->x3->Prop)->Prop):Prop:=
 ∃ (e:x1->x1->x1->x1->x3->Prop) (f:x1->x1->x1->x1->x3->Nat),e a b c d w/\
  ∀a b c d w',e a b c d w'->B a b c d w' λa' h j p q=>e a' h j p q/\f a' h j p q<f a b c d w'
def pD (a b c d e:x1) (w:x3) (B:x1->x1->x1->x1->x1->x3->(x1->x1->x1->x1->x1->x3->Prop)->Prop):Prop:=
 ∃ (f:x1->x1->x1->x1->x1->x3->Prop) (h:x1->x1->x1->x1->x1->x3->Nat),f a b c d e w/\ ∀a b c d e w',f a b c d e w'->B a b c d e w' λa' j p q r s=>f a' j p q r s/\h a' j p q r s<h a b c d e w'
def FD (a b c d e f:x1) (w:x3) (B:x1->x1->x1->x1->x1->x1->x3->(x1->x1->x1->x1->x1->x1->x3->Prop)->Prop):Prop:=
 ∃ (h:x1->x1->x1->x1->x1->x1->x3->Prop) (j:x1->x1->x1->x1->x1->x1->x3->Nat),h a b c d e f w/\ ∀a b c d e f w',h a b c d e f w'->B a b c d e f w' λa' p q r s x y=>h a' p q r s x y/\j a' p q r s x y<j a b c d e f w'
def cm {α:Type} (av:α) (B:α->Prop):Prop:=B av
def ux (n:Nat) (w:x3) (K:x3->Prop):Prop:=∀w',Ext w w'->Ext w' w/\fq n w w'->K w'
def Over (n:Nat) (w:x3) (K:x3->Prop):Prop:=∀w',Ext w w'->Ext w' w/\fq n w w'->eW w w'->K w'
def eo (w:x3) (K:x3->Prop):Prop:=∀w',Ext w w'->Ext w' w->cM w w'->K w'
def kb (e:Env):List Nat->Option (List x1)
 |[]=>σ []
 |t::r=>match look e t with
  |some x=>match kb e r with
   |some vs=>σ (x.val::vs)
   |none=>ν
  |none=>ν
def jc:List Nat->List x1->Env->Env
 |t::r,v::vs,e=>(t,.v v)::jc r vs e
 |_,_,e=>e
def lD (D:List Nat):Env->Env
 |[]=>[]
 |(t,x)::r=>bif jb t D then lD D r else (t,x)::lD D r
def pE (N:Nat) (D R:List Nat):List Nat:=(V1 N).filter λt=>jb t D&&jb t R
def pF (N:Nat) (D R:List Nat) (e:Env):List Nat:=(V1 N).filter λt=>jb t D&&((look e t).isSome&&jb t R)
def jd:Code->Bool
 | .seq a b=>jd a||jd b
 | .cond _ a b=>jd a||jd b
 | .block _ c=>jd c
 | .loop c=>jd c
 | .scope c=>jd c
 | .rangeFunc _ _ a b=>jd a||jd b
 | .ret=>true
 |_=>false
def FE (i:Nat) (l:List Nat):List Nat:=bif jb i l then l else i::l
def rx:List Nat->List Nat->List Nat
 |[],l=>l
 |i::r,l=>FE i (rx r l)
def uy (i:Nat):List Nat->List Nat
 |[]=>[]
 |j::r=>bif T4 i j then uy i r else j::uy i r
def jy:Code->List Nat
 | .seq a b=>rx (jy a) (jy b)
 | .cond _ a b=>rx (jy a) (jy b)
 | .block id c=>uy id (jy c)
 | .loop c=>jy c
 | .scope c=>jy c
 | .rangeFunc _ _ a b=>rx (jy a) (jy b)
 | .exit i=>[i]
 |_=>[]
def m9:List (Nat×(x3->Prop))->Nat->x3->Prop
 |[],_,_=>False
 |(j,k)::r,i,w=>(i=j/\k w)\/m9 r i w
def uz (K:Nat->x3->Prop):List Nat->List (Nat×(x3->Prop))
 |[]=>[]
 |i::r=>(i,λw=>K i w)::uz K r
theorem xT {K:Nat->x3->Prop}:∀ {l:List Nat} {i:Nat} {w:x3},m9 (uz K l) i w->K i w
 |[],_,_,h=>h.elim
 |j::r,i,w,h=>by
  rcases h with⟨rfl,h⟩|h
  .exact h
  .exact xT h
section
variable (P:W3)
def oo {a:Type} (G:Bool) (g:R3) (cap:List x1) (p:a) (q:a->Prop) (r:a->List x1->a->x3->Prop) (h:x3->Prop):Prop:=
 Enters P g/\ ∀ (l:Nat) (av e:a->x3->Prop) (w:x3),
  (∀k J U,Ext J U->cB w.heap.size J U->av k J->av k U)->(∀k J U,Ext J U->cB w.heap.size J U->e k J->e k U)->
  (∀k j vs w',h w'->r k vs j w'->av k w'->hK P l vs w' λv f=>(v= .bool true/\h f/\av j f/\(G=true->cM w' f))\/(v= .bool false/\e k f))->
  h w->av p w->gG P g (.func (.yield l) #[] #[]::cap) w λ_ w'=>(∃k,q k/\av k w')\/ ∃k,e k w'
def uA (G:Bool) (g:R3) (cap:List x1) (n:Nat) (h:Nat->List x1->x3->Prop) (f:x3->Prop):Prop:=
 Enters P g/\ ∀ (l:Nat) (av a:Nat->x3->Prop) (w:x3),
  (∀k J U,Ext J U->cB w.heap.size J U->av k J->av k U)->(∀k J U,Ext J U->cB w.heap.size J U->a k J->a k U)->
  (∀k vs w',k<n->f w'->h k vs w'->av k w'->hK P l vs w' λv e=>(v= .bool true/\f e/\av (k+1) e/\(G=true->cM w' e))\/(v= .bool false/\a k e))->
  f w->av 0 w->gG P g (.func (.yield l) #[] #[]::cap) w λ_ w'=>av n w'\/ ∃k,k<n/\a k w'
def pG {e:Type} (o G:Bool) (g:R3) (cap:List x1) (p:e) (q:e->Prop) (s:e->List x1->e->x3->Prop) (h:(Nat->Prop)->x3->Prop):Prop:=
 Enters P g/\ ∀ (l:Nat) (av f:(Nat->Prop)->e->x3->Prop) (w:x3),
  (∀D k J U,ae (λr=>o=true/\w.heap.size<=r/\¬D r) J U->fq w.heap.size J U->av D k J->av D k U)->
  (∀D k J U,ae (λr=>o=true/\w.heap.size<=r/\¬D r) J U->fq w.heap.size J U->f D k J->f D k U)->
  (∀D k j vs w',(∀r,D r->w.heap.size<=r/\r<w'.heap.size)->w.heap.size<=w'.heap.size->h D w'->s k vs j w'->av D k w'->hK P l vs w' λv a=>
   (v= .bool true/\(∃D',(∀r,D' r->D r\/w'.heap.size<=r/\r<a.heap.size)/\(∀r,D r->D' r)/\h D' a/\av D' j a)/\(G=true\/o=true->cM w' a)/\w'.heap.size<=a.heap.size/\(o=true->ae (λr=>r<w.heap.size\/D r) w' a))\/(o=false/\v= .bool false/\f D k a))->
  (h (λ_=>False) w)->av (λ_=>False) p w->gG P g (.func (.yield l) #[] #[]::cap) w λ_ w'=>(∃D k,q k/\av D k w')\/ ∃D k,f D k w'
abbrev oq (g:R3) (cap:List x1) (n:Nat) (a:Nat->List x1->x3->Prop) (e:x3->Prop):Prop:=uA P false g cap n a e
def FF (z:x1) (q:Nat) (w:x3) (B:List x1->x3->(Exit->x3->Prop)->Prop) (A C:x3->Prop) (E:List (Nat×(x3->Prop))):Prop:=
 ∃ (h:Type) (o G:Bool) (g:R3) (cap:Array x1) (x:h) (y:h->Prop) (s:h->List x1->h->x3->Prop) (e:(Nat->Prop)->x3->Prop) (f:(Nat->Prop)->h->x3->Prop) (j:(Nat->Prop)->h->Exit->x3->Prop),
  z= .func (.func g) #[] cap/\pG P o G g cap.toList x y s e/\(∀k vs p w,s k vs p w->vs.length=q)/\
  (∀m w w',Ext w w'->e m w->e m w')/\(∀m k J U,ae (λr=>o=true/\w.heap.size<=r/\¬m r) J U->fq w.heap.size J U->f m k J->f m k U)/\(∀m k ex J U,ae (λr=>o=true/\w.heap.size<=r/\¬m r) J U->fq w.heap.size J U->j m k ex J->j m k ex U)/\
  e (λ_=>False) w/\f (λ_=>False) x w/\
  rr q (lam q λvs=>∀m k p w',(∀r,m r->w.heap.size<=r/\r<w'.heap.size)->w.heap.size<=w'.heap.size->e m w'->s k vs p w'->f m k w'->B vs w' λex a=>match ex with
   | .normal=>bif o then (∃cn,(∀r,cn r->m r\/w'.heap.size<=r/\r<a.heap.size)/\(∀r,m r->cn r)/\e cn a/\f cn p a)/\eW w' a/\ae (λr=>r<w.heap.size\/m r) w' a else e m a/\f m p a/\(G=true->eW w' a)
   |ex=>bif o then False else j m k ex a)/\
  (∀m k w',y k->f m k w'->A w')/\(∀m k w',j m k .ret w'->C w')/\(∀m k i w',j m k (.exit i) w'->m9 E i w')
def lE (z:x1) (w:x3) (B:x1->x3->(Exit->x3->Prop)->Prop) (A C:x3->Prop) (E:List (Nat×(x3->Prop))):Prop:=
 ∃ (j:Type) (o G:Bool) (g:R3) (cap:Array x1) (x:j) (y:j->Prop) (s:j->List x1->j->x3->Prop) (f:(Nat->Prop)->x3->Prop) (h:(Nat->Prop)->j->x3->Prop) (p:(Nat->Prop)->j->Exit->x3->Prop),
  z= .func (.func g) #[] cap/\pG P o G g cap.toList x y s f/\(∀k vs q w,s k vs q w->vs.length=1)/\
  (∀m w w',Ext w w'->f m w->f m w')/\(∀m k J U,ae (λr=>o=true/\w.heap.size<=r/\¬m r) J U->fq w.heap.size J U->h m k J->h m k U)/\(∀m k ex J U,ae (λr=>o=true/\w.heap.size<=r/\¬m r) J U->fq w.heap.size J U->p m k ex J->p m k ex U)/\
  f (λ_=>False) w/\h (λ_=>False) x w/\
  (∀a,∀m k q w',(∀r,m r->w.heap.size<=r/\r<w'.heap.size)->w.heap.size<=w'.heap.size->f m w'->s k [a] q w'->h m k w'->B a w' λex e=>match ex with
   | .normal=>bif o then (∃cn,(∀r,cn r->m r\/w'.heap.size<=r/\r<e.heap.size)/\(∀r,m r->cn r)/\f cn e/\h cn q e)/\eW w' e/\ae (λr=>r<w.heap.size\/m r) w' e else f m e/\h m q e/\(G=true->eW w' e)
   |ex=>bif o then False else p m k ex e)/\
  (∀m k w',y k->h m k w'->A w')/\(∀m k w',p m k .ret w'->C w')/\(∀m k i w',p m k (.exit i) w'->m9 E i w')
def na (z:x1) (w:x3) (B:x1->x1->x3->(Exit->x3->Prop)->Prop) (A C:x3->Prop) (E:List (Nat×(x3->Prop))):Prop:=
 ∃ (j:Type) (o G:Bool) (g:R3) (cap:Array x1) (x:j) (y:j->Prop) (s:j->List x1->j->x3->Prop) (f:(Nat->Prop)->x3->Prop) (h:(Nat->Prop)->j->x3->Prop) (p:(Nat->Prop)->j->Exit->x3->Prop),
  z= .func (.func g) #[] cap/\pG P o G g cap.toList x y s f/\(∀k vs q w,s k vs q w->vs.length=2)/\
  (∀m w w',Ext w w'->f m w->f m w')/\(∀m k J U,ae (λr=>o=true/\w.heap.size<=r/\¬m r) J U->fq w.heap.size J U->h m k J->h m k U)/\(∀m k ex J U,ae (λr=>o=true/\w.heap.size<=r/\¬m r) J U->fq w.heap.size J U->p m k ex J->p m k ex U)/\
  f (λ_=>False) w/\h (λ_=>False) x w/\
  (∀a b,∀m k q w',(∀r,m r->w.heap.size<=r/\r<w'.heap.size)->w.heap.size<=w'.heap.size->f m w'->s k [a,b] q w'->h m k w'->B a b w' λex e=>match ex with
   | .normal=>bif o then (∃cn,(∀r,cn r->m r\/w'.heap.size<=r/\r<e.heap.size)/\(∀r,m r->cn r)/\f cn e/\h cn q e)/\eW w' e/\ae (λr=>r<w.heap.size\/m r) w' e else f m e/\h m q e/\(G=true->eW w' e)
   |ex=>bif o then False else p m k ex e)/\
  (∀m k w',y k->h m k w'->A w')/\(∀m k w',p m k .ret w'->C w')/\(∀m k i w',p m k (.exit i) w'->m9 E i w')
theorem uA.s {P:W3} {G:Bool} {g:R3} {cap:List x1} {f:Nat->List x1->x3->Prop} {a:x3->Prop} (h:uA P G g cap n f a):
  oo P G g cap 0 (λk=>k=n) (λk vs j w=>k<n/\j=k+1/\f k vs w) a:=by
 refine⟨h.1,λl av p w q r x ha y=>?_⟩;have:=h.2 l av (λk w=>p k w) w q r (λk vs w' hk hz A B=>x k (k+1) vs w' hz ⟨hk,rfl,A⟩ B) ha y;cases this with
 |code h1 C=>exact .code h1 (C.mono λ_ _ ⟨v,E,e⟩=>⟨v,E,e.elim (λh=>.inl ⟨n,rfl,h⟩) (λ⟨k,_,h⟩=>.inr ⟨k,h⟩)⟩)
 |ext v w' h1 e=>exact .ext v w' h1 (e.elim (λh=>.inl ⟨n,rfl,h⟩) (λ⟨k,_,h⟩=>.inr ⟨k,h⟩))
theorem oo.x {P:W3} {s:Type} {G:Bool} {g:R3} {cap:List x1} {E:s} {F:s->Prop} {H:s->List x1->s->x3->Prop} {y:x3->Prop} (h:oo P G g cap E F H y):pG P false G g cap E F H λ_=>y:=by
 refine⟨h.1,λl av K w L M N hy O=>?_⟩;have:=h.2 l (λk w'=>w.heap.size<=w'.heap.size/\ ∃D,(∀r,D r->w.heap.size<=r/\r<w'.heap.size)/\av D k w') (λk w'=>∃D,K D k w') w
  (λk J U f A ⟨I,D,a,j⟩=>⟨Y5 I f.size,D,λr z=>⟨(a r z).1,R5 (a r z).2 f.size⟩,L D k J U (f.V _) A.o j⟩) (λk J U f A ⟨D,j⟩=>⟨D,M D k J U (f.V _) A.o j⟩)
  (λk Q vs w' hR S ⟨I,D,a,j⟩=>hK.mono (N D k Q vs w' a I hR S j) λv X T=>T.imp (λ⟨h1,⟨D',d1,_,p,B⟩,q,e,_⟩=>⟨h1,p,⟨Y5 I e,D',λr z=>(d1 r z).elim (λh=>⟨(a r h).1,R5 (a r h).2 e⟩) λh=>⟨Y5 I h.1,h.2⟩,B⟩,λW=>q (.inl W)⟩) λ⟨_,h1,p⟩=>⟨h1,D,p⟩) hy ⟨o4 _,_,λ_ h=>h.elim,O⟩
 cases this with
 |code h1 p=>exact .code h1 (p.mono λ_ _ ⟨v,B,q⟩=>⟨v,B,q.imp (λ⟨k,e,_,D,_,C⟩=>⟨D,k,e,C⟩) (λ⟨k,D,h⟩=>⟨D,k,h⟩)⟩)
 |ext v w' h1 q=>exact .ext v w' h1 (q.imp (λ⟨k,e,_,D,_,C⟩=>⟨D,k,e,C⟩) (λ⟨k,D,h⟩=>⟨D,k,h⟩))
theorem lE.old {P:W3} {C:x1} {B:x1->x3->(Exit->x3->Prop)->Prop} {E F:x3->Prop} {H:List (Nat×(x3->Prop))}
 (h:∃ (f:Type) (G:Bool) (g:R3) (cap:Array x1) (s:f) (y:f->Prop) (r:f->List x1->f->x3->Prop) (e:x3->Prop) (j:f->x3->Prop) (p:f->Exit->x3->Prop),
  C= .func (.func g) #[] cap/\oo P G g cap.toList s y r e/\(∀k vs q w,r k vs q w->vs.length=1)/\
  (∀w w',Ext w w'->e w->e w')/\(∀k w w',Ext w w'->j k w->j k w')/\(∀k ex w w',Ext w w'->p k ex w->p k ex w')/\
  e w/\j s w/\
  (∀a,∀k q w',e w'->r k [a] q w'->j k w'->B a w' λex z=>match ex with
   | .normal=>e z/\j q z/\(G=true->eW w' z)
   |ex=>p k ex z)/\
  (∀k w',y k->j k w'->E w')/\(∀k w',p k .ret w'->F w')/\(∀k i w',p k (.exit i) w'->m9 H i w')):lE P C w B E F H:=by
 obtain⟨f,G,g,cap,s,y,r,e,j,p,h1,I,K,L,M,N,O,Q,R,S,T,V⟩:=h;exact⟨f,false,G,g,cap,s,y,r,λ_=>e,λ_=>j,λ_=>p,h1,I.x,K,λ_=>L,λ_ k J U A _=>M k J U (A.ext λ_ _ h=>nomatch h.1),λ_ k ex J U A _=>N k ex J U (A.ext λ_ _ h=>nomatch h.1),O,Q,
  λa _ k q w' _ _ he W X=>R a k q w' he W X,λ_=>S,λ_=>T,λ_=>V⟩
theorem na.old {P:W3} {C:x1} {B:x1->x1->x3->(Exit->x3->Prop)->Prop} {E F:x3->Prop} {H:List (Nat×(x3->Prop))}
 (h:∃ (f:Type) (G:Bool) (g:R3) (cap:Array x1) (s:f) (y:f->Prop) (r:f->List x1->f->x3->Prop) (e:x3->Prop) (j:f->x3->Prop) (p:f->Exit->x3->Prop),
  C= .func (.func g) #[] cap/\oo P G g cap.toList s y r e/\(∀k vs q w,r k vs q w->vs.length=2)/\
  (∀w w',Ext w w'->e w->e w')/\(∀k w w',Ext w w'->j k w->j k w')/\(∀k ex w w',Ext w w'->p k ex w->p k ex w')/\
  e w/\j s w/\
  (∀a b,∀k q w',e w'->r k [a,b] q w'->j k w'->B a b w' λex z=>match ex with
   | .normal=>e z/\j q z/\(G=true->eW w' z)
   |ex=>p k ex z)/\
  (∀k w',y k->j k w'->E w')/\(∀k w',p k .ret w'->F w')/\(∀k i w',p k (.exit i) w'->m9 H i w')):na P C w B E F H:=by
 obtain⟨f,G,g,cap,s,y,r,e,j,p,h1,I,K,L,M,N,O,Q,R,S,T,V⟩:=h;exact⟨f,false,G,g,cap,s,y,r,λ_=>e,λ_=>j,λ_=>p,h1,I.x,K,λ_=>L,λ_ k J U A _=>M k J U (A.ext λ_ _ h=>nomatch h.1),λ_ k ex J U A _=>N k ex J U (A.ext λ_ _ h=>nomatch h.1),O,Q,
  λa b _ k q w' _ _ he W X=>R a b k q w' he W X,λ_=>S,λ_=>T,λ_=>V⟩
def eA (N:Nat) (free:fs):Code->List Nat->Env->x3->(Exit->Env->x3->Prop)->Prop
 | .skip,_,e,w,K=>K .normal e w
 | .label _,_,e,w,K=>K .normal e w
 | .ret,_,e,w,K=>K .ret e w
 | .exit i,_,e,w,K=>K (.exit i) e w
 | .region _ ops p,_,e,w,K=>
  bif p then eo w λw'=>uk P free ops e w' (K .normal)
  else oj P free ops ops.toList e w (K .normal)
 | .seq x y,rd,e,w,K=>
  bif Nat.ble 2 (kH x) then
   cm (lam (pE N (dz x) (reads y++rd)).length λvs=>λw'=>eA N free y rd (jc (pE N (dz x) (reads y++rd)) vs (lD (dz x) e)) w' K)
    λav=>eA N free x (reads y++rd) e w λex a w'=>match ex with
     | .normal=>match kb a (pE N (dz x) (reads y++rd)) with
      |some vs=>app (pE N (dz x) (reads y++rd)).length av vs w'
      |none=>False
     |ex=>K ex a w'
  else eA N free x (reads y++rd) e w λex a w'=>match ex with
   | .normal=>eA N free y rd a w' K
   |ex=>K ex a w'
 | .cond c x y,rd,e,w,K=>
  match eJ e c with
  |some (.b true)=>eA N free x rd e w K
  |some (.b false)=>eA N free y rd e w K
  |some (.v v)=>Split v (eA N free x rd e w K) (eA N free y rd e w K)
  |some .u=>False
  |none=>False
 | .block id c,rd,e,w,K=>eA N free c rd e w λex a w'=>match ex with
  | .exit i=>bif T4 i id then K .normal a w' else K (.exit i) a w'
  |ex=>K ex a w'
 | .loop c,rd,e,w,K=>
  match kb e (pF N (dz c) (reads c++rd) e) with
  |some vs=>
   FB (pF N (dz c) (reads c++rd) e).length vs w λus w' k=>
    eA N free c (reads c++rd) (jc (pF N (dz c) (reads c++rd) e) us (lD (dz c) e)) w' λex a h=>match ex with
     | .normal=>match kb a (pF N (dz c) (reads c++rd) e) with
      |some q=>k q h
      |none=>False
     |ex=>K ex a h
  |none=>False
 | .scope c,rd,e,w,K=>eA N free c rd e w K
 | .rangeFunc f j r body,_,e,w,K=>
  bif free.1 then False else
  match eJ e f with
  |some s=>
   FF P s.val j.size w
    (λvs w' k=>eA N free r (reads body) (jc j.toList.reverse vs.reverse e) w' λex a h=>match ex with
     | .normal=>Over w.heap.size h λz=>eA N free body [] a z λex _ A=>k ex A
     |_=>False)
    (λw'=>K .normal e w') (bif jd body then λw'=>K .ret e w' else λ_=>False) (uz (λi w'=>K (.exit i) e w') (jy body))
  |none=>False
 | .goto _,_,_,_,_=>False
 | .refuse _,_,_,_,_=>False
end
theorem ry {w0:x3} (h:cB n w0 w) {l:Nat} (j:w0.heap.size<=l) (o:Obj):cB n w0 (w.putObj l o):=
 ⟨h.os,h.tape,h.output,by simpa using h.size,λr x a I=>by
  have e:=(j0.1 a).1;rw[R4 Ω];exact h.aW r x a I,λr x f a I=>by
  have e:=(j0.1 a).1;rw[R4 Ω];exact h.old r x f a I⟩
theorem FG {w0:x3} (h:eW w0 w) {l:Nat} {a:Obj} (f:w.heap[l]? =σ a) (j:rg a=false) (o:Obj):eW w0 (w.putObj l o):=λr x p I=>by
 have h1:=h r x p I;by_cases e:r=l
 .subst e;rw[f] at h1;cases h1;rw[j] at I;cases I
 .rw[R4 e];exact h1
theorem pH {l:Nat} {e:Obj} (h:w.heap[l]? =σ e) (j:fp e=false) (o:Obj):Ext w (w.putObj l o):=
 ⟨Ξ,λr x a I=>by
  by_cases f:r=l
  .subst f;rw[h] at a;cases a;rw[j] at I;cases I
  .rw[R4 f];exact a⟩
theorem xU {l:Nat} {o:Obj} (f:fp o=false):Ext (w.putObj l o) w:=
 ⟨Ξ,λr x a I=>by
  by_cases e:r=l
  .subst e;rcases Nat.lt_or_ge r w.heap.size with h|h
   .rw[x3.putObj_heap_same h] at a;cases a;rw[f] at I;cases I
   .rw[Array.getElem?_eq_none (by simpa using h)] at a;cases a
  .rw[R4 e] at a;exact a⟩
theorem ot (w:x3) (o:Obj):Ext w (w.alloc o):=px w o
theorem ou (w:x3) (o:Obj):cM w (w.alloc o):=py w o
def kc (D:Nat):Deferred:={target:=.collected D,args:=#[]}
def lF (w:x3) (e:List Deferred):Prop:=∃a:List Nat,e=a.map kc/\a.Nodup/\ ∀D∈a,w.heap[D]? =σ (.deferred (σ []))
theorem lF.ct {a:List Deferred} (h:lF w a) (e:cB n w w'):lF w' a:=by
 obtain⟨f,h1,j,p⟩:=h;exact⟨f,h1,j,λD q=>e.aW D _ (p D q) rfl⟩
section
variable {P:W3} {N:Nat}
def FH (w:x3) (e f:List Deferred):Prop:=∃a:List Nat,f=a.map kc++e/\ ∀D∈a,w.heap.size<=D
def gI (n:Nat) (w:x3) (e:List Deferred) (w':x3) (a:List Deferred):Prop:=cB n w w'/\lF w' a/\FH w e a
theorem gI.refl {a:List Deferred} (h:lF w a):gI n w a w a:=⟨cB.refl _ _,h,[],rfl,λ_ h=>by cases h⟩
theorem gI.trans {J:x3} {a e f:List Deferred} (h:gI n w a J e) (k:gI n J e w' f):gI n w a w' f:=by
 obtain⟨j,A,p,a3,a4⟩:=h;obtain⟨q,r,s,x,y⟩:=k;refine⟨j.trans q,r,s++p,by simp[x,a3],λD z=>?_⟩;rcases l7.1 z with h|h
 .exact Y5 j.size (y D h)
 .exact a4 D h
theorem gI.same {a:List Deferred} (h:lF w a) (e:cB n w w'):gI n w a w' a:=⟨e,h.ct e,[],rfl,λ_ h=>by cases h⟩
def kI:Exit->Bool
 | .panic _=>false
 | .outgrown=>false
 | .goto _=>false
 |_=>true
def mi (N:Nat) (free:fs) (f:Bool) (K:Exit->Env->x3->Prop) (D:List Nat) (a:Act) (w:x3) (ex:Exit) (a':Act) (w':x3):Prop:=
 kI ex=true/\ ∃e,K ex e w'/\S1 N e a'/\(∀t,t∉D->a'.tmps.getD t undef=a.tmps.getD t undef)/\(f=true->a'.defers=a.defers)/\
  (free.1=false->gI free.2 w a.defers w' a'.defers)
theorem mi.step {free:fs} {f j:Bool} {K:Exit->Env->x3->Prop} {D':List Nat} {a e a':Act} {J:x3} {ex:Exit} (h:mi N free j K D' e J ex a' w')
  (q:∀t,t∈D'->t∈D) (hk:∀t,t∉D->e.tmps.getD t undef=a.tmps.getD t undef) (r:f=true->j=true) (s:f=true->e.defers=a.defers)
  (x:free.1=false->gI free.2 w a.defers J e.defers):mi N free f K D a w ex a' w':=by
 obtain⟨y,z,h1,A,B,C,E⟩:=h;exact⟨y,z,h1,A,λt p=>(B t λh=>p (q t h)).trans (hk t p),λh=>(C (r h)).trans (s h),λh=>(x h).trans (E h)⟩
theorem rz {D:List Nat} {t:Nat} {x:ez}:∀ {e:Env},look (lD D e) t=σ x->look e t=σ x/\t∉D
 |[],h=>by cases h
 |(s,y)::r,h=>by
  simp only[lD] at h;cases hm:jb s D with
  |true=>
   rw[hm] at h;simp only[cond_true] at h;obtain⟨h1,f⟩:=rz h;refine⟨?_,f⟩;simp only[look];cases a:T4 s t with
   |true=>exact absurd (uv.1 hm) (by rw[Nat.eq_of_beq_eq_true a];exact f)
   |false=>exact h1
  |false=>
   rw[hm] at h;simp only[cond_false,look] at h ⊢;cases a:T4 s t with
   |true=>
    rw[a] at h;refine⟨h,λj=>?_⟩;rw[<-Nat.eq_of_beq_eq_true a] at j;rw[uv.2 j] at hm;cases hm
   |false=>
    rw[a] at h;exact rz h
theorem uB {a:Act} {e:Env}:∀ {S:List Nat} {vs:List x1},S1 N e a->(∀p∈S.zip vs,a.tmps.getD p.1 undef=p.2)->S1 N (jc S vs e) a
 |[],_,h,_=>by simpa[jc] using h
 |t::r,[],h,_=>by simpa[jc] using h
 |t::r,v::vs,h,j=>by
  have q:=uB (S:=r) (vs:=vs) h λp w=>j p (by simp[w]);refine⟨q.1,λs x I=>?_⟩;simp only[jc,look] at I;cases f:T4 t s with
  |true=>
   rw[f] at I;simp only[cond_true,X0] at I;subst I;rw[<-Nat.eq_of_beq_eq_true f];exact j (t,v) Ξ
  |false=>rw[f] at I;exact q.2 s x I
theorem rA {e:Env} {a:Act} (s:S1 N e a):∀ {S:List Nat} {vs:List x1},kb e S=σ vs->vs.length=S.length/\ ∀p∈S.zip vs,a.tmps.getD p.1 undef=p.2
 |[],vs,h=>by simp[kb] at h;subst h;simp
 |t::r,vs,h=>by
  simp only[kb] at h;cases j:look e t with
  |none=>rw[j] at h;cases h
  |some x=>
   rw[j] at h;simp only at h;cases q:kb e r with
   |none=>rw[q] at h;cases h
   |some us=>
    rw[q] at h;simp only[X0] at h;subst h;obtain⟨h1,w⟩:=rA s q;refine⟨by simp[h1],λp f=>?_⟩;simp only[List.zip_cons_cons,W6] at f;rcases f with rfl|f
    .exact s.2 t x j
    .exact w p f
theorem FI {a a':Act} {e f:Env} (j:S1 N e a) (p:S1 N f a') (hk:∀t,t∉D->a'.tmps.getD t undef=a.tmps.getD t undef):S1 N (lD D e) a':=
 ⟨p.1,λt x h=>by
  obtain⟨h1,q⟩:=rz h;rw[hk t q];exact j.2 t x h1⟩
theorem FJ {o:T0} {t:Nat} (a:o.dst=σ t) (l:List T0) (hm:o∈l):t∈m4 l:=by
 induction l with
 |nil=>cases hm
 |cons o' l e=>
  simp only[m4];rcases W6.1 hm with h|h
  .rw[<-h,a];simp
  .have:=e h;cases o'.dst with
   |none=>exact this
   |some d=>exact .tail _ this
theorem xV {free:fs} {j:Bool} {K:Exit->Env->x3->Prop} {a a':Act} (p:free.1=false->lF w a.defers) (h:me N free (K .normal) D a w a' w'):
  mi N free j K D a w .normal a' w':=by
 obtain⟨q,h1,r,e,s⟩:=h;exact⟨rfl,q,h1,r,e.2,λ_=>e.1,λf=>by rw[e.1];exact gI.same (p f) (s f)⟩
theorem xW:∀ (a:List Nat) (vs:List x1) (p:Nat) (v:x1) (e:Env),a.length=vs.length->jc (a++[p]) (vs++[v]) e=jc a vs ((p,.v v)::e)
 |[],[],_,_,_,_=>rfl
 |[],_::_,_,_,_,h=>by simp at h
 |_::_,[],_,_,_,h=>by simp at h
 |q::a,u::vs,p,v,e,h=>by
  simp only[List.cons_append,jc];rw[xW a vs p v e (by simpa using h)]
theorem xX:∀ (a:List Nat) (vs:List x1) (iA:Array x1) (e:Env),a.length=vs.length->(a.all λt=>Nat.blt t N)=true->S1 N e {tmps:=iA,defers:=[]}->
  S1 N (jc a.reverse vs.reverse e) {tmps:=(a.zip vs).foldl (λiA (p:Nat×x1)=>iA.setIfInBounds p.1 p.2) iA,defers:=[]}
 |[],[],_,_,_,_,h=>h
 |[],_::_,_,_,h,_,_=>by simp at h
 |_::_,[],_,_,h,_,_=>by simp at h
 |p::a,v::vs,iA,e,q,f,h=>by
  have j:a.length=vs.length:=by simpa using q
  simp only[List.all_cons,U4] at f;simp only[List.zip_cons_cons,List.foldl_cons,List.reverse_cons];rw[xW _ _ _ _ _ (by simpa using j)];exact xX a vs _ _ j f.2 (h.put (d:=σ p) (x:=.v v) (v:=v) f.1 rfl)
def je (free:fs) (c:Code):Bool:=free.1|| !ka c
theorem xY:∀f a b:Bool,(f|| !(a||b))=true->(f|| !a)=true:=Φ
theorem xZ:∀f a b:Bool,(f|| !(a||b))=true->(f|| !b)=true:=Φ
def exitCode:Exit->Option Code
 | .ret=>σ .ret
 | .exit id=>σ (.exit id)
 |_=>ν
end
section
variable {P:W3} {N:Nat}
def Sound (P:W3) (N:Nat) (c:Code):Prop:=
 ∀ (free:fs) (r:Option Nat) (rd:List Nat) (e:Env) (a:Act) (w:x3) (K:Exit->Env->x3->Prop) (Q:Exit->Act->x3->Prop),
  wf N c=true->(∀l,r=σ l->free.1=false/\ ∃f,w.heap[l]? =σ (.loop f))->(free.1=false->lF w a.defers)->
  eA P N free c rd e w K->S1 N e a->(∀ex a' w',mi N free (je free c) K (dz c) a w ex a' w'->Q ex a' w')->(∀h a w,¬Q (.panic h) a w)->
  c.wpIn (ev r) 0 P Q a w
theorem FK {x y:Code} (aa:Sound P N x) (ab:Sound P N y):Sound P N (.seq x y):=by
 intro free r rd e a w K Q F O ac h R S T;simp only[wf,U4] at F;have U:∀t,t∈dz x->t∈dz (.seq x y):=λt q=>by simp[dz,q]
 have ad:∀t,t∈dz y->t∈dz (.seq x y):=λt q=>by simp[dz,q]
 have V:je free (.seq x y)=true->je free x=true:=λh=>xY _ _ _ h;have ae:je free (.seq x y)=true->je free y=true:=λh=>xZ _ _ _ h;refine wpIn_seq ?_;have W:∀ (f:Env) (j:Act) (J:x3),eA P N free y rd f J K->S1 N f j->(∀t,t∉dz x->j.tmps.getD t undef=a.tmps.getD t undef)->
   (je free (.seq x y)=true->j.defers=a.defers)->(free.1=false->gI free.2 w a.defers J j.defers)->y.wpIn (ev r) 0 P Q j J:=by
  intro f j J h1 s hk A p;refine ab free r rd f j J K Q F.2 ?_ (λh=>(p h).2.1) h1 s ?_ T
  .intro l af;obtain⟨X,ag,E⟩:=O l af;exact⟨X,ag,(p X).1.aW _ _ E rfl⟩
  .intro ex a' w' B;exact S ex a' w' (B.step ad (λt q=>hk t λh=>q (U t h)) ae A p)
 have Y:∀ (z:Exit->Env->x3->Prop),eA P N free x (reads y++rd) e w z->
   (∀f j J,mi N free (je free x) z (dz x) a w .normal j J->S1 N f j->z .normal f J->(∀t,t∉dz x->j.tmps.getD t undef=a.tmps.getD t undef)->
    (je free (.seq x y)=true->j.defers=a.defers)->(free.1=false->gI free.2 w a.defers J j.defers)->y.wpIn (ev r) 0 P Q j J)->
   (∀ex f J,ex≠ .normal->z ex f J->K ex f J)->x.wpIn (ev r) 0 P (Exit.then (y.wpIn (ev r) 0 P Q) Q) a w:=by
  intro z C p ah;refine aa free r _ e a w z _ F.1 O ac C R ?_ ?_
  .intro ex j J B;cases ex with
   |normal=>
    have ai:=B;obtain⟨E,f,h1,G,H,I,L⟩:=B;exact p f j J ai G h1 H (λh=>I (V h)) L
   |_=>
    obtain⟨E,f,h1,G,H,I,L⟩:=B;refine S _ j J ⟨E,f,ah _ f J Ξ h1,G,λt q=>H t λh=>q (U t h),λh=>I (V h),L⟩
  .intro aj a w ak;exact T aj a w ak
 simp only[eA] at h;cases Z:Nat.ble 2 (kH x) with
 |false=>
  rw[Z] at h;refine Y _ h (λf j J _ s h1 hk A p=>W f j J h1 s hk A p) ?_;intro ex f J M h1;cases ex<;>first|exact absurd rfl M|exact h1
 |true=>
  rw[Z] at h;refine Y _ h (λf j J _ s h1 hk A p=>?_) ?_
  .simp only at h1;cases C:kb f (pE N (dz x) (reads y++rd)) with
   |none=>rw[C] at h1;exact h1.elim
   |some vs=>
    rw[C] at h1;obtain⟨al,am⟩:=rA s C;simp only at h1;rw[rt _ _ _ al] at h1;exact W _ j J h1 (uB (FI R s hk) am) hk A p
  .intro ex f J M h1;cases ex<;>first|exact absurd rfl M|exact h1
theorem FL {c:Code} (ac:Sound P N c):Sound P N (.loop c):=by
 intro free r rd e a w K Q V ad ae h F af ag;simp only[wf] at V;simp only[eA] at h;generalize ax:pF N (dz c) (reads c++rd) e=S at h;cases G:kb e S with
 |none=>rw[G] at h;exact h.elim
 |some vs=>
  rw[G] at h;simp only at h;obtain⟨ah,ai,q,aj⟩:=h;obtain⟨ak,al⟩:=rA F G;let Inv:Act->x3->Prop:=λf J=>∃us,us.length=S.length/\app S.length ah us J/\(∀p∈S.zip us,f.tmps.getD p.1 undef=p.2)/\f.tmps.size=N/\
   (∀t,t∉dz c->f.tmps.getD t undef=a.tmps.getD t undef)/\(je free c=true->f.defers=a.defers)/\(free.1=false->gI free.2 w a.defers J f.defers)
  let s:Act->List x1:=λf=>S.map λt=>f.tmps.getD t undef;have W:∀ (f:Act) (us:List x1),us.length=S.length->(∀p∈S.zip us,f.tmps.getD p.1 undef=p.2)->s f=us:=by
   intro f us y z;apply List.ext_getElem
   .simp[s,y]
   .intro i h1 j;have hi:i<S.length:=by simpa[s] using h1
    have am:(S[i],us[i])∈S.zip us:=by
     have:=T8 (l:=S.zip us) (n:=i) (by simp[List.length_zip,y,hi]);simpa using this
    simpa[s] using z _ am
  refine wpIn_loop Inv (λf J=>app S.length ai (s f) J) ⟨vs,ak,q,al,F.1,λ_ _=>rfl,λ_=>rfl,λA=>gI.refl (ae A)⟩ ?_;rintro f J ⟨us,y,an,z,ao,hk,A,B⟩;have C:=ru S.length _ us aj;rw[rt _ _ _ y] at C;have C:=C J an;have ap:S1 N (jc S us (lD (dz c) e)) f:=by
   refine uB (a:=f) (e:=lD (dz c) e) ⟨ao,λt x E=>?_⟩ z;obtain⟨h1,j⟩:=rz E;rw[hk t j];exact F.2 t x h1
  refine ac free r _ _ f J _ _ V ?_ (λh=>(B h).2.1) C ap ?_ ?_
  .intro l aq;obtain⟨X,au,q⟩:=ad l aq;exact⟨X,au,(B X).1.aW _ _ q rfl⟩
  .intro ex H U I;have Y:∀t,t∉dz c->H.tmps.getD t undef=a.tmps.getD t undef:=by
    obtain⟨_,_,_,_,L,_,_⟩:=I;exact λt E=>(L t E).trans (hk t E)
   cases ex with
   |normal=>
    obtain⟨q,M,h1,j,L,O,R⟩:=I;simp only at h1;cases T:kb M S with
    |none=>rw[T] at h1;exact h1.elim
    |some Z=>
     rw[T] at h1;obtain⟨aa,ab⟩:=rA j T;refine⟨⟨Z,aa,h1.1,ab,j.1,Y,λh=>(O h).trans (A h),λh=>(B h).trans (R h)⟩,?_⟩;rw[W f us y z,W H Z aa ab];exact h1.2
   |_=>
    obtain⟨q,M,h1,j,L,O,R⟩:=I;exact af _ H U ⟨q,M,h1,j,Y,λh=>(O h).trans (A h),λh=>(B h).trans (R h)⟩
  .intro av a w aw;exact ag av a w aw
theorem FM {o:Obj} (h:fp o=false):book o=true\/rg o=true:=by cases o<;>first|exact .inl rfl|exact .inr rfl|cases h
theorem FN {l:Nat} {f s h:x3} {w y:Obj} (z:f.heap[l]? =σ w) (a:cB n f s) (e:cB n (s.putObj l y) h) (A:l<h.heap.size) (hi:eW f h):cM f (h.putObj l w):=
 ⟨e.os.trans a.os,jv.trans e.tape a.tape,e.output.trans a.output,by have h1:=a.size;have B:=e.size;simp at B ⊢;omega,λr x j I=>by
  by_cases q:r=l
  .subst q;rw[z] at j;cases j;exact x3.putObj_heap_same A
  .rw[R4 q];rcases FM I with p|p
   .exact e.aW r x (by rw[R4 q];exact a.aW r x j p) p
   .exact hi r x j p⟩
theorem FO {f:S0} {S:Array Tmp} {X body:Code} (bd:Sound P N X) (ah:Sound P N body):Sound P N (.rangeFunc f S X body):=by
 intro free r rd e a w K Q aL R aw h ab be b0;simp only[wf,U4] at aL;obtain⟨bf,bg,bh⟩:=aL;simp only[eA] at h;obtain⟨fr,b⟩:=free;cases fr with
 |true=>exact h.elim
 |false=>
  simp only[cond_false] at h;cases ax:eJ e f with
  |none=>rw[ax] at h;exact h.elim
  |some b1=>
   rw[ax] at h;obtain⟨aM,o,G,g,cap,b2,b3,b4,ai,aN,ay,bi,⟨aO,bj⟩,bk,haP,aj,az,hbl,bm,bn,bo,bp,bq⟩:=h;have br:∀m k ex w',kI ex=true->ex≠ .normal->ay m k ex w'->K ex e w':=by
    intro m k ex w' ac aA ak;cases ex with
    |normal=>exact absurd rfl aA
    |ret=>
     have:=bp m k w' ak;cases R:jd body with
     |true=>rw[R] at this;exact this
     |false=>rw[R] at this;exact this.elim
    |exit i=>exact xT (bq m k i w' ak)
    |_=>cases ac
   have bt:a.eval f= .func (.func g) #[] cap:=by rw[ab.eJ ax];exact bi
   refine wpIn_rangeFunc ?_;intro fn _;obtain⟨D,mark,l,z,s,bu,C,aQ,al,L,aR,am⟩:∃ (D:Nat) (mark:List Deferred) (l:Nat) (z:x3) (s:LoopState->Option Code->Loop),
     (Instr.enterLoop fn a.tmps S X body (ev r).round).run P w= .ok (l,mark) z/\
     s=(λst bw=>{state:=st,pending:=bw,fn,tmps:=a.tmps,params:=S,assign:=X,body,defers:=D})/\
     z.heap[l]? =σ (.loop (s .ready ν))/\(mark=[]\/(mark=[kc D]/\z.heap[D]? =σ (.deferred (σ []))/\w.heap.size<=D/\D≠l))/\Ext w z/\cM w z/\w.heap.size<=l:=by
    cases r with
    |none=>
     refine⟨w.heap.size,[kc w.heap.size],w.heap.size+1,_,_,run_enterLoop_outer _ _ _ _ _,rfl,?_,.inr ⟨rfl,?_,o4 _,Ω⟩,?_,?_,Ω⟩
     .have:=x3.alloc_heap_new (w.alloc (.deferred (σ []))) (.loop {state:=.ready,pending:=ν,fn,tmps:=a.tmps,params:=S,assign:=X,body,defers:=w.heap.size});rwa [x3.size_alloc] at this
     .exact (Below.heap_alloc _ _ _ Ξ).trans (x3.alloc_heap_new w _)
     .exact (ot w _).trans (ot _ _)
     .exact (ou w _).trans (ou _ _)
    |some bx=>
     obtain⟨_,bz,M⟩:=R bx rfl;exact⟨bz.defers,[],w.heap.size,_,_,run_enterLoop_inner M _ _ _ _ _,rfl,x3.alloc_heap_new w _,.inl rfl,ot _ _,ou _ _,o4 _⟩
   let O:x3->Prop:=λj=>mark=[]\/(mark=[kc D]/\j.heap[D]? =σ (.deferred (σ []))/\w.heap.size<=D/\D≠l);have aB:∀ {m:Nat} {A B:x3},cB m A B->O A->O B:=λE h=>h.imp id λ⟨h1,q,y⟩=>⟨h1,E.aW _ _ q rfl,y⟩;have an:∀ {A:x3} (o:Obj),O A->O (A.putObj l o):=λo h=>h.imp id λ⟨h1,q,y,H⟩=>⟨h1,(R4 H).trans q,y,H⟩;have bA:cB b w z:=aR.b;have aS:=(j0.1 aQ).1;have aT:∀ {A B:x3},fq z.heap.size A B->O A->O B:=λE h=>h.imp id λ⟨h1,q,y⟩=>⟨h1,E.old _ _ (by
    rcases al with hm|⟨_,aw,_⟩
    .rw[hm] at h1;cases h1
    .exact (j0.1 aw).1) q rfl,y⟩
   have ad:∀ {A:x3} (o:Obj),fq w.heap.size A (A.putObj l o):=λ{A} o=>⟨rfl,.j3,rfl,Ξ,λr x R ak _=>by rw[R4 Ω];exact ak⟩;let av:(Nat->Prop)->aM->x3->Prop:=λm k j=>aN m k j/\j.heap[l]? =σ (.loop (s .ready ν))/\cB b w j/\O j;let aU:(Nat->Prop)->aM->x3->Prop:=λm k j=>∃ex c,kI ex=true/\exitCode ex=σ c/\ay m k ex j/\j.heap[l]? =σ (.loop (s .done (σ c)))/\cB b w j/\O j;have own:∀ {m:Nat->Prop} {A B:x3},ae (λr=>o=true/\z.heap.size<=r/\¬m r) A B->ae (λr=>o=true/\w.heap.size<=r/\¬m r) A B:=λh=>h.mono λr _ h=>⟨h.1,Y5 L.size h.2.1,h.2.2⟩;have aC:=bj l av aU z (λm k A B he E ⟨h1,q,y,H⟩=>⟨aj m k A B (own he) (E.mono L.size) h1,E.old _ _ aS q rfl,y.xG E L.size,aT E H⟩)
    (λm k A B he E ⟨ex,c,M,h1,q,y,H,af⟩=>⟨ex,c,M,h1,az m k ex A B (own he) (E.mono L.size) q,E.old _ _ aS y rfl,H.xG E L.size,aT E af⟩) ?round (haP _ _ _ L hbl) ⟨aj _ _ _ _ (L.V _) aR.o bm,aQ,bA,al⟩
   case round=>
    intro m k ao vs j aV bB hai aX ⟨hi,ap,bC,bD⟩;have aD:=bk k vs ao j aX;have aY:=run_yield (P:=P) (args:=vs.toArray) ap (by rw[C];simp[aD]);rw[C] at aY;refine⟨fn,_,X,body,aY,roundIn_of_wpIn trivial ?_⟩;have bE:(S.zip vs.toArray).foldl (λtmps x=>match x with|(t,a)=>tmps.setIfInBounds t a) a.tmps=(S.toList.zip vs).foldl (λiA (p:Nat×x1)=>iA.setIfInBounds p.1 p.2) a.tmps:=by
     rw[<-Array.foldl_toList,Array.toList_zip]
    have aZ:=xX (N:=N) S.toList vs a.tmps e (by simp[aD]) bf (show S1 N e {tmps:=a.tmps,defers:=[]} from⟨ab.1,ab.2⟩);rw[<-bE] at aZ;have bF:j.heap[l]? =σ (.loop (s .ready ν)):=ap;refine bd (false,b) (σ l) _ _ _ j _ _ bg (λl' aE=>⟨rfl,by cases aE;exact⟨_,ap⟩⟩) (λ_=>⟨[],rfl,List.nodup_nil,λD al=>by cases al⟩) (by have ah:=ru _ _ vs bn;rw[rt _ _ _ aD] at ah;exact ah m k ao j (λr R=>⟨Y5 L.size (aV r R).1,(aV r R).2⟩) (Y5 L.size bB) hai aX hi) aZ ?_ (λ_ _ _ h=>h);intro ex a1 F aF;obtain⟨M,b5,h1,q,y,H,af⟩:=aF;obtain⟨T,bG,_⟩:=af rfl;cases ex with
    |normal=>
     have Y:F.heap[l]? =σ (.loop (s .ready ν)):=T.aW _ _ ap rfl;have bH:=(j0.1 Y).1;refine⟨_,run_beginRound Y (by rw[C]),?_⟩;have bI:Ext F (F.putObj l (.loop {s .ready ν with state:=.busy})):=pH Y rfl _;have a2:(F.putObj l (.loop {s .ready ν with state:=.busy})).heap[l]? =σ (.loop {s .ready ν with state:=.busy}):=x3.putObj_heap_same bH;have bJ:lF (F.putObj l (.loop {s .ready ν with state:=.busy})) a1.defers:=by
      obtain⟨aq,Z,aa,ag⟩:=bG;refine⟨aq,Z,aa,λD' U=>?_⟩;have:=ag D' U;have aA:D'≠l:=λhe=>by rw[he,Y] at this;cases this
      rw[R4 aA];exact this
     have a6:cB b w (F.putObj l (.loop {s .ready ν with state:=.busy})):=ry (bC.trans T) am _;have a7:=an (.loop {s .ready ν with state:=.busy}) (aB T bD);have bK:=h1 _ bI ⟨xU rfl,ad _⟩ (FG (eW.refl _) Y rfl _);refine ah (false,b) (σ l) _ _ a1 _ _ _ bh (λl' aE=>⟨rfl,by cases aE;exact⟨_,a2⟩⟩) (λ_=>bJ) bK q ?_ (λ_ _ _ h=>h);intro bL b6 I aF;obtain⟨aG,b7,g1,b8,b9,ca,bM⟩:=aF;obtain⟨J,_,_⟩:=bM rfl;have aH:I.heap[l]? =σ (.loop {s .ready ν with state:=.busy}):=J.aW _ _ a2 rfl;have aI:=(j0.1 aH).1;have a8:=λbN=>run_endRound (P:=P) bN aH;have au:∀ (o:Obj),Ext I (I.putObj l o):=λo=>pH aH rfl o;have ba:∀ (ex:Exit) (c:Code),kI ex=true->exitCode ex=σ c->(bif o then False else ay m k ex I)->
       ∃v w',(Instr.endRound l (σ c)).run P I= .ok v w'/\ ∃aJ,Ending.returned v= .returned aJ/\((aJ= .bool true/\(∃cn,(∀r,cn r->m r\/j.heap.size<=r/\r<w'.heap.size)/\(∀r,m r->cn r)/\ai cn w'/\av cn ao w')/\(G=true\/o=true->cM j w')/\j.heap.size<=w'.heap.size/\(o=true->ae (λr=>r<z.heap.size\/m r) j w'))\/(o=false/\aJ= .bool false/\aU m k w')):=by
      intro ex c ac bO bb;cases o with
      |true=>exact bb.elim
      |false=>
       refine⟨_,_,a8 (σ c),_,rfl,.inr ⟨rfl,rfl,ex,c,ac,bO,az m k ex _ _ ((au _).V _) (ad _) bb,?_,ry (a6.trans J) am _,an _ (aB J a7)⟩⟩;rw[x3.putObj_heap_same aI,C];rfl
     cases bL with
     |normal=>
      have bP:j.heap.size<=I.heap.size:=by
       have h1:=T.size;have q:=J.size;simp at q;omega
      obtain⟨⟨cn,d1,d2,Z,aa⟩,bQ,bR⟩:(∃cn,(∀r,cn r->m r\/j.heap.size<=r/\r<I.heap.size)/\(∀r,m r->cn r)/\ai cn I/\aN cn ao I)/\(G=true\/o=true->eW j I)/\(o=true->ae (λr=>r<z.heap.size\/m r) j I):=by
       cases o with
       |true=>exact⟨g1.1,λ_=>g1.2.1,λ_=>g1.2.2.mono λr _ h=>h.imp (λh=>R5 h L.size) id⟩
       |false=>exact⟨⟨m,λr h=>.inl h,λ_ h=>h,g1.1,g1.2.1⟩,λh=>g1.2.2 (h.elim id λh=>nomatch h),λh=>nomatch h⟩
      refine⟨_,_,a8 ν,_,rfl,.inl ⟨rfl,⟨cn,by simpa using d1,d2,haP _ _ _ (au _) Z,aj _ _ _ _ ((au _).V _) (ad _) aa,?_,ry (a6.trans J) am _,an _ (aB J a7)⟩,λbS=>?_,?_,λbT=>(bR bT).trans ((au _).V _)⟩⟩
      .rw[x3.putObj_heap_same aI,C];rfl
      .have:=FN bF T J aI (bQ bS);subst C;exact this
      .simpa using bP
     |ret=>exact ba .ret _ rfl rfl g1
     |exit id=>exact ba (.exit id) _ rfl rfl g1
     |goto t=>cases aG
     |panic bU=>cases aG
     |outgrown=>cases aG
    |_=>exact h1.elim
   have aC:=gG.calls P aC aO;refine⟨l,mark,z,{target:=.fn (.func g) cap,args:=#[.func (.yield l) #[] #[]]},z,g,#[.func (.yield l) #[] #[]]++cap,z,bu,?_,λ_ _=>trivial,?_,ud _ _,?_⟩
   .simp only[resolve,bt];simp[go_sem]
   .simp only[invoke];exact aO _ _
   .have bV:(#[.func (.yield l) #[] #[]]++cap:Array x1)=(x1.func (.yield l) #[] #[]::cap.toList).toArray:=by apply Array.toList_inj.1;simp
    rw[bV];refine CallsIn.mono (xH aC) ?_;rintro cb F ⟨v,rfl,bW⟩;have left:∀ (W:Loop) (ex:Exit),kI ex=true->F.heap[l]? =σ (.loop W)->W.state≠ .busy->cB b w F->O F->K ex e (F.putObj l (.loop {W with state:=.exhausted}))->
      Q ex {a with defers:=mark++a.defers} (F.putObj l (.loop {W with state:=.exhausted})):=by
     intro W ex ac Y cc T bc bX;have J:cB b w (F.putObj l (.loop {W with state:=.exhausted})):=ry T am _;refine be ex _ _ ⟨ac,e,bX,⟨ab.1,ab.2⟩,λ_ _=>rfl,(λh=>by simp[je,ka] at h),λ_=>⟨J,?_,?_⟩⟩
     case refine_2=>
      rcases bc with hm|⟨hm,_,bY,_⟩
      .exact⟨[],by simp[hm],λ_ h=>by cases h⟩
      .exact⟨[D],by simp[hm],λD' U=>by simp at U;omega⟩
     obtain⟨aq,Z,aa,ag⟩:=aw rfl;have aK:=an (.loop {W with state:=.exhausted}) bc;rcases aK with hm|⟨hm,aK,bY,_⟩
     .exact⟨aq,by simp[hm,Z],aa,λD' U=>J.aW _ _ (ag D' U) rfl⟩
     .refine⟨D::aq,by simp[hm,Z],List.nodup_cons.2 ⟨λbZ=>?_,aa⟩,λD' U=>?_⟩
      .have:=(j0.1 (ag D bZ)).1;omega
      .rcases W6.1 U with h|h
       .rw[h];exact aK
       .exact J.aW _ _ (ag D' h) rfl
    rcases bW with⟨m,k,hk,h1,q,y,H⟩|⟨m,k,ex,c,M,h1,q,y,H,af⟩
    .refine⟨ν,_,by have:=run_endLoop (P:=P) q (by rw[C];simp);rw[C] at this;exact this,?_⟩;have:=left (s .ready ν) .normal rfl q (by rw[C];simp) y H (bo m _ _ hk (aj m _ _ _ ((pH q rfl _).V _) (ad _) h1));rw[C] at this;exact this
    .refine⟨σ c,_,by have:=run_endLoop (P:=P) y (by rw[C];simp);rw[C] at this;exact this,?_⟩;have:=left (s .done (σ c)) ex M y (by rw[C];simp) H af (br m k ex _ M (by intro he;rw[he] at h1;cases h1) (az m _ _ _ _ ((pH y rfl _).V _) (ad _) q));rw[C] at this;cases ex with
     |normal=>cases h1
     |ret=>cases h1;exact wpIn_ret this
     |exit id=>cases h1;exact wpIn_exit this
     |goto t=>cases M
     |panic bU=>cases M
     |outgrown=>cases M
theorem rB {b:Frame} {a:Act} {k:List Item} {cs:List Frame} {c:Code}:
  step P (lone (b.atR a (.code (.scope c)::k)) cs w)= .next (lone (b.atR a (.code c:: .inScope c::k)) cs w):=
 step_lone_go (by simp[stepG,stepG.exec,Frame.atR])
theorem FP {b:Frame} {a:Act} {k:List Item} {cs:List Frame} {c:Code}:
  step P (lone (b.atR a (.inScope c::k)) cs w)= .next (lone (b.atR a k) cs w):=
 step_lone_go (by simp[stepG,stepG.exec,Frame.atR])
theorem FQ {F:Fence} {c:Code} {Q:Exit->Act->x3->Prop} {a:Act} (h:c.wpIn F n P (λex a' w'=>kI ex=true/\Q ex a' w') a w):
  (Code.scope c).wpIn F n P Q a w:=by
 intro b k cs A p q;have f:(lone (b.atR a (.code (.scope c)::k)) cs w).fenced P F:=fenced_calm p q rfl;obtain⟨e,r,s,⟨x,y⟩,j⟩:=h b (.inScope c::k) cs A p q;have z:∀id,exitTo id (.inScope c::k)=exitTo id k:=λid=>by simp[exitTo]
 cases e with
 |normal=>exact⟨.normal,r,s,y,.head f rB (StepsIn.trans j (.one (fenced_calm p q rfl) FP))⟩
 |exit id=>
  exact⟨.exit id,r,s,y,λB hk=>.head f rB (j.1 B (by rw[z];exact hk)),
   λC hk=>let⟨E,h1,G⟩:=j.2 C (by rw[z];exact hk);⟨E,h1,.head f rB G⟩⟩
 |ret=>exact⟨_,r,s,y,.of_steps (.one f rB) j⟩
 |goto l=>cases x
 |panic H=>cases x
 |outgrown=>cases x
theorem sound (hm:P.follows .mixedOrders=true) (c:Code):Sound P N c:=by
 induction c with
 |skip=>exact λfree r rd e a w K Q _ _ p h j q _=>wpIn_skip (q _ _ _ ⟨rfl,e,h,j,λ_ _=>rfl,λ_=>rfl,λE=>gI.refl (p E)⟩)
 |label l=>exact λfree r rd e a w K Q _ _ p h j q _=>wpIn_label (q _ _ _ ⟨rfl,e,h,j,λ_ _=>rfl,λ_=>rfl,λE=>gI.refl (p E)⟩)
 |ret=>exact λfree r rd e a w K Q _ _ p h j q _=>wpIn_ret (q _ _ _ ⟨rfl,e,h,j,λ_ _=>rfl,λ_=>rfl,λE=>gI.refl (p E)⟩)
 |exit i=>exact λfree r rd e a w K Q _ _ p h j q _=>wpIn_exit (q _ _ _ ⟨rfl,e,h,j,λ_ _=>rfl,λ_=>rfl,λE=>gI.refl (p E)⟩)
 |goto l=>exact λfree r rd e a w K Q _ _ p h j q _=>h.elim
 |refuse s=>exact λfree r rd e a w K Q _ _ p h j q _=>h.elim
 |region id ops aa=>
  intro free r rd e a w K Q A F p h j q G;simp only[wf,U4] at A;have W:∀o∈ops.toList,∀t,o.dst=σ t->t∈m4 ops.toList:=λo ab t J=>FJ J _ ab;simp only[eA] at h;cases aa with
  |false=>exact Fp W A.1 h j λa' w' B=>q _ _ _ (xV p B)
  |true=>
   simp only[Y4,Bool.false_or] at A;exact Fy hm A.2 G W A.1 (λw' h1 H I=>h w' h1 H I) j λa' w' B=>q _ _ _ (xV p B)
 |seq x y R S=>exact FK R S
 |cond c x y R S=>
  intro free r rd e a w K Q A F p h j q G;simp only[wf,U4] at A;have X:∀ex a' w',mi N free (je free x) K (dz x) a w ex a' w'->Q ex a' w':=λex a' w' B=>q ex a' w' (by
   obtain⟨O,L,h1,H,I,M,T⟩:=B;exact⟨O,L,h1,H,λt J=>I t λh=>J (by simp[dz,h]),(λh=>M (xY _ _ _ h)),T⟩)
  have Y:∀ex a' w',mi N free (je free y) K (dz y) a w ex a' w'->Q ex a' w':=λex a' w' B=>q ex a' w' (by
   obtain⟨O,L,h1,H,I,M,T⟩:=B;exact⟨O,L,h1,H,λt J=>I t λh=>J (by simp[dz,h]),(λh=>M (xZ _ _ _ h)),T⟩)
  simp only[eA] at h;cases C:eJ e c with
  |none=>rw[C] at h;exact h.elim
  |some v=>
   rw[C] at h;cases v with
   |b t=>
    cases t with
    |true=>exact wpIn_cond (t:=true) (j.eJ C) (R free r rd e a w K Q A.1 F p h j X G)
    |false=>exact wpIn_cond (t:=false) (j.eJ C) (S free r rd e a w K Q A.2 F p h j Y G)
   |v z=>
    obtain⟨t,ac,J,E⟩:=h;refine wpIn_cond (t:=t) ((j.eJ C).trans ac) ?_;cases t with
    |true=>exact R free r rd e a w K Q A.1 F p (J rfl) j X G
    |false=>exact S free r rd e a w K Q A.2 F p (E rfl) j Y G
   |u=>exact h.elim
 |block id c C=>
  intro free r rd e a w K Q A F p h j q G;simp only[wf] at A;simp only[eA] at h;refine wpIn_block (C free r rd e a w _ _ A F p h j ?_ λZ a w U=>G Z a w U);intro ex a' w' B;obtain⟨O,L,h1,H,I,M⟩:=B;cases ex with
  |exit i=>
   simp only[Exit.inBlock];simp only at h1;by_cases hi:i=id
   .rw[if_pos hi];rw[hi,Nat.beq_refl] at h1;exact q _ _ _ ⟨rfl,L,h1,H,I,M⟩
   .rw[if_neg hi];have:T4 i id=false:=by
     cases V:T4 i id with
     |true=>exact absurd (Nat.eq_of_beq_eq_true V) hi
     |false=>rfl
    rw[this] at h1;exact q _ _ _ ⟨rfl,L,h1,H,I,M⟩
  |_=>exact q _ _ _ ⟨O,L,h1,H,I,M⟩
 |loop c C=>exact FL C
 |scope c C=>
  intro free r rd e a w K Q A F p h j q G;exact FQ (C free r rd e a w K (λex a' w'=>kI ex=true/\Q ex a' w') A F p h j (λex a' w' B=>⟨B.1,q ex a' w' B⟩) λZ a w U=>by cases U.1)
 |rangeFunc f ae af body ad V=>exact FO ad V
def kJ:Nat->List x1->Env
 |_,[]=>[]
 |i,v::r=>(i,.v v)::kJ (i+1) r
def nb (P:W3) (e:Env) (w:x3):List ResultVar->(List x1->Prop)->Prop
 |[],K=>K []
 | .tmp t::r,K=>match look e t with
  |some x=>nb P e w r λvs=>K (x.val::vs)
  |none=>False
 | .cell a t::r,K=>match look e a with
  |some x=>aa P (do loadVar t (<-asAddr x.val)) w λv=>nb P e w r λvs=>K (v::vs)
  |none=>False
def rC:List x1->x1
 |[v]=>v
 |vs=>.tuple vs.toArray
def lG (P:W3) (a:List ResultVar) (marks:Bool) (n:Nat) (Q:x1->x3->Prop):Exit->Env->x3->Prop
 | .normal,e,w| .ret,e,w=>nb P e w a λvs=>bif marks then ux n w λw'=>Q (rC vs) w' else Q (rC vs) w
 |_,_,_=>False
def mj:List ResultVar->List Nat
 |[]=>[]
 | .tmp t::r=>t::mj r
 | .cell a _::r=>a::mj r
theorem x0:∀ (vs:List x1) (i t:Nat) (x:ez),look (kJ i vs) t=σ x-> ∃j v,t=i+j/\vs[j]? =σ v/\x= .v v
 |[],_,_,_,h=>by cases h
 |v::r,i,t,x,h=>by
  simp only[kJ,look] at h;cases a:T4 i t with
  |true=>
   rw[a] at h;simp only[cond_true,X0] at h;exact⟨0,v,by rw[Nat.eq_of_beq_eq_true a];rfl,rfl,h.symm⟩
  |false=>
   rw[a] at h;obtain⟨j,u,h1,e,f⟩:=x0 r (i+1) t x h;exact⟨j+1,u,Ω,by simpa using e,f⟩
theorem uC (vs:List x1) (h:vs.length<=n):S1 n (kJ 0 vs) {tmps:=vs.toArray++Array.replicate (n-vs.toArray.size) undef,defers:=[]}:=by
 refine⟨Θ,λt x e=>?_⟩;obtain⟨j,v,h1,a,rfl⟩:=x0 vs 0 t x e;have h1:t=j:=Ω
 subst h1;have f:t<vs.length:=(x4.1 a).1;rw[Array.getD_eq_getD_getElem?,Array.getElem?_append_left (by simpa using f)];simp[a,ez.val]
def rD (iA:Array x1):ResultVar->Sem x1
 | .tmp t=>pure (iA.getD t undef)
 | .cell b t=>do loadVar t (<-asAddr (iA.getD b undef))
theorem FR (fn:Func) (iA:Array x1):results fn iA=(do let vs <-fn.results.mapM (rD iA);pure (if h:vs.size=1 then vs[0] else .tuple vs)):=by
 unfold results;congr 2
theorem uD {e:Env} {a:Act} {w:x3} (j:S1 N e a):∀ (p:List ResultVar) (K:List x1->Prop),nb P e w p K->
  ∃vs,K vs/\vs.length=p.length/\ ∀w',Ext w w'->(p.mapM (rD a.tmps)).run P w'= .ok vs w'
 |[],K,h=>⟨[],h,rfl,λw' _=>by simp[W9]⟩
 | .tmp t::r,K,h=>by
  simp only[nb] at h;cases f:look e t with
  |none=>rw[f] at h;exact h.elim
  |some x=>
   rw[f] at h;obtain⟨vs,h1,q,s⟩:=uD j r _ h;refine⟨x.val::vs,h1,by simp[q],λw' hw=>?_⟩;rw[List.mapM_cons];simp only[rD,X8,W9,W0,s w' hw,j.2 t x f]
 | .cell b t::r,K,h=>by
  simp only[nb] at h;cases f:look e b with
  |none=>rw[f] at h;exact h.elim
  |some x=>
   rw[f] at h;obtain⟨v,y,h⟩:=h;obtain⟨vs,h1,q,s⟩:=uD j r _ h;refine⟨v::vs,h1,by simp[q],λw' hw=>?_⟩;rw[List.mapM_cons];have:=y w' hw;rw[<-j.2 b x f] at this;rw[rD,X8,this];simp only[W0,X8,s w' hw,W9]
theorem uE {fn:Func} {e:Env} {a:Act} (j:S1 N e a) {K:List x1->Prop} (h:nb P e w fn.results.toList K):
  ∃vs,K vs/\ ∀w',Ext w w'->(results fn a.tmps).run P w'= .ok (rC vs) w':=by
 obtain⟨vs,h1,p,f⟩:=uD j _ _ h;refine⟨vs,h1,λw' hw=>?_⟩;have f:=f w' hw;rw[FR,X8,Array.mapM_eq_mapM_toList,map_eq_pure_bind,X8,f];simp only[W0,W9];cases vs with
 |nil=>rfl
 |cons v r=>
  cases r with
  |nil=>rfl
  |cons u r=>simp[rC]
theorem x2 {fn:Func} {tmps:Array x1} {R:Ending->x3->Prop}:∀ (a:List Nat) (w:x3),a.Nodup->(∀D∈a,w.heap[D]? =σ (.deferred (σ [])))->
  (∀w',Ext w w'->Ext w' w->w'.os=w.os->jv w w'->w'.output=w.output->w.heap.size=w'.heap.size->
   (∀r,r∉a->w'.heap[r]? =w.heap[r]?)-> ∃v,(results fn tmps).run P w'= .ok v w'/\R (.returned v) w')->
  LeavesInM Fence.wide 0 P fn tmps R (a.map kc) .returning w
 |[],w,_,_,h=>by
  obtain⟨v,h1,e⟩:=h w (Ext.refl _) (Ext.refl _) rfl .j3 rfl rfl λ_ _=>rfl;exact⟨v,h1,e⟩
 |D::a,w,f,j,h=>by
  rw[List.nodup_cons] at f;have p:=j D (.head _);refine⟨Ξ,.inl ⟨D,_,rfl,run_takeDeferred p,?_⟩⟩;refine x2 a _ f.2 (λD' q=>?_) λw' h1 e x y z A B=>?_
  .rw[R4 (λhe=>f.1 (by rw[<-he];exact q))];exact j D' (.tail _ q)
  .refine h w' ((pH p rfl _).trans h1) (e.trans (xU rfl)) x y z (by simpa using A) λr s=>?_;rw[B r λhm=>s (.tail _ hm),R4 λhe=>s (by rw[he];exact .head _)]
theorem ai.enter (hm:P.follows .mixedOrders=true) {f:R3} {fn:Func} {c:Code} (y:P.funcs[f]? =σ fn) (z:fn.body=σ c) (A:(fn.name == "runtime.NumGoroutine")=false)
  (N:wf fn.ntmps c=true) {args:List x1} (O:Nat.ble args.length fn.ntmps=true) {w:x3} {Q:x1->x3->Prop}
  (h:eA P fn.ntmps (false,w.heap.size) c (mj fn.results.toList) (kJ 0 args) w (lG P fn.results.toList true w.heap.size Q)):ai P f args w Q:=by
 refine .code (Enters.of P y z A) (callsIn_wide (n:=0).1 (callsIn_of_wp_marks y z trivial ?_));have R:=uC (n:=fn.ntmps) args (Nat.le_of_ble_eq_true O);refine wpIn_mono (Q:=λex a' w'=>kI ex=true/\bodyPostM Fence.wide 0 P fn (λe w'=>∃v,e= .returned v/\cM w w'/\Q v w') ex a' w') ?_ λ_ _ _ h=>h.2;refine sound hm c (false,w.heap.size) ν _ _ _ w _ _ N (λl S=>by cases S) (λ_=>⟨[],rfl,List.nodup_nil,λD q=>by cases q⟩) h R ?_ (λ_ _ _ h=>by cases h.1)
 .intro ex a' w' T;obtain⟨V,W,j,X,_,_,I⟩:=T;obtain⟨a,⟨s,B,Y,q⟩,Z,aa,ab⟩:=I rfl;have C:∀D∈s,w.heap.size<=D:=by
   intro D ac;have h1:kc D∈Z.map kc:=by
    have:kc D∈s.map kc:=n9.2 ⟨D,ac,rfl⟩;rw[<-B,aa] at this;simpa using this
   obtain⟨E,x,ad⟩:=n9.1 h1;have:E=D:=by simpa[kc] using ad
   exact this▸ab E x
  have F:lG P fn.results.toList true w.heap.size Q .ret W w'->LeavesInM Fence.wide 0 P fn a'.tmps (λe G=>∃v,e= .returned v/\cM w G/\Q v G) a'.defers .returning w':=by
   intro j;rw[B];obtain⟨vs,h1,x⟩:=uE (fn:=fn) X j;refine x2 s w' Y q λU g1 ae H J K L M=>⟨_,x U g1,_,rfl,?_,h1 U g1 ⟨ae,H,J,K,Nat.le_of_eq L,λr o A p _=>by rw[M r λhm=>by have:=C r hm;omega];exact p⟩⟩;have a:=a.ct (o4 _);refine⟨H.trans a.os,J.trans a.tape,K.trans a.output,by rw[<-L];exact a.size,λr o p af=>?_⟩;have ag:=(j0.1 p).1;rw[M r λhm=>by have:=C r hm;omega];exact a.aW r o p af
  cases ex with
  |normal=>exact⟨rfl,F j⟩
  |ret=>exact⟨rfl,F j⟩
  |exit id=>exact j.elim
  |_=>cases V
theorem ai.FS (hm:P.follows .mixedOrders=true) {f:R3} {fn:Func} {c:Code} (j:P.funcs[f]? =σ fn) (p:fn.body=σ c) (s:(fn.name == "runtime.NumGoroutine")=false)
  (x:wf fn.ntmps c=true) {args:List x1} (y:Nat.ble args.length fn.ntmps=true) (az:ka c=false) {w:x3} {Q:x1->x3->Prop}
  (h:eA P fn.ntmps (false,w.heap.size) c (mj fn.results.toList) (kJ 0 args) w (lG P fn.results.toList false 0 Q)):ai P f args w Q:=by
 refine .code (Enters.of P j p s) (callsIn_wide (n:=0).1 (callsIn_of_wp j p trivial ?_));have z:=uC (n:=fn.ntmps) args (Nat.le_of_ble_eq_true y);refine wpIn_mono (Q:=λex a' w'=>kI ex=true/\bodyPost P fn (λe w'=>∃v,e= .returned v/\cM w w'/\Q v w') ex a' w') ?_ λ_ _ _ h=>h.2;refine sound hm c (false,w.heap.size) ν _ _ _ w _ _ x (λl A=>by cases A) (λ_=>⟨[],rfl,List.nodup_nil,λD B=>by cases B⟩) h z ?_ (λ_ _ _ h=>by cases h.1);intro ex a' w' C;obtain⟨E,F,a,G,_,H,I⟩:=C;have J:a'.defers=[]:=H (by simp[je,az]);have q:lG P fn.results.toList false 0 Q .ret F w'->a'.defers=[]/\ ∃v,(results fn a'.tmps).run P w'= .ok v w'/\ ∃r,Ending.returned v= .returned r/\cM w w'/\Q r w':=by
  intro a;obtain⟨vs,h1,K⟩:=uE (fn:=fn) G a;exact⟨J,_,K w' (Ext.refl _),_,rfl,(I rfl).1.ct (o4 _),h1⟩
 cases ex with
 |normal=>exact⟨rfl,q a⟩
 |ret=>exact⟨rfl,q a⟩
 |exit id=>exact a.elim
 |_=>cases E
theorem gG.enter (hm:P.follows .mixedOrders=true) {f:R3} {fn:Func} {c:Code} (j:P.funcs[f]? =σ fn) (p:fn.body=σ c) (s:(fn.name == "runtime.NumGoroutine")=false)
  (x:wf fn.ntmps c=true) {args:List x1} (y:Nat.ble args.length fn.ntmps=true) {w:x3} {Q:x1->x3->Prop}
  (h:eA P fn.ntmps (true,0) c (mj fn.results.toList) (kJ 0 args) w (lG P fn.results.toList false 0 Q)):gG P f args w Q:=by
 refine .code (Enters.of P j p s) (callsIn_wide (n:=0).1 (callsIn_of_wp j p trivial ?_));have z:=uC (n:=fn.ntmps) args (Nat.le_of_ble_eq_true y);refine wpIn_mono (Q:=λex a' w'=>kI ex=true/\bodyPost P fn (λe w'=>∃v,e= .returned v/\Q v w') ex a' w') ?_ λ_ _ _ h=>h.2;refine sound hm c (true,0) ν _ _ _ w _ _ x (λl A=>by cases A) (λh=>by cases h) h z ?_ (λ_ _ _ h=>by cases h.1);intro ex a' w' B;obtain⟨C,E,a,F,_,G,I⟩:=B;have H:a'.defers=[]:=G rfl;have q:lG P fn.results.toList false 0 Q .ret E w'->a'.defers=[]/\ ∃v,(results fn a'.tmps).run P w'= .ok v w'/\ ∃r,Ending.returned v= .returned r/\Q r w':=by
  intro a;obtain⟨vs,h1,J⟩:=uE (fn:=fn) F a;exact⟨H,_,J w' (Ext.refl _),_,rfl,h1⟩
 cases ex with
 |normal=>exact⟨rfl,q a⟩
 |ret=>exact⟨rfl,q a⟩
 |exit id=>exact a.elim
 |_=>cases C
end
def pI (l:List S0) (d:Nat):Nat:=
 match l with
 |[]=>d
 | .tmp t::r=>pI r (Nat.lor d (Nat.shiftLeft 1 t))
 |_::r=>pI r d
def ov:List T0->Nat->Option T0
 |[],_=>ν
 |o::_,0=>σ o
 |_::l,n+1=>ov l n
def x9 (a b:Nat):Nat:=Nat.xor a (Nat.land a b)
def pJ (m t:Nat):Bool:=T4 (Nat.land (Nat.shiftRight m t) 1) 1
def kd (m t:Nat):Nat:=Nat.lor m (Nat.shiftLeft 1 t)
def FT (ops:List T0) (o:T0):Nat:=
 match o.guard with
 |none=>0
 |some (j,_)=>match ov ops j with
  |some ⟨σ d,_,_,_,_,_⟩=>Nat.shiftLeft 1 d
  |_=>0
def rE:List T0->Nat->Nat
 |[],d=>d
 |⟨σ t,_,_,_,_,_⟩::l,d=>rE l (kd d t)
 |_::l,d=>rE l d
def ya (ops:List T0):List T0->Nat->Nat->Nat
 |[],_,r=>r
 |o::l,d,r=>ya ops l (match o.dst with|some t=>kd d t|none=>d) (Nat.lor r (x9 (pI (opsOf o.op) (FT ops o)) d))
def rF:List Nat->Nat->Nat
 |[],_=>0
 |x::_,0=>x
 |_::l,n+1=>rF l n
def yb (e:Edge):Bool:=
 match e.ground with
 | .textOnly _=>false
 | .gcOnly _=>false
 |_=>true
def yc (bs:List Nat):List Edge->Nat->Nat
 |[],s=>s
 |e::r,s=>yc bs r (bif yb e then Nat.lor (kd s e.on) (rF bs e.on) else s)
def uF:List T0->List Nat->List Nat
 |[],bs=>bs
 |o::l,bs=>uF l (bs++[yc bs o.after.toList 0])
def yd:List T0->Bool
 |[]=>false
 |⟨_,_,_,_,_,σ _⟩::_=>true
 |_::l=>yd l
def uG (bs:List Nat) (j k:Nat):Bool:=!(T4 k j)&&(!(pJ (rF bs j) k)&& !(pJ (rF bs k) j))
def ye (bs:List Nat) (j:Nat):Nat->List T0->Bool
 |_,[]=>false
 |i,o::l=>bif Nat.ble j i then false else (!(ja o)&&uG bs j i)||ye bs j (Nat.succ i) l
def yf (ops:List T0) (bs:List Nat):Nat->List T0->Bool
 |_,[]=>false
 |j,o::l=>(!(ja o)&&ye bs j 0 ops)||yf ops bs (Nat.succ j) l
def lH:Code->Nat
 | .region _ ops e=>bif (e&&yf ops.toList (uF ops.toList []) 0 ops.toList)||yd ops.toList then 2 else 1
 | .seq a b=>bif T4 (lH a) 0 then 0 else lH b
 | .cond _ a b=>Nat.add (lH a) (lH b)
 | .block id c=>Nat.add (lH c) (jx id c)
 | .loop _=>0
 | .scope c=>lH c
 | .exit _=>0
 | .goto _=>0
 | .ret=>0
 | .refuse _=>0
 |_=>1
def h3:Code->Nat
 | .region _ ops _=>rE ops.toList 0
 | .seq a b=>Nat.lor (h3 a) (h3 b)
 | .cond _ a b=>Nat.lor (h3 a) (h3 b)
 | .block _ c=>h3 c
 | .loop c=>h3 c
 | .scope c=>h3 c
 |_=>0
def lI:Code->Nat
 | .region _ ops _=>rE ops.toList 0
 | .seq a b=>Nat.lor (lI a) (lI b)
 | .cond _ a b=>bif T4 (lH a) 0 then lI b else bif T4 (lH b) 0 then lI a else Nat.land (lI a) (lI b)
 | .block id c=>bif T4 (jx id c) 0 then lI c else 0
 | .scope c=>lI c
 |_=>0
def fY:Code->Nat
 | .region _ ops _=>ya ops.toList ops.toList 0 0
 | .seq a b=>Nat.lor (fY a) (x9 (fY b) (lI a))
 | .cond c a b=>pI [c] (Nat.lor (fY a) (fY b))
 | .block _ c=>fY c
 | .loop c=>fY c
 | .scope c=>fY c
 | .rangeFunc f _ a b=>pI [f] (Nat.lor (fY a) (fY b))
 |_=>0
def ml:Nat->Nat->Nat->List Nat
 |0,_,_=>[]
 |n+1,k,m=>bif T4 m 0 then[] else bif T4 (Nat.land m 1) 1 then k::ml n (Nat.succ k) (Nat.shiftRight m 1) else ml n (Nat.succ k) (Nat.shiftRight m 1)
def pK (e:Env):List Nat->List Nat
 |[]=>[]
 |t::r=>match look e t with
  |some _=>t::pK e r
  |none=>pK e r
structure mm (B S aS:Type) where
 kK:{x:x1}->x1
 tup:List x1->x1
 no:B
 kL:B
 and:B->B->B
 or:B->B->B
 ext:x3->x3->B
 stays:S->x1->x3->B
 split:x1->B->B->B
 uH:S->x3->(x1->B)->B
 yg:S->x3->(x1->x3->B)->B
 yh:aS->x3->(x3->B)->B
 runN:{fr:Bool}->{n:Nat}->S->x3->(x1->x3->B)->B
 yi:{f:R3}->List x1->x3->(x1->x3->B)->B
 yj:{f:R3}->List x1->x3->(x1->x3->B)->B
 yk:{fr:Bool}->x1->List x1->x3->(x1->x3->B)->B
 drew:x3->(x3->B)->B
 again:{n:Nat}->x3->(x3->B)->B
 over:{n:Nat}->x3->(x3->B)->B
 dm:(x3->B)->((x3->B)->B)->B
 aU:(x1->x3->B)->((x1->x3->B)->B)->B
 iB:(x1->x1->x3->B)->((x1->x1->x3->B)->B)->B
 yl:(x1->x1->x1->x3->B)->((x1->x1->x1->x3->B)->B)->B
 ym:(x1->x1->x1->x1->x3->B)->((x1->x1->x1->x1->x3->B)->B)->B
 yn:(x1->x1->x1->x1->x1->x3->B)->((x1->x1->x1->x1->x1->x3->B)->B)->B
 yo:x3->(x3->(x3->B)->B)->B
 yp:x1->x3->(x1->x3->(x1->x3->B)->B)->B
 yq:x1->x1->x3->(x1->x1->x3->(x1->x1->x3->B)->B)->B
 yr:x1->x1->x1->x3->(x1->x1->x1->x3->(x1->x1->x1->x3->B)->B)->B
 ys:x1->x1->x1->x1->x3->(x1->x1->x1->x1->x3->(x1->x1->x1->x1->x3->B)->B)->B
 yt:x1->x1->x1->x1->x1->x3->(x1->x1->x1->x1->x1->x3->(x1->x1->x1->x1->x1->x3->B)->B)->B
 yu:x1->x1->x1->x1->x1->x1->x3->(x1->x1->x1->x1->x1->x1->x3->(x1->x1->x1->x1->x1->x1->x3->B)->B)->B
 yv:x1->x3->(x1->x3->(Exit->x3->B)->B)->(x3->B)->(x3->B)->List (Nat×(x3->B))->B
 yw:x1->x3->(x1->x1->x3->(Exit->x3->B)->B)->(x3->B)->(x3->B)->List (Nat×(x3->B))->B
 loadVar:{t:r9}->x1->S
 alloc:{t:r9}->S
 box:{t:r9}->x1->S
 build:{t:r9}->List (Nat×x1)->S
 buildSlice:{t:r9}->{n:Nat}->List (Nat×x1)->S
 load:{t:r9}->x1->S
 nil:x1->S
 bin:{op:BinOp}->{t:r9}->Bool->Bool->x1->x1->S
 un:{op:UnOp}->x1->S
 conv:{s d:r9}->x1->S
 yx:{t:r9}->x1->S
 yy:{f:Fn}->List x1->List x1->S
 yz:{t:r9}->Option x1->S
 yA:{t:r9}->x1->x1->S
 slice:{t:r9}->x1->Option x1->Option x1->Option x1->S
 yB:{t:r9}->x1->{f:Nat}->S
 field:{t:r9}->x1->{f:Nat}->S
 yC:{t:r9}->x1->x1->S
 index:{t:r9}->x1->x1->S
 lookup:{t:r9}->x1->x1->{ok:Bool}->S
 yD:{t:r9}->x1->x1->S
 range:{t:r9}->x1->S
 entry:x1->S
 assert:{t a:r9}->x1->{ok:Bool}->S
 extract:x1->{i:Nat}->S
 next:x1->{b:Bool}->S
 append:{ats:Array r9}->{t:r9}->List x1->S
 cap:{ats:Array r9}->{t:r9}->List x1->S
 clear:{ats:Array r9}->{t:r9}->List x1->S
 copy:{ats:Array r9}->{t:r9}->List x1->S
 delete:{ats:Array r9}->{t:r9}->List x1->S
 len:{ats:Array r9}->{t:r9}->List x1->S
 max:{ats:Array r9}->{t:r9}->List x1->S
 min:{ats:Array r9}->{t:r9}->List x1->S
 store:{t:r9}->x1->x1->aS
 uI:{t:r9}->x1->x1->x1->aS
 yE:{t:r9}->x1->x1->x1->aS
section
variable {B S aS:Type} (A:mm B S aS)
def ez.g:ez->x1
 | .v x=>x
 | .b c=>.bool c
 | .u=>A.kK (x:=undef)
def nc (e:Env):S0->ez
 | .tmp t=>match look e t with
  |some x=>x
  |none=>.u
 | .const (.bool c)=>.b c
 | .const x=>.v (A.kK (x:=x))
 | .global g=>.v (A.kK (x:=Γ g))
 | .func f=>.v (A.kK (x:=.func (.func f) #[] #[]))
def c0 (e:Env) (x:S0):x1:=(nc A e x).g A
def ne (e:Env):List S0->List x1
 |[]=>[]
 |x::r=>c0 A e x::ne e r
def rG (e:Env):Option S0->Option x1
 |none=>ν
 |some x=>σ (c0 A e x)
def uJ (e:Env):List (Nat×S0)->List (Nat×x1)
 |[]=>[]
 |(i,x)::r=>(i,c0 A e x)::uJ e r
def FU (b:Z1) (ats:Array r9) (t:r9) (l:List x1) (K:S->B):B:=
 match b with
 | .append=>K (A.append (ats:=ats) (t:=t) l)
 | .cap=>K (A.cap (ats:=ats) (t:=t) l)
 | .clear=>K (A.clear (ats:=ats) (t:=t) l)
 | .copy=>K (A.copy (ats:=ats) (t:=t) l)
 | .delete=>K (A.delete (ats:=ats) (t:=t) l)
 | .len=>K (A.len (ats:=ats) (t:=t) l)
 | .max=>K (A.max (ats:=ats) (t:=t) l)
 | .min=>K (A.min (ats:=ats) (t:=t) l)
 |_=>A.no
def yF (e:Env) (t:r9) (K:S->B) (j:aS->B):Op->B
 | .alloc t=>K (A.alloc (t:=t))
 | .box t x=>K (A.box (t:=t) (c0 A e x))
 | .build t p=>K (A.build (t:=t) (uJ A e p.toList))
 | .buildSlice t n p=>K (A.buildSlice (t:=t) (n:=n) (uJ A e p.toList))
 | .load t x=>K (A.load (t:=t) (c0 A e x))
 | .nilCheck x=>K (A.nil (c0 A e x))
 | .binOp op t x y _=>K (A.bin (op:=op) (t:=t) (og x) (og y) (c0 A e x) (c0 A e y))
 | .unOp op _ x=>K (A.un (op:=op) (c0 A e x))
 | .convert s d x=>K (A.conv (s:=s) (d:=d) (c0 A e x))
 | .makeInterface t x=>K (A.yx (t:=t) (c0 A e x))
 | .makeFunc f a b=>K (A.yy (f:=f) (ne A e a.toList) (ne A e b.toList))
 | .makeMap t r=>K (A.yz (t:=t) (rG A e r))
 | .makeSlice t l c=>K (A.yA (t:=t) (c0 A e l) (c0 A e c))
 | .slice t x l h m=>K (A.slice (t:=t) (c0 A e x) (rG A e l) (rG A e h) (rG A e m))
 | .fieldAddr t x f=>K (A.yB (t:=t) (c0 A e x) (f:=f))
 | .field t x f=>K (A.field (t:=t) (c0 A e x) (f:=f))
 | .indexAddr t x i=>K (A.yC (t:=t) (c0 A e x) (c0 A e i))
 | .index t x i=>K (A.index (t:=t) (c0 A e x) (c0 A e i))
 | .lookup t x i ok=>K (A.lookup (t:=t) (c0 A e x) (c0 A e i) (ok:=ok))
 | .mapEntry t m k=>K (A.yD (t:=t) (c0 A e m) (c0 A e k))
 | .range t x=>K (A.range (t:=t) (c0 A e x))
 | .entry x=>K (A.entry (c0 A e x))
 | .typeAssert x t a ok=>K (A.assert (t:=t) (a:=a) (c0 A e x) (ok:=ok))
 | .extract x i=>K (A.extract (c0 A e x) (i:=i))
 | .call ⟨.builtin b,args,ats⟩=>FU A b ats t (ne A e args.toList) K
 | .store t a x=>j (A.store (t:=t) (c0 A e a) (c0 A e x))
 | .mapUpdate t m k x=>j (A.uI (t:=t) (c0 A e m) (c0 A e k) (c0 A e x))
 | .insert t m k x=>j (A.uI (t:=t) (c0 A e m) (c0 A e k) (c0 A e x))
 | .entryStore t m k x=>j (A.yE (t:=t) (c0 A e m) (c0 A e k) (c0 A e x))
 |_=>A.no
def hl (e:Env) (d:Option Tmp) (x:ez):Env:=
 match d with
 |some t=>(t,x)::e
 |none=>e
def yG (o:T0) (e:Env) (w:x3) (K:Env->(x3->B)->B):B:=
 match o with
 |⟨d,.move x,_,_,_,_⟩=>K (hl e d (nc A e x)) (λ_=>A.kL)
 |⟨d,.assign x,_,_,_,_⟩=>K (hl e d (nc A e x)) (λ_=>A.kL)
 |⟨d,.pick c a b,_,_,_,_⟩=>
  match nc A e c with
  | .b true=>K (hl e d (nc A e a)) (λ_=>A.kL)
  | .b false=>K (hl e d (nc A e b)) (λ_=>A.kL)
  | .v x=>A.split x (K (hl e d (.v (c0 A e a))) (λ_=>A.kL)) (K (hl e d (.v (c0 A e b))) (λ_=>A.kL))
  | .u=>A.no
 |⟨d,op,t,_,_,_⟩=>yF A e t (λs=>A.uH s w λv=>K (hl e d (.v v)) (A.stays s v)) (λ_=>A.no) op
def FV (fr:Bool) (n:Nat) (o:T0) (e:Env) (w:x3) (K:Env->x3->B):B:=
 match o with
 |⟨d,.call ⟨.value (.func f),args,_⟩,_,_,_,_⟩=>
  bif fr then A.yj (f:=f) (ne A e args.toList) w λv w'=>K (hl e d (.v v)) w'
  else A.yi (f:=f) (ne A e args.toList) w λv w'=>K (hl e d (.v v)) w'
 |⟨d,.call ⟨.value x,args,_⟩,_,_,_,_⟩=>A.yk (fr:=fr) (c0 A e x) (ne A e args.toList) w λv w'=>K (hl e d (.v v)) w'
 |⟨d,.next x b,_,_,_,_⟩=>A.runN (fr:=fr) (n:=n) (A.next (c0 A e x) (b:=b)) w λv w'=>K (hl e d (.v v)) w'
 |⟨d,op,t,_,_,_⟩=>yF A e t (λs=>A.yg s w λv w'=>K (hl e d (.v v)) w') (λu=>A.yh u w λw'=>K (hl e d (.v (A.kK (x:=undef)))) w') op
def yH (fr:Bool) (n:Nat) (o:T0) (e:Env) (w:x3) (K:Env->x3->B):B:=
 bif ja o then yG A o e w (λa _=>K a w) else FV A fr n o e w K
def uK (ops:List T0) (o:T0) (e:Env) (D N:Env->B):B:=
 match o.guard with
 |none=>D e
 |some (j,b)=>
  match ov ops j with
  |some ⟨σ s,_,_,_,_,_⟩=>
   match look e s with
   |some (.b c)=>bif xor c b then N e else D e
   |some (.v x)=>A.split x (bif b then D ((s,.b true)::e) else N ((s,.b true)::e)) (bif b then N ((s,.b false)::e) else D ((s,.b false)::e))
   |some .u=>N e
   |none=>A.no
  |_=>A.no
def uL (fr:Bool) (n:Nat) (ops:List T0):List T0->Env->x3->(Env->x3->B)->B
 |[],e,w,K=>K e w
 |o::l,e,w,K=>uK A ops o e (λe=>yH A fr n o e w λa w'=>uL fr n ops l a w' K) (λe=>uL fr n ops l (hl e o.dst .u) w K)
def yI:List Edge->Nat->Bool
 |[],_=>true
 |e::r,a=>(bif yb e then pJ a e.on else true)&&yI r a
def rH (a:Nat):Nat->List T0->List Nat
 |_,[]=>[]
 |i,o::l=>bif pJ a i then rH a (Nat.succ i) l else bif yI o.after.toList a then i::rH a (Nat.succ i) l else rH a (Nat.succ i) l
def yJ (ops:List T0):List Nat->Option Nat
 |[]=>ν
 |i::r=>match ov ops i with
  |some o=>bif ja o then σ i else yJ ops r
  |none=>ν
def yK (p:Nat->B):List Nat->B
 |[]=>A.kL
 |[i]=>p i
 |i::r=>A.and (p i) (yK p r)
def yL (same:Bool) (q:Nat) (w:x3) (st:x3->B) (a:List (x3×List (Nat×(x3->B)))):List (x3×List (Nat×(x3->B))):=
 match same,a with
 |true,g::r=>(g.1,(q,st)::g.2)::r
 |_,a=>(w,[(q,st)])::a
def yM (bs:List Nat) (j:Nat):List (Nat×(x3->B))->Bool
 |[]=>false
 |(i,_)::r=>uG bs j i||yM bs j r
def uM (bs:List Nat) (j:Nat) (w':x3):List (Nat×(x3->B))->B
 |[]=>A.kL
 |(i,p)::r=>bif uG bs j i then A.and (p w') (uM bs j w' r) else uM bs j w' r
def rI (bs:List Nat) (j:Nat) (w':x3) (C:B):List (x3×List (Nat×(x3->B)))->B
 |[]=>C
 |(w,l)::r=>bif yM bs j l then A.and (A.or (A.ext w w') (uM A bs j w' l)) (rI bs j w' C r) else rI bs j w' C r
def nf (fr:Bool) (n:Nat) (ops:List T0) (bs:List Nat):Nat->Nat->Bool->List (x3×List (Nat×(x3->B)))->Env->x3->(Env->x3->B)->B
 |0,_,_,_,e,w,K=>K e w
 |fuel+1,f,same,a,e,w,K=>
  match rH f 0 ops with
  |[]=>K e w
  |i::r=>
   match yJ ops (i::r) with
   |some q=>
    match ov ops q with
    |some o=>uK A ops o e
      (λe=>yG A o e w λh st=>
       bif lA o then nf fr n ops bs fuel (kd f q) same a h w K
       else nf fr n ops bs fuel (kd f q) true (yL same q w st a) h w K)
      (λe=>bif lA o then nf fr n ops bs fuel (kd f q) same a (hl e o.dst .u) w K
       else nf fr n ops bs fuel (kd f q) true (yL same q w (λ_=>A.kL) a) (hl e o.dst .u) w K)
    |none=>A.no
   |none=>
    yK A (λj=>match ov ops j with
     |some o=>uK A ops o e (λe=>yH A fr n o e w λh w'=>rI A bs j w' (nf fr n ops bs fuel (kd f j) false a h w' K) a)
       (λe=>rI A bs j w (nf fr n ops bs fuel (kd f j) false a (hl e o.dst .u) w K) a)
     |none=>A.no) (i::r)
def rJ (e:Env):List Nat->List x1
 |[]=>[]
 |t::r=>(match look e t with|some x=>x.g A|none=>A.kK (x:=undef))::rJ e r
def uN (l:List Nat) (vs:List x1) (e:Env):Env:=
 match l,vs with
 |t::r,v::vs=>(t,.v v)::uN r vs e
 |_,_=>e
def rK (d:Nat):Env->Env
 |[]=>[]
 |(t,x)::r=>bif pJ d t then rK d r else (t,x)::rK d r
def FW (l:List Nat) (av:List x1->x3->B) (e:(List x1->x3->B)->B):B:=
 match l with
 |[]=>A.dm (λw=>av [] w) λk=>e λ_ w=>k w
 |[_]=>A.aU (λa w=>av [a] w) λk=>e λvs w=>match vs with
  |[a]=>k a w
  |_=>A.no
 |[_,_]=>A.iB (λa b w=>av [a,b] w) λk=>e λvs w=>match vs with
  |[a,b]=>k a b w
  |_=>A.no
 |[_,_,_]=>A.yl (λa b c w=>av [a,b,c] w) λk=>e λvs w=>match vs with
  |[a,b,c]=>k a b c w
  |_=>A.no
 |[_,_,_,_]=>A.ym (λa b c d w=>av [a,b,c,d] w) λk=>e λvs w=>match vs with
  |[a,b,c,d]=>k a b c d w
  |_=>A.no
 |[_,_,_,_,_]=>A.yn (λa b c d f w=>av [a,b,c,d,f] w) λk=>e λvs w=>match vs with
  |[a,b,c,d,f]=>k a b c d f w
  |_=>A.no
 |_=>A.no
def FX (us:List x1) (w:x3) (e:List x1->x3->(List x1->x3->B)->B):B:=
 match us with
 |[]=>A.yo w λw k=>e [] w λ_ w=>k w
 |[a]=>A.yp a w λa w k=>e [a] w λvs w=>match vs with
  |[a]=>k a w
  |_=>A.no
 |[a,b]=>A.yq a b w λa b w k=>e [a,b] w λvs w=>match vs with
  |[a,b]=>k a b w
  |_=>A.no
 |[a,b,c]=>A.yr a b c w λa b c w k=>e [a,b,c] w λvs w=>match vs with
  |[a,b,c]=>k a b c w
  |_=>A.no
 |[a,b,c,d]=>A.ys a b c d w λa b c d w k=>e [a,b,c,d] w λvs w=>match vs with
  |[a,b,c,d]=>k a b c d w
  |_=>A.no
 |[a,b,c,d,f]=>A.yt a b c d f w λa b c d f w k=>e [a,b,c,d,f] w λvs w=>match vs with
  |[a,b,c,d,f]=>k a b c d f w
  |_=>A.no
 |[a,b,c,d,f,g]=>A.yu a b c d f g w λa b c d f g w k=>e [a,b,c,d,f,g] w λvs w=>match vs with
  |[a,b,c,d,f,g]=>k a b c d f g w
  |_=>A.no
 |_=>A.no
def uO (K:Nat->x3->B):List Nat->List (Nat×(x3->B))
 |[]=>[]
 |i::r=>(i,λw=>K i w)::uO K r
def hM (fr:Bool) (n:Nat):Code->Nat->Env->x3->(Exit->Env->x3->B)->B
 | .skip,_,e,w,K=>K .normal e w
 | .label _,_,e,w,K=>K .normal e w
 | .ret,_,e,w,K=>K .ret e w
 | .exit i,_,e,w,K=>K (.exit i) e w
 | .region _ ops C,_,e,w,K=>
  bif C then A.drew w λw'=>nf A fr n ops.toList (uF ops.toList []) (ops.toList.length) 0 false [] e w' (K .normal)
  else uL A fr n ops.toList ops.toList e w (K .normal)
 | .seq x y,rd,e,w,K=>
  bif Nat.ble 2 (lH x) then
   FW A (ml 1000 0 (Nat.land (h3 x) (Nat.lor (fY y) rd))) (λvs w'=>hM fr n y rd (uN (ml 1000 0 (Nat.land (h3 x) (Nat.lor (fY y) rd))) vs (rK (h3 x) e)) w' K)
    λav=>hM fr n x (Nat.lor (fY y) rd) e w λex h w'=>match ex with
     | .normal=>av (rJ A h (ml 1000 0 (Nat.land (h3 x) (Nat.lor (fY y) rd)))) w'
     |ex=>K ex h w'
  else hM fr n x (Nat.lor (fY y) rd) e w λex h w'=>match ex with
   | .normal=>hM fr n y rd h w' K
   |ex=>K ex h w'
 | .cond c x y,rd,e,w,K=>
  match nc A e c with
  | .b true=>hM fr n x rd e w K
  | .b false=>hM fr n y rd e w K
  | .v v=>A.split v (hM fr n x rd e w K) (hM fr n y rd e w K)
  | .u=>A.no
 | .block id c,rd,e,w,K=>hM fr n c rd e w λex h w'=>match ex with
  | .exit i=>bif T4 i id then K .normal h w' else K (.exit i) h w'
  |ex=>K ex h w'
 | .loop c,rd,e,w,K=>
  FX A (rJ A e (pK e (ml 1000 0 (Nat.land (h3 c) (Nat.lor (fY c) rd))))) w λus w' k=>
   hM fr n c (Nat.lor (fY c) rd) (uN (pK e (ml 1000 0 (Nat.land (h3 c) (Nat.lor (fY c) rd)))) us (rK (h3 c) e)) w' λex h j=>match ex with
    | .normal=>k (rJ A h (pK e (ml 1000 0 (Nat.land (h3 c) (Nat.lor (fY c) rd))))) j
    |ex=>K ex h j
 | .scope c,rd,e,w,K=>hM fr n c rd e w K
 | .rangeFunc f E z body,_,e,w,K=>
  match E.toList with
  |[p]=>A.yv (c0 A e f) w
    (λa w' k=>hM fr n z (fY body) ((p,.v a)::e) w' λex h j=>match ex with
     | .normal=>A.over (n:=w.heap.size) j λr=>hM fr n body 0 h r λex _ s=>k ex s
     |_=>A.no)
    (λw'=>K .normal e w') (bif jd body then λw'=>K .ret e w' else λ_=>A.no) (uO (λi w'=>K (.exit i) e w') (jy body))
  |[p,q]=>A.yw (c0 A e f) w
    (λa b w' k=>hM fr n z (fY body) ((q,.v b)::(p,.v a)::e) w' λex h j=>match ex with
     | .normal=>A.over (n:=w.heap.size) j λr=>hM fr n body 0 h r λex _ s=>k ex s
     |_=>A.no)
    (λw'=>K .normal e w') (bif jd body then λw'=>K .ret e w' else λ_=>A.no) (uO (λi w'=>K (.exit i) e w') (jy body))
  |_=>A.no
 | .goto _,_,_,_,_=>A.no
 | .refuse _,_,_,_,_=>A.no
def yN:Nat->List x1->Env
 |_,[]=>[]
 |i,v::r=>(i,.v (A.kK (x:=v)))::yN (i+1) r
def rL (e:Env) (w:x3):List ResultVar->(List x1->B)->B
 |[],K=>K []
 | .tmp t::r,K=>rL e w r λvs=>K ((match look e t with|some x=>x.g A|none=>A.kK (x:=undef))::vs)
 | .cell a t::r,K=>A.uH (A.loadVar (t:=t) (match look e a with|some x=>x.g A|none=>A.kK (x:=undef))) w λv=>rL e w r λvs=>K (v::vs)
def rM (vs:List x1) (K:x1->B):B:=
 match vs with
 |[v]=>K v
 |vs=>K (A.tup vs)
def uP:List ResultVar->Nat->Nat
 |[],s=>s
 | .tmp t::r,s=>uP r (kd s t)
 | .cell a _::r,s=>uP r (kd s a)
def FY (a:List ResultVar) (marks:Bool) (n:Nat) (Q:x1->x3->B):Exit->Env->x3->B
 | .normal,e,w=>rL A e w a λvs=>bif marks then A.again (n:=n) w λw'=>rM A vs λv=>Q v w' else rM A vs λv=>Q v w
 | .ret,e,w=>rL A e w a λvs=>bif marks then A.again (n:=n) w λw'=>rM A vs λv=>Q v w' else rM A vs λv=>Q v w
 |_,_,_=>A.no
def uQ (fr marks:Bool) (fn:Func) (c:Code) (args:List x1) (w:x3) (Q:x1->x3->B):B:=
 hM A fr n c (uP fn.results.toList 0) (yN A 0 args) w (FY A fn.results.toList marks n Q)
end
def ow (P:W3):mm Prop (Sem x1) (Sem Unit) where
 kK {x}:=x
 tup l:=.tuple l.toArray
 no:=False
 kL:=True
 and:=And
 or:=Or
 ext:=Ext
 stays:=ci P
 split:=Split
 uH:=aa P
 yg:=ax P
 yh u w K:=ax P u w λ_ w'=>K w'
 runN {fr n}:=ri P (fr,n)
 yi {f}:=ai P f
 yj {f}:=gG P f
 yk {fr}:=rl P fr
 drew:=eo
 again {n}:=ux n
 over {n}:=Over n
 dm:=cm
 aU:=cm
 iB:=cm
 yl:=cm
 ym:=cm
 yn:=cm
 yo:=FC
 yp:=ch
 yq:=b1
 yr:=om
 ys:=rv
 yt:=pD
 yu:=FD
 yv:=lE P
 yw:=na P
 loadVar {t} x:=do loadVar t (<-asAddr x)
 alloc {t}:=T7 t true (.tuple #[])
 box {t} x:=Instr.box t x
 build {t} l:=Instr.build t l.toArray
 buildSlice {t n} l:=Y1 t n l.toArray
 load {t} x:=u5 t x
 nil x:=bO x
 bin {op t} a b x y:=aJ op t a b x y
 un {op} x:=Op.unary op x
 conv {s d} x:=convert s d x
 yx {t} x:=Instr.makeInterface t x
 yy {f} a b:=Instr.makeFunc f a.toArray b.toArray
 yz {t} x:=Instr.makeMap t x
 yA {t} l c:=Instr.makeSlice t l c
 slice {t} x l h m:=V5 t x l h m
 yB {t} x {f}:=u6 t x f
 field {t} x {f}:=Instr.field t x f
 yC {t} x i:=c7 t x i
 index {t} x i:=Instr.index t x i
 lookup {t} x i {ok}:=Instr.lookup t x i ok
 yD {t} m k:=Instr.mapEntry t m k
 range {t} x:=Instr.range t x
 entry x:=Instr.entry x
 assert {t a} x {ok}:=Instr.typeAssert x t a ok
 extract x {i}:=Z7 x i
 next x {b}:=Instr.next x b 0
 append {ats t} l:=b8 ats t l.toArray
 cap {ats t} l:=Z1.cap_ ats t l.toArray
 clear {ats t} l:=Z1.clear_ ats t l.toArray
 copy {ats t} l:=Z1.copy_ ats t l.toArray
 delete {ats t} l:=Z1.delete_ ats t l.toArray
 len {ats t} l:=W7 ats t l.toArray
 max {ats t} l:=Z1.max_ ats t l.toArray
 min {ats t} l:=Z1.min_ ats t l.toArray
 store {t} a x:=o8 t a x
 uI {t} m k x:=Instr.mapUpdate t m k x
 yE {t} m k x:=Instr.entryStore t m k x
end Go.Vc
namespace Go.Proofs.YtjjhhcfgfdepdaaGreatDoor
open Go Go.Vc Go.RowKit Go.Proofs Go.Proofs.Tryz
set_option maxRecDepth 100000
theorem mixed:x7.follows .mixedOrders=true:=Ψ
def yO:Nat:=6
def yP:Nat:=8
def yQ:Nat:=9
def uR:Nat:=10
def FZ:Nat:=13
def F0:Nat:=14
def F3:Nat:=15
def F4:Nat:=16
def F5:Nat:=17
def F6:Nat:=18
def F7:Nat:=19
def F8:Nat:=22
def F9:Nat:=23
def rN:Nat:=24
def pL:Nat:=25
def yR:Nat:=26
def yS:Nat:=27
def Ga:Nat:=28
def yT:Nat:=29
def Gb:Nat:=30
def Gc:Nat:=31
def Gd:Nat:=32
def Ge:Nat:=33
def Gf:Nat:=34
def Gg:Nat:=35
def Gh:Nat:=36
def yU:Nat:=37
def Gi:Nat:=38
def Gj:Nat:=39
def uS:Nat:=40
def Gk:Nat:=41
def yV:Nat:=42
def Gl:Nat:=43
def Gm:Nat:=44
def Gn:Nat:=45
def yW:Nat:=46
def Gp:Nat:=47
def Gq:Nat:=48
def Gr:Nat:=49
def ng:Nat:=50
def nh:Nat:=51
def Gs:Nat:=52
def Gt:Nat:=53
def Gu:Nat:=54
def Gv:Nat:=55
def Gw:Nat:=56
def Gx:Nat:=57
def Gy:Nat:=58
def Gz:Nat:=59
def GA:Nat:=60
def GB:Nat:=61
def GC:Nat:=63
def GD:Nat:=64
def GF:Nat:=65
def yX:Nat:=66
def GG:Nat:=67
def GH:Nat:=68
def yY:Nat:=69
def GI:Nat:=70
def GJ:Nat:=71
def GK:Nat:=72
def GL:Nat:=73
def GM:Nat:=74
def GN:Nat:=75
def GO:Nat:=76
def yZ:Nat:=77
def y0:Nat:=78
def pM:Nat:=79
def ni:Nat:=80
def kM:Nat:=81
def y1:Nat:=82
def uT:Nat:=83
def nj:Nat:=84
def y2:Nat:=85
def uU:Nat:=86
def GP:Nat:=87
def GQ:Nat:=88
def rO:Nat:=89
def lJ:Nat:=90
def y3:Nat:=91
def nk:Nat:=92
def GR:Nat:=93
def GS:Nat:=94
def GU:Nat:=95
def GV:Nat:=96
def y4:Nat:=97
def GW:Nat:=98
def GX:Nat:=99
def GY:Nat:=100
def y5:Nat:=101
def y6:Nat:=102
def GZ:Nat:=103
def G0:Nat:=104
def G1:Nat:=105
def G2:Nat:=106
def G3:Nat:=107
def G4:Nat:=108
def G5:Nat:=109
def G6:Nat:=110
def G7:Nat:=111
def G8:Nat:=112
def G9:Nat:=113
def Ha:Nat:=114
def Hb:Nat:=115
def Hc:Nat:=116
def ke:Nat:=117
def Hd:Nat:=118
def He:Nat:=119
def rP:Nat:=120
def y7:Nat:=121
def Hf:Nat:=122
def Hg:Nat:=123
def Hh:Nat:=124
def Hi:Nat:=125
def Hj:Nat:=126
def Hk:Nat:=127
def Hl:Nat:=128
def Hm:Nat:=129
def Hn:Nat:=130
def Ho:Nat:=131
def Hp:Nat:=132
def Hq:Nat:=133
def kN:Nat:=134
def Hr:Nat:=135
def Hs:Nat:=136
def Ht:Nat:=137
def Hu:Nat:=138
def Hv:Nat:=139
def y8:Nat:=140
def Hw:Nat:=141
def Hx:Nat:=142
def Hy:Nat:=143
def Hz:Nat:=144
def HA:Nat:=145
def ox:Nat:=146
def HB:Nat:=147
def HC:Nat:=148
def rQ:Nat:=149
def HD:Nat:=150
def HE:Nat:=151
def y9:Nat:=152
def za:Nat:=153
def HF:Nat:=154
def pN:Nat:=155
def HG:Nat:=156
def uV:Nat:=157
def HH:Nat:=158
def HI:Nat:=159
def zb:Nat:=160
def HJ:Nat:=161
def HK:Nat:=162
def HL:Nat:=163
def zc:Nat:=164
def HM:Nat:=165
def HN:Nat:=166
def HO:Nat:=167
def HP:Nat:=168
def zd:Nat:=169
def HQ:Nat:=170
def HR:Nat:=171
def HS:Nat:=172
def HT:Nat:=173
def ze:Nat:=174
def HU:Nat:=175
def HV:Nat:=176
def HW:Nat:=177
def lK:Nat:=178
def lL:Nat:=179
def HX:Nat:=180
def zf:Nat:=181
def HY:Nat:=182
def HZ:Nat:=183
def uW:Nat:=184
def rR:Nat:=185
def uX:Nat:=186
def H0:Nat:=187
def uY:Nat:=188
def H1:Nat:=189
def H2:Nat:=190
def uZ:Nat:=191
def H3:Nat:=192
def H4:Nat:=193
def zg:Nat:=194
def zh:Nat:=195
def zi:Nat:=196
def H5:Nat:=197
def H6:Nat:=198
def H7:Nat:=199
def H8:Nat:=200
def H9:Nat:=201
def Ia:Nat:=202
def Ib:Nat:=203
def QM:Nat:=204
def Ic:Nat:=206
def cmp_isNaN_int:Nat:=207
def zj:Nat:=208
def u0:Nat:=209
def rS:Nat:=210
def Ie:Nat:=211
def If:Nat:=212
def zk:Nat:=213
def Ig:Nat:=214
def Ih:Nat:=215
def Ii:Nat:=216
def Ij:Nat:=217
def Ik:Nat:=218
def Il:Nat:=219
def QN:Nat:=220
def zl:Nat:=221
def Im:Nat:=222
def QO:Nat:=223
def In:Nat:=224
def Io:Nat:=225
def oy:Nat:=226
def Ip:Nat:=227
def Iq:Nat:=228
def Ir:Nat:=229
def Is:Nat:=239
def It:Nat:=240
def rT:Nat:=241
def Iu:Nat:=242
def Iv:Nat:=243
def Iw:Nat:=244
def Ix:Nat:=245
def lM:Nat:=246
def Iy:Nat:=247
def Iz:Nat:=248
def IA:Nat:=249
def QP:Nat:=250
def QQ:Nat:=257
def IB:Nat:=258
def IC:Nat:=259
def ID:Nat:=261
def IE:Nat:=262
def IF:Nat:=263
def QR:Nat:=264
def IG:Nat:=265
def QS:Nat:=266
def QT:Nat:=267
def QU:Nat:=268
def QV:Nat:=269
def QW:Nat:=270
def cmp_Less_int:Nat:=271
def QX:Nat:=272
def QY:Nat:=273
def QZ:Nat:=283
def Q0:Nat:=284
abbrev IH:Nat:=0
abbrev al:Nat:=2
abbrev ah:Nat:=3
abbrev eB:Nat:=4
abbrev cI:Nat:=5
abbrev c3:Nat:=9
abbrev cP:Nat:=22
abbrev nl:Nat:=23
abbrev dO:Nat:=25
abbrev am:Nat:=26
abbrev cK:Nat:=27
abbrev hn:Nat:=28
abbrev cN:Nat:=29
abbrev dP:Nat:=30
abbrev jz:Nat:=31
abbrev aE:Nat:=33
abbrev bF:Nat:=37
abbrev jA:Nat:=42
abbrev ao:Nat:=52
abbrev aV:Nat:=64
abbrev db:Nat:=66
abbrev u1:Nat:=73
abbrev u2:Nat:=76
abbrev mn:Nat:=79
abbrev cj:Nat:=84
abbrev dF:Nat:=86
abbrev ft:Nat:=94
abbrev ca:Nat:=96
abbrev II:Nat:=103
abbrev pO:Nat:=105
abbrev oz:Nat:=116
abbrev pP:Nat:=118
abbrev fh:Nat:=119
abbrev rU:Nat:=120
abbrev cu:Nat:=122
abbrev bw:Nat:=124
abbrev dQ:Nat:=126
abbrev fZ:Nat:=134
abbrev fM:Nat:=135
abbrev rV:Nat:=141
abbrev eX:Nat:=144
abbrev ho:Nat:=145
abbrev cg:Nat:=147
abbrev jf:Nat:=153
abbrev iC:Nat:=154
abbrev b4:Nat:=156
abbrev dK:Nat:=162
abbrev cC:Nat:=164
abbrev eR:Nat:=165
abbrev cD:Nat:=167
abbrev fi:Nat:=169
abbrev dA:Nat:=173
abbrev bA:Nat:=175
abbrev dG:Nat:=177
abbrev cp:Nat:=179
abbrev ed:Nat:=183
abbrev a1:Nat:=185
abbrev kO:Nat:=190
abbrev fu:Nat:=192
abbrev eS:Nat:=193
abbrev hp:Nat:=197
abbrev eK:Nat:=222
abbrev h4:Nat:=223
abbrev nn:Nat:=224
abbrev rW:Nat:=225
abbrev fv:Nat:=227
abbrev hN:Nat:=233
abbrev jB:Nat:=239
abbrev ee:Nat:=244
abbrev cb:Nat:=248
abbrev gb:Nat:=250
abbrev cW:Nat:=255
abbrev iD:Nat:=269
abbrev fw:Nat:=271
abbrev oA:Nat:=272
abbrev gd:Nat:=275
abbrev cX:Nat:=278
abbrev gf:Nat:=280
abbrev kP:Nat:=282
abbrev zm:Nat:=288
abbrev oB:Nat:=289
abbrev gT:Nat:=290
abbrev fN:Nat:=293
abbrev cE:Nat:=295
abbrev kQ:Nat:=317
abbrev jg:Nat:=319
abbrev rX:Nat:=325
abbrev Q1:Nat:=333
abbrev oC:Nat:=340
abbrev lN:Nat:=341
abbrev mo:Nat:=363
abbrev rY:Nat:=382
theorem aw {f:R3} {fn:Func} {c:Code} {Q:x1->x3->Prop} {Z:{B S aS:Type}->mm B S aS->(x1->x3->B)->B} {a:Prop} (j:x7.funcs[f]? =σ fn) (h:a)
  (p:fn.body=σ c:=by rfl) (_:∀ {B S aS:Type} (A:mm B S aS) (Q:x1->x3->B),uQ A false false (n:=w.heap.size) fn c args w Q=Z A Q:=by intros;conv=>lhs;reduce)
  (_:Z (ow x7) Q=a:=by dsimp only[ow]) (e:a=eA x7 fn.ntmps (false,w.heap.size) c (mj fn.results.toList) (kJ 0 args) w (lG x7 fn.results.toList false 0 Q):=by kernel_rfl)
  (hk:(!(fn.name == "runtime.NumGoroutine")&&wf fn.ntmps c&&Nat.ble args.length fn.ntmps&& !ka c)=true:=by kernel_rfl):ai x7 f args w Q:=by
 simp only[U4,Bool.not_eq_true'] at hk;exact ai.FS mixed j p hk.1.1.1 hk.1.1.2 hk.1.2 hk.2 (e▸h)
theorem jh {f:R3} {fn:Func} {c:Code} {Q:x1->x3->Prop} {Z:{B S aS:Type}->mm B S aS->(x1->x3->B)->B} {a:Prop} (j:x7.funcs[f]? =σ fn) (h:a)
  (p:fn.body=σ c:=by rfl) (_:∀ {B S aS:Type} (A:mm B S aS) (Q:x1->x3->B),uQ A false true (n:=w.heap.size) fn c args w Q=Z A Q:=by intros;conv=>lhs;reduce)
  (_:Z (ow x7) Q=a:=by dsimp only[ow]) (e:a=eA x7 fn.ntmps (false,w.heap.size) c (mj fn.results.toList) (kJ 0 args) w (lG x7 fn.results.toList true w.heap.size Q):=by kernel_rfl)
  (hk:(!(fn.name == "runtime.NumGoroutine")&&wf fn.ntmps c&&Nat.ble args.length fn.ntmps)=true:=by kernel_rfl):ai x7 f args w Q:=by
 simp only[U4,Bool.not_eq_true'] at hk;exact ai.enter mixed j p hk.1.1 hk.1.2 hk.2 (e▸h)
theorem pQ {f:R3} {fn:Func} {c:Code} {Q:x1->x3->Prop} {Z:{B S aS:Type}->mm B S aS->(x1->x3->B)->B} {a:Prop} (j:x7.funcs[f]? =σ fn) (h:a)
  (p:fn.body=σ c:=by rfl) (_:∀ {B S aS:Type} (A:mm B S aS) (Q:x1->x3->B),uQ A true false (n:=0) fn c args w Q=Z A Q:=by intros;conv=>lhs;reduce)
  (_:Z (ow x7) Q=a:=by dsimp only[ow]) (e:a=eA x7 fn.ntmps (true,0) c (mj fn.results.toList) (kJ 0 args) w (lG x7 fn.results.toList false 0 Q):=by kernel_rfl)
  (hk:(!(fn.name == "runtime.NumGoroutine")&&wf fn.ntmps c&&Nat.ble args.length fn.ntmps)=true:=by kernel_rfl):gG x7 f args w Q:=by
 simp only[U4,Bool.not_eq_true'] at hk;exact gG.enter mixed j p hk.1.1 hk.1.2 hk.2 (e▸h)
theorem ke.enters:Enters x7 ke:=Enters.of x7 (show x7.funcs[ke]? =σ Tryz.f117 from Tryz.func117) rfl Ψ
theorem kN.enters:Enters x7 kN:=Enters.of x7 (show x7.funcs[kN]? =σ Tryz.f134 from Tryz.func134) rfl Ψ
theorem lK.enters:Enters x7 lK:=Enters.of x7 (show x7.funcs[lK]? =σ Tryz.f178 from Tryz.func178) rfl Ψ
theorem oy.enters:Enters x7 oy:=Enters.of x7 (show x7.funcs[oy]? =σ Tryz.f226 from Tryz.func226) rfl Ψ
theorem lM.enters:Enters x7 lM:=Enters.of x7 (show x7.funcs[lM]? =σ Tryz.f246 from Tryz.func246) rfl Ψ
end Go.Proofs.YtjjhhcfgfdepdaaGreatDoor
namespace Go.Vc
open Go Go.RowKit
theorem u3 {b o:Nat} (h:w.cell? ⟨b,o,ν⟩=σ v):∃c e f,w.heap[b]? =σ (.cells c e f)/\c[o]? =σ v:=by
 simp only[x3.cell?] at h;split at h
 .rename_i c e f a;exact⟨c,e,f,a,by simpa using h⟩
 .cases h
theorem zn (a:ae S w w') {b o:Nat} (j:¬S b) (h:w.cell? ⟨b,o,ν⟩=σ v):w'.cell? ⟨b,o,ν⟩=σ v:=by
 obtain⟨c,e,f,p,q⟩:=u3 h;simp[x3.cell?,a.aW b _ p rfl j,q]
theorem iE (a:Ext w w') {b o:Nat} (h:w.cell? ⟨b,o,ν⟩=σ v):w'.cell? ⟨b,o,ν⟩=σ v:=
 zn (a.V λ_=>False) (λh=>h) h
theorem np (a:Ext w w') {b o:Nat} (h:w.rangeAt b o cs):w'.rangeAt b o cs:=λj v e=>iE a (h j v e)
theorem jC (a:ae S w w') {b o:Nat} (e:¬S b) (h:w.rangeAt b o cs):w'.rangeAt b o cs:=λj v f=>zn a e (h j v f)
def ab (w:x3) (g:Nat) (e:r9) (cs:List x1):Prop:=w.heap[g]? =σ (.cells cs.toArray e (0,0))
theorem ab.ext {g:Nat} (h:ab w g e cs) (a:Ext w w'):ab w' g e cs:=a.aW g _ h rfl
theorem ab.V {g:Nat} (h:ab w g e cs) (a:ae S w w') (f:¬S g):ab w' g e cs:=a.aW g _ h rfl f
theorem ab.lt {g:Nat} (h:ab w g e cs):g<w.heap.size:=(j0.1 h).1
theorem ab.cell {g:Nat} (h:ab w g e cs) {o:Nat} (a:cs[o]? =σ v):w.cell? ⟨g,o,ν⟩=σ v:=by
 unfold ab at h;simp[x3.cell?,h,a]
theorem ab.Qz{w:World}{g:Nat}{e:TypeId}{cs:List Value}{v:Value}(h:ab w g e cs)(I:cs[0]? =σ v):w.cell? ⟨g,0,ν⟩=σ v:=h.cell I
theorem ab.range {g:Nat} (h:ab w g e cs):w.rangeAt g 0 cs:=λj v a=>by rw[X5];exact h.cell a
theorem ab.frozen {g:Nat} (h:ab w g e cs) (o:Nat) (a:Option Nat):w.frozen? ⟨g,o,a⟩=false:=by
 unfold ab at h;simp[x3.frozen?,h]
def bX (w:x3) (k:Nat) (v:x1) (n:Nat) (cs:List x1):Prop:=
 cs.length=n*k/\ ∃b o base cap,v= .slice base n cap/\n<=cap/\cap<=maxLen/\(0<n->base=σ ⟨b,o,ν⟩)/\w.rangeAt b o cs
theorem bX.ext {k:Nat} (h:bX w k v n cs) (a:Ext w w'):bX w' k v n cs:=by
 obtain⟨h1,b,o,base,cap,e,f,j,p,q⟩:=h;exact⟨h1,b,o,base,cap,e,f,j,p,np a q⟩
theorem bX.le {k:Nat} (h:bX w k v n cs):n<=maxLen:=by
 obtain⟨_,_,_,_,_,_,a,e,_⟩:=h;exact Y5 a e
theorem bX.nil (w:x3) (k:Nat):bX w k (.slice ν 0 0) 0 []:=⟨Ξ,0,0,ν,0,rfl,o4 _,X3 _,λh=>absurd h (Nat.lt_irrefl _),λj v h=>by simp at h⟩
def aN (P:W3) (t:r9) (k b:Nat) (z:x1):Prop:=∃i,P.info? t=σ i/\i.size=k/\i.bytes=b/\i.zero=σ z
theorem aN.of {P:W3} {k b:Nat} (h:(P.info? t).map (λi=>(i.size,i.bytes,i.zero))=σ (k,b,σ z)):aN P t k b z:=by
 cases hi:P.info? t with
 |none=>simp[hi] at h
 |some i=>simp[hi] at h;exact⟨i,hi,h⟩
theorem aN.size {P:W3} {k b:Nat} (h:aN P t k b z):(P.info? t).map (·.size)=σ k:=by
 obtain⟨i,hi,I,_⟩:=h;simp[hi,I]
def bJ (P:W3) (t:r9) (pl:List (Nat×Nat)):Prop:=∃a,P.underlying t=σ (.struct a)/\a.toList.map (λf=>(f.offset,((P.info? f.type).map (·.size)).getD 0))=pl
def zo (P:W3) (t:r9):Option (List (Nat×Nat)):=match P.underlying t with
 |some (.struct a)=>σ (a.toList.map λf=>(f.offset,((P.info? f.type).map (·.size)).getD 0))
 |_=>ν
theorem bJ.of {P:W3} {pl:List (Nat×Nat)} (h:zo P t=σ pl):bJ P t pl:=by
 unfold zo at h;split at h
 .rename_i a hu;exact⟨a,hu,by simpa using h⟩
 .cases h
section
variable {P:W3} {w:x3}
theorem aa.of {s:Sem x1} (h:∀w',Ext w w'->s.run P w'= .ok v w'):aa P s w K=K v:=by
 refine propext ⟨λ⟨a,h',k⟩=>?_,λk=>⟨v,h,k⟩⟩;have:=h' w (Ext.refl w);rw[h w (Ext.refl w)] at this;cases this;exact k
theorem ax.of {α:Type} {s:Sem α} {v:α} {K:α->x3->Prop} (h:s.run P w= .ok v w') (a:cM w w') (k:K v w'):ax P s w K:=⟨v,w',h,a,k⟩
theorem bY {c:Bool} {A B:Prop}:Split (.bool c) A B=((c=true->A)/\(c=false->B)):=by
 refine propext ⟨λ⟨e,h,h1,a⟩=>?_,λ⟨h1,a⟩=>⟨c,rfl,h1,a⟩⟩;cases h;exact⟨h1,a⟩
theorem aj {p:Prop} [Decidable p] {A B:Prop}:Split (.bool (decide p)) A B=((p->A)/\(¬p->B)):=by rw[bY];simp
theorem bS {A B:Prop}:Split (.bool true) A B=A:=by rw[bY];simp
theorem aY {A B:Prop}:Split (.bool false) A B=B:=by rw[bY];simp
theorem aP {b:Int}:aa P (aJ .add t cx cy (.int k a) (.int k b)) w K=K (.int k (k.wrap (a+b))):=
 aa.of λw' _=>by simp[aJ,eqGuard,binOp,Op.intArith]
theorem dZ {b:Int}:aa P (aJ .sub t cx cy (.int k a) (.int k b)) w K=K (.int k (k.wrap (a-b))):=
 aa.of λw' _=>by simp[aJ,eqGuard,binOp,Op.intArith]
theorem hP {b:Int}:aa P (aJ .mul t cx cy (.int k a) (.int k b)) w K=K (.int k (k.wrap (a*b))):=
 aa.of λw' _=>by simp[aJ,eqGuard,binOp,Op.intArith]
theorem rZ {b:Int} (e:b≠0):aa P (aJ .quo t cx cy (.int k a) (.int k b)) w K=K (.int k (k.wrap (a.tdiv b))):=
 aa.of λw' _=>by simp[aJ,eqGuard,binOp,Op.intDiv,e]
theorem pR {b:Int} (e:b≠0):aa P (aJ .rem t cx cy (.int k a) (.int k b)) w K=K (.int k (a.tmod b)):=
 aa.of λw' _=>by simp[aJ,eqGuard,binOp,Op.intDiv,e]
theorem aR {b:Int}:aa P (aJ .lss t cx cy (.int k a) (.int k b)) w K=K (.bool (decide (a<b))):=
 aa.of λw' _=>by simp[aJ,eqGuard,binOp,Op.intCmp]
theorem Υ{k:IntKind}{P:Program}{t:TypeId}{cx cy:Bool}{a b:Int}{w:World}{A B:Prop}(hA:a<b->A)(h:a<b:=by omega):aa P (aJ .lss t cx cy (.int k a) (.int k b)) w λv=>Split v A B:=by
 rw[aR,aj];exact ⟨hA,λe=>absurd h e⟩
theorem mp {b:Int}:aa P (aJ .leq t cx cy (.int k a) (.int k b)) w K=K (.bool (decide (a<=b))):=
 aa.of λw' _=>by simp[aJ,eqGuard,binOp,Op.intCmp]
theorem bT {b:Int}:aa P (aJ .gtr t cx cy (.int k a) (.int k b)) w K=K (.bool (decide (b<a))):=
 aa.of λw' _=>by simp[aJ,eqGuard,binOp,Op.intCmp]
theorem cY {b:Int}:aa P (aJ .geq t cx cy (.int k a) (.int k b)) w K=K (.bool (decide (b<=a))):=
 aa.of λw' _=>by simp[aJ,eqGuard,binOp,Op.intCmp]
theorem bh {b:Int}:aa P (aJ .eql t cx cy (.int k a) (.int k b)) w K=K (.bool (decide (a=b))):=
 aa.of λw' _=>by
  have:(a == b)=decide (a=b):=by by_cases h:a=b<;>simp[h]
  simp[aJ,eqGuard,binOp,Op.intCmp,this]
theorem bL {b:Int}:aa P (aJ .neq t cx cy (.int k a) (.int k b)) w K=K (.bool (decide (a≠b))):=
 aa.of λw' _=>by
  have:(a != b)=decide (a≠b):=by by_cases h:a=b<;>simp[h,bne]
  simp[aJ,eqGuard,binOp,Op.intCmp,this]
theorem zp {e:o6} {b:Int} (f:0<=b):aa P (aJ .shl t cx cy (.int k a) (.int e b)) w K=K (.int k (k.wrap (a*2 ^ min b.toNat k.bits))):=
 aa.of λw' _=>by simp[aJ,eqGuard,binOp,Op.shift,show ¬b<0 by omega]
theorem bG {c:Bool}:aa P (Op.unary .not (.bool c)) w K=K (.bool !c):=aa.of λw' _=>by simp[Op.unary]
theorem lO:aa P (Op.unary .neg (.int k a)) w K=K (.int k (k.wrap (0-a))):=aa.of λw' _=>by simp[Op.unary,Op.intArith]
theorem fj {s d:r9} {e:o6} (I:P.underlying s=σ (.int e)) (f:P.underlying d=σ (.int k)):
  aa P (convert s d (.int e a)) w K=K (.int k (k.wrap a)):=aa.of λw' _=>by simp[convert,run_underlying I,run_underlying f,Conv.intToInt]
theorem zq {x y:x1} {r:Bool} (a:∀w',(eqGuard .eql t (aZ cx) (aZ cy) x y).run P w'= .ok () w')
  (e:binOp .eql t x y=(do pure (.bool (<-Op.equal t x y)))) (h:∀w',Ext w w'->(Op.equal t x y).run P w'= .ok r w'):aa P (aJ .eql t cx cy x y) w K=K (.bool r):=aa.of λw' f=>by
 unfold aJ;rw[e,X8,a w',Result.andThen_ok,X8,h w' f];rfl
theorem zr {x y:x1} {r:Bool} (a:∀w',(eqGuard .neq t (aZ cx) (aZ cy) x y).run P w'= .ok () w')
  (e:binOp .neq t x y=(do pure (.bool (!(<-Op.equal t x y))))) (h:∀w',Ext w w'->(Op.equal t x y).run P w'= .ok r w'):aa P (aJ .neq t cx cy x y) w K=K (.bool !r):=aa.of λw' f=>by
 unfold aJ;rw[e,X8,a w',Result.andThen_ok,X8,h w' f];rfl
theorem zs (w:x3) (d:Nat) {p:Option Addr} (h:P.underlying t=σ (.pointer e)):(Op.equalIn (d+1) t (.pointer p) (.pointer ν)).run P w= .ok p.isNone w:=by
 cases p<;>simp[Op.equalIn,run_underlying h]
theorem pS {base:Option Addr} {c:Nat} (a:P.underlying t=σ (.slice e)):
  aa P (aJ .eql t cx cy (.slice base n c) (.slice ν 0 0)) w K=K (.bool base.isNone):=zq (λ_=>rfl) rfl λw' _=>run_equal_slice_nil w' t e base n c a
theorem dn {p:Option Addr} (a:P.underlying t=σ (.pointer e)):
  aa P (aJ .eql t cx cy (.pointer p) (.pointer ν)) w K=K (.bool p.isNone):=zq (λ_=>rfl) rfl λw' _=>zs w' 9999 a
theorem zt {p:Option Addr} (a:P.underlying t=σ (.pointer e)):
  aa P (aJ .neq t cx cy (.pointer p) (.pointer ν)) w K=K (.bool !p.isNone):=zr (λ_=>rfl) rfl λw' _=>zs w' 9999 a
theorem h5 {a:r9} {base:Option Addr} {c:Nat} (f:P.underlying t=σ (.slice e)):
  aa P (W7 #[t] a #[.slice base n c]) w K=K (Δ n):=aa.of λw' _=>by simp[W7,run_underlying f,goInt]
theorem kR {e:Array r9} {f:r9} {b:Int}:
  aa P (Z1.min_ e f #[.int k a,.int k b]) w K=K (.int k (min a b)):=aa.of λw' _=>by
 simp only[Z1.min_,List.foldlM,Z1.min2];simp only[X8,W9,Result.andThen_ok,Int.min_def];congr 2;split<;>split<;>omega
theorem va {e:Array r9} {f:r9} {b:Int}:
  aa P (Z1.max_ e f #[.int k a,.int k b]) w K=K (.int k (max a b)):=aa.of λw' _=>by
 simp only[Z1.max_,List.foldlM,Z1.max2];simp only[X8,W9,Result.andThen_ok,Int.max_def];congr 2;split<;>split<;>omega
theorem iF {vs:Array x1} {i:Nat} (h:vs[i]? =σ v):aa P (Z7 (.tuple vs) i) w K=K v:=aa.of λw' _=>by simp[Z7,h]
theorem mq {f:Fn} {a b:Array x1}:aa P (Instr.makeFunc f a b) w K=K (.func f a b):=aa.of λ_ _=>rfl
def jD (P:W3) (t:r9):Bool:=match P.underlying t with
 |some (.struct _)|some (.array _ _)|none=>false
 |_=>true
theorem aB {b o:Nat} (a:jD P t=true) (h:w.cell? ⟨b,o,ν⟩=σ v):
  aa P (u5 t (.pointer (σ ⟨b,o,ν⟩))) w K=K v:=aa.of λw' e=>by
 have h':=iE e h;unfold jD at a;cases hu:P.underlying t with
 |none=>rw[hu] at a;cases a
 |some d=>
  rw[hu] at a;cases d<;>first|(cases a;done)|simp[u5,Instr.sureAddr,loadVar,isAgg,run_underlying hu,h']
theorem zu {d:TypeDesc} {b o k a:Nat} (hu:P.underlying t=σ d) (e:d.isRow=true) (hi:aN P t k a z) (f:cs.length=k)
  (h:w.rangeAt b o cs):aa P (u5 t (.pointer (σ ⟨b,o,ν⟩))) w K=K (.agg cs.toArray):=aa.of λw' j=>
 run_loadAt_mid (P:=P) w' b o t cs d (np j h) hu e (by rw[hi.size,f])
theorem bD {pl:List (Nat×Nat)} {b o k a:Nat} (hu:bJ P t pl) (hi:aN P t k a z) (e:cs.length=k)
  (h:w.rangeAt b o cs):aa P (u5 t (.pointer (σ ⟨b,o,ν⟩))) w K=K (.agg cs.toArray):=by
 obtain⟨f,hu,_⟩:=hu;exact zu hu rfl hi e h
theorem aQ {pl:List (Nat×Nat)} {i b o off z:Nat} (q:bJ P t pl) (a:pl[i]? =σ (off,z+1)):
  aa P (u6 t (.pointer (σ ⟨b,o,ν⟩)) i) w K=K (.pointer (σ ⟨b,o+off,ν⟩)):=aa.of λw' _=>by
 obtain⟨r,hu,rfl⟩:=q;rw[x8] at a;cases e:r[i]? with
 |none=>rw[S5,e] at a;cases a
 |some f=>
  rw[S5,e] at a;simp only[Z4,X0,T9] at a;obtain⟨rfl,p⟩:=a;cases h:P.info? f.type with
  |none=>simp[h] at p
  |some j=>
   have I:j.size=z+1:=by simpa[h] using p
   simp[u6,run_underlying hu,e,Instr.sureAddr,fieldPlace,sizeOf,typeInfo,h,I,T5]
theorem zv {i:Int} {b o c z f:Nat} {h:x1} {base:Option Addr} (hu:P.underlying t=σ (.slice e)) (p:aN P e z f h)
  (q:0<=i) (hi:i<n) (a:0<n->base=σ ⟨b,o,ν⟩):
  aa P (c7 t (.slice base n c) (.int k i)) w K=K (.pointer (σ ⟨b,o+i.toNat*z,ν⟩)):=aa.of λw' _=>by
 have a:=a Ω;subst a;obtain⟨j,r,I,_⟩:=p;simp[c7,asIntOf,run_underlying hu,q,hi,sizeOf,typeInfo,r,I,T5]
theorem fx {i:Nat} {b o c z a:Nat} {base:Option Addr} (hu:P.underlying t=σ (.slice e)) (h:aN P e z a f)
  (hi:i<n) (j:0<n->base=σ ⟨b,o,ν⟩):
  aa P (c7 t (.slice base n c) (.int k (i:Int))) w K=K (.pointer (σ ⟨b,o+i*z,ν⟩)):=by
 rw[zv (i:=(i:Int)) hu h Ω Ω j];rfl
theorem IJ {i:Int} {b o z a:Nat} (hu:P.underlying t=σ (.array n e)) (h:aN P e z a f)
  (p:0<=i) (hi:i<n):
  aa P (c7 t (.pointer (σ ⟨b,o,ν⟩)) (.int k i)) w K=K (.pointer (σ ⟨b,o+i.toNat*z,ν⟩)):=aa.of λw' _=>by
 obtain⟨j,q,I,_⟩:=h;simp[c7,asIntOf,run_underlying hu,Instr.sureAddr,p,hi,sizeOf,typeInfo,q,I,T5]
theorem vb {i:Nat} {b o z a:Nat} (hu:P.underlying t=σ (.array n e)) (h:aN P e z a f) (hi:i<n):
  aa P (c7 t (.pointer (σ ⟨b,o,ν⟩)) (.int k (i:Int))) w K=K (.pointer (σ ⟨b,o+i*z,ν⟩)):=by
 rw[IJ (i:=(i:Int)) hu h Ω Ω];rfl
def lP:Option x1->Nat->Prop
 |none,l=>l=0
 |some v,l=>∃k,v= .int k l
def lQ:Option x1->Nat->Nat->Prop
 |none,n,h=>h=n
 |some v,_,h=>∃k,v= .int k h
def maxOf:Option x1->Option x1->Nat->Nat->Prop
 |none,_,c,m=>m=c
 |some v,σ _,_,m=>∃k,v= .int k m
 |some _,ν,_,_=>False
theorem r0 {l:Nat}:lP (σ (.int k (l:Int))) l:=⟨_,rfl⟩
theorem nq (l:Nat) (x:Int) (h:x=(l:Int)):lP (σ (.int k x)) l:=⟨k,by rw[h]⟩
theorem nr (l:Nat) (x:Int) (h:x=(l:Int)):lQ (σ (.int k x)) n l:=⟨k,by rw[h]⟩
theorem kf:lP ν 0:=rfl
theorem r1:lQ (σ (.int k (h:Int))) n h:=⟨_,rfl⟩
theorem kg:lQ ν n n:=rfl
theorem gg {h:Option x1} {c:Nat}:maxOf ν h c c:=by cases h<;>rfl
theorem r2 (w:x3) {sl:Bool} {c l:Nat} {low high mx:Option x1} (h1:lP low l) (e:lQ high n h) (a:maxOf mx high c m) (f:l<=h) (az:h<=m) (hm:m<=c):
  (Instr.sliceBounds sl n c low high mx).run P w= .ok (l,h,m) w:=by
 cases low<;>cases high<;>cases mx<;>simp only[lP,lQ,maxOf] at h1 e a<;>(try exact a.elim)<;>(try obtain⟨j,rfl⟩:=h1)<;>(try obtain⟨p,rfl⟩:=e)<;>(try obtain⟨q,rfl⟩:=a)<;>(try subst h1)<;>(try subst e)<;>(try subst a) <;>
  simp[Instr.sliceBounds,Instr.sliceBound,asIntOf,f,az,hm]
theorem iG {c z a l:Nat} {base:Option Addr} {low high mx:Option x1} (hu:P.underlying t=σ (.slice e)) (p:aN P e z a f)
  (h1:lP low l) (q:lQ high n h) (r:maxOf mx high c m) (s:l<=h) (az:h<=m) (hm:m<=c):
  aa P (V5 t (.slice base n c) low high mx) w K=K (.slice (if m=l then base else base.map (·.add (l*z))) (h-l) (m-l)):=aa.of λw' _=>by
 obtain⟨j,x,I,_⟩:=p;simp[V5,Instr.slice,run_underlying hu,r2 w' h1 q r s az hm,sizeOf,typeInfo,x,I]
theorem r3 {z a l b o:Nat} {low high mx:Option x1} (hu:P.underlying t=σ (.array n e)) (p:aN P e z a f)
  (h1:lP low l) (q:lQ high n h) (r:maxOf mx high n m) (s:l<=h) (az:h<=m) (hm:m<=n):
  aa P (V5 t (.pointer (σ ⟨b,o,ν⟩)) low high mx) w K=K (.slice (σ (if m=l then⟨b,o,ν⟩ else⟨b,o+l*z,ν⟩)) (h-l) (m-l)):=aa.of λw' _=>by
 obtain⟨j,x,I,_⟩:=p;simp[V5,Instr.sureAddr,run_underlying hu,r2 w' h1 q r s az hm,sizeOf,typeInfo,x,I,T5]
theorem dp {parts:Array (Nat×x1)} {cs:Array x1} (h:P.built t parts.toList=σ cs):aa P (Instr.build t parts) w K=K (.agg cs):=aa.of λw' _=>
 run_build (P:=P) w' t parts cs h
end
theorem bX.part {k c l:Nat} {base:Option Addr} (I:bX w k (.slice base n c) n cs) (q:l<=h) (az:h<=n) (hm:h<=m) (r:m<=c):
  bX w k (.slice (if m=l then base else base.map (·.add (l*k))) (h-l) (m-l)) (h-l) ((cs.drop (l*k)).take ((h-l)*k)):=by
 obtain⟨h1,b,o,s,cap,he,x,y,e,f⟩:=I;cases he;have z:h*k<=n*k:=Y9 _ az;have A:l*k+(h-l)*k=h*k:=by rw[<-V9];congr 1;omega
 refine⟨by simp[h1];omega,b,o+l*k,_,m-l,rfl,Ω,Ω,λB=>?_,λj v a=>?_⟩
 .rw[e Ω,if_neg Ω];simp[T5]
 .have p:=(x4.1 a).1;simp at p;rw[Y8 Ω,List.getElem?_drop] at a;rw[S9];exact f _ _ a
section
variable {P:W3} {w:x3}
structure ji (g:Nat) (w w':x3):Prop where
 os:w'.os=w.os
 tape:jv w w'
 output:w'.output=w.output
 size:w'.heap.size=w.heap.size
 aW:∀r,r≠g->w'.heap[r]? =w.heap[r]?
theorem ji.refl (g:Nat) (w:x3):ji g w w:=⟨rfl,.j3,rfl,rfl,λ_ _=>rfl⟩
theorem ji.trans {g:Nat} {a b:x3} (h:ji g a b) (k:ji g b c):ji g a c:=
 ⟨k.os.trans h.os,k.tape.trans h.tape,k.output.trans h.output,k.size.trans h.size,λr e=>(k.aW r e).trans (h.aW r e)⟩
theorem ji.V {g:Nat} {w:x3} (h:ji g w w'):ae (λr=>r=g) w w':=⟨Nat.le_of_eq h.size.symm,λr o a _ e=>by rw[h.aW r e];exact a⟩
theorem ji.ct {g:Nat} {w:x3} (h:ji g w w') (f:ab w g e cs):cM w w':=
 ⟨h.os,h.tape,h.output,Nat.le_of_eq h.size.symm,λr o a I=>by
  by_cases j:r=g
  .subst j;unfold ab at f;rw[f] at a;cases a;simp[fp] at I
  .rw[h.aW r j];exact a⟩
theorem zw {g:Nat} (h:ab w g e cs) (o:Nat) (v:x1):ab (w.setCell ⟨g,o,ν⟩ v) g e (cs.set o v)/\ji g w (w.setCell ⟨g,o,ν⟩ v):=by
 unfold ab at h;refine⟨?_,rfl,.j3,rfl,by simp[x3.setCell],λr a=>?_⟩
 .simp[ab,x3.setCell,Array.getElem?_modify,h]
 .simp[x3.setCell,Array.getElem?_modify,S3 a]
def over (cs:List x1):Nat->List x1->List x1
 |_,[]=>cs
 |o,v::r=>over (cs.set o v) (o+1) r
theorem mr:∀ (vs cs:List x1) (o:Nat),(over cs o vs).length=cs.length
 |[],_,_=>rfl
 |v::r,cs,o=>by simp[over,mr r]
theorem oD:∀ (vs cs:List x1) (o:Nat),o+vs.length<=cs.length-> ∀j,(over cs o vs)[j]? =if o<=j/\j<o+vs.length then vs[j-o]? else cs[j]?
 |[],cs,o,_,j=>by simp[over];intro h1 a;omega
 |v::r,cs,o,h,j=>by
  simp only[Z0] at h;rw[over,oD r (cs.set o v) (o+1) Θ j];simp only[Z0];by_cases h1:o+1<=j/\j<o+1+r.length
  .rw[if_pos h1,if_pos Ω];rw[show j-o=(j-(o+1))+1 by omega,List.getElem?_cons_succ]
  .rw[if_neg h1];by_cases a:j=o
   .subst a;rw[if_pos Ω,j4 Ω];simp
   .rw[if_neg Ω,Y0 (S3 a)]
theorem mu {o:Nat} (h:o+vs.length<=cs.length):over cs o vs=cs.take o++vs++cs.drop (o+vs.length):=by
 apply Y2;intro j;rw[oD vs cs o h];by_cases h1:j<o
 .rw[if_neg Ω,Z8 Θ,Z8 Θ,Y8 h1]
 .by_cases a:j<o+vs.length
  .rw[if_pos Ω,Z8 Θ,Z9 Θ];congr 1;simp;omega
  .rw[if_neg Ω,Z9 Θ,List.getElem?_drop];congr 1;simp;omega
theorem ns {g:Nat} {e:r9}:∀ (vs:List x1) (cs:List x1) (o:Nat) (w:x3),ab w g e cs->ab (w.setCells g o vs) g e (over cs o vs)/\ji g w (w.setCells g o vs)
 |[],cs,o,w,h=>⟨h,ji.refl _ _⟩
 |v::r,cs,o,w,h=>by
  obtain⟨h1,a⟩:=zw h o v;obtain⟨f,j⟩:=ns r (cs.set o v) (o+1) _ h1;exact⟨f,a.trans j⟩
theorem r4 (w:x3) (c:List x1) (e:r9):ab (w.alloc (.cells c.toArray e)) w.heap.size e c/\Ext w (w.alloc (.cells c.toArray e))/\cM w (w.alloc (.cells c.toArray e)):=
 ⟨heap_alloc_new w _,px w _,py w _⟩
theorem bB {k a:Nat} {K:x1->x3->Prop} (hi:aN P t k a z)
  (h:∀g w',g=w.heap.size->Ext w w'->ab w' g t z.cells.toList->K (Γ g) w'):ax P (T7 t true (.tuple #[])) w K:=by
 obtain⟨i,hi,_,_,e⟩:=hi;obtain⟨h1,f,j⟩:=r4 w z.cells.toList t;refine .of ?_ j (h _ _ rfl f h1);simp[T7,zeroValue,typeInfo,hi,e,newVar,newRow]
theorem bm {K:x1->x3->Prop}
  (h:∀g w',g=w.heap.size->Ext w w'->ab w' g t v.cells.toList->K (Γ g) w'):ax P (Instr.box t v) w K:=by
 obtain⟨h1,a,e⟩:=r4 w v.cells.toList t;refine .of ?_ e (h _ _ rfl a h1);simp[Instr.box,newVar,newRow]
def dR (z:Array x1) (n:Nat):List x1:=((Array.range n).map (z[·% z.size]!)).toList
theorem oE (z:Array x1) (n:Nat):(dR z n).length=n:=by simp[dR]
theorem jj {k q:Nat} {parts:Array (Nat×x1)} {cs:Array x1} {K:x1->x3->Prop} (p:P.underlying t=σ (.slice e)) (hi:aN P e k q z)
  (A:n*k<=2 ^ 24) (a:Instr.fill (λj=>σ (j*k,k)) ((Array.range (n*k)).map ((if n*k=0 then #[] else z.cells)[·% (if n*k=0 then #[] else z.cells).size]!)) parts.toList=σ cs)
  (h:∀g w',g=w.heap.size->Ext w w'->ab w' g e cs.toList->K (.slice (σ ⟨g,0,ν⟩) n n) w'):ax P (Y1 t n parts) w K:=by
 obtain⟨i,hi,rfl,_,r⟩:=hi;obtain⟨h1,s,x⟩:=r4 w cs.toList e;refine .of ?_ x (h _ _ rfl s h1);have y:¬(16777216<n*i.size):=Ω
 by_cases f:n*i.size=0
 .simp only[f,if_true] at a;simp[Y1,run_underlying p,sizeOf,typeInfo,hi,f,newRow];simp at a;simp[a]
 .simp only[f,if_false] at a;simp[Y1,run_underlying p,sizeOf,typeInfo,hi,y,f,newRow,zeroValue,r,a]
theorem bo {g o:Nat} {K:Unit->x3->Prop} (hi:aN P t 1 j z) (h1:v.cells= #[v]) (p:v.oneCell'=true) (a:ab w g e cs) (q:o<cs.length)
  (h:∀w',ae (λr=>r=g) w w'->w'.heap.size=w.heap.size->ab w' g e (cs.set o v)->K () w'):ax P (o8 t (.pointer (σ ⟨g,o,ν⟩)) v) w K:=by
 obtain⟨i,hi,I,_⟩:=hi;obtain⟨s,f⟩:=zw a o v;refine .of (w':=w.setCell ⟨g,o,ν⟩ v) ?_ (f.ct a) (h _ f.V f.size s);have x:=a.cell (x6 q);have y:(⟨g,o,ν⟩:Addr).add 0=⟨g,o,ν⟩:=rfl;simp[o8,Instr.sureAddr,storeVar,sizeOf,typeInfo,hi,I,h1,storeCells,y,run_store P w _ v _ p,x,a.frozen]
theorem zx {k p g o:Nat} {K:Unit->x3->Prop} (hi:aN P t k p z) (q:vs.length=k) (s:∀v∈vs,v.oneCell'=true) (a:ab w g e cs) (A:o+vs.length<=cs.length)
  (h:∀w',ae (λr=>r=g) w w'->w'.heap.size=w.heap.size->ab w' g e (over cs o vs)->K () w'):ax P (o8 t (.pointer (σ ⟨g,o,ν⟩)) (.agg vs.toArray)) w K:=by
 obtain⟨x,f⟩:=ns vs cs o w a;refine .of (w':=w.setCells g o vs) ?_ (f.ct a) (h _ f.V f.size x);exact run_storeAt_mid (P:=P) w g o t vs.toArray (λj y=>⟨by rw[a.cell (x6 (show o+j<cs.length by simp at y;omega))];rfl,a.frozen _ _⟩) (by rw[hi.size];simp[q]) (by simpa using s)
def bQ (w:x3) (g:Nat) (e:r9) (k:Nat) (v:x1) (n:Nat) (xs:List x1):Prop:=
 xs.length=n*k/\((v= .slice ν 0 0/\n=0)\/ ∃cap cs,v= .slice (σ ⟨g,0,ν⟩) n cap/\ab w g e cs/\n<=cap/\cap<=maxLen/\cs.length=cap*k/\cs.take (n*k)=xs)
theorem bQ.nil (w:x3) (g:Nat) (e:r9) (k:Nat):bQ w g e k (.slice ν 0 0) 0 []:=⟨Ξ,.inl ⟨rfl,rfl⟩⟩
theorem bQ.full {g:Nat} {k:Nat} (h:ab w g e cs) (a:cs.length=n*k) (f:n<=maxLen):bQ w g e k (.slice (σ ⟨g,0,ν⟩) n n) n cs:=
 ⟨a,.inr ⟨n,cs,rfl,h,o4 _,f,a,by rw[<-a,o5]⟩⟩
theorem bQ.V {g:Nat} {k:Nat} (h:bQ w g e k v n xs) (f:ae S w w') (j:g<w.heap.size->¬S g):bQ w' g e k v n xs:=
 ⟨h.1,h.2.imp id λ⟨cap,cs,h1,a,p⟩=>⟨cap,cs,h1,a.V f (j a.lt),p⟩⟩
theorem bQ.ext {g:Nat} {k:Nat} (h:bQ w g e k v n xs) (a:Ext w w'):bQ w' g e k v n xs:=h.V (a.V λ_=>False) (λ_ h=>h)
theorem bQ.sl {g:Nat} {k:Nat} (h:bQ w g e k v n xs):bX w k v n xs:=by
 obtain⟨h1,⟨rfl,rfl⟩|⟨cap,cs,rfl,f,p,q,s,r⟩⟩:=h
 .have:xs=[]:=b9 (by simpa using h1);subst this;exact bX.nil w k
 .refine⟨h1,g,0,_,cap,rfl,p,q,λ_=>rfl,λj v a=>?_⟩;rw[X5];have x:=(x4.1 a).1;rw[<-r,Y8 Ω] at a;exact f.cell a
theorem bX.src {k:Nat} {x:x1} {a:List x1} {f h:r9} (I:bX w k x m a) (hk:P.underlying f=σ (.slice h)) (h1:∀u∈a,u.oneCell'=true) (p:0<m):Src P k f x m a w:=by
 obtain⟨q,b,o,base,cap,rfl,_,_,e,r⟩:=I;have e:=e p;subst e;exact Src.ofSlice w hk ⟨b,o,ν⟩ m cap a q (λj u hu=>by rw[T5];exact r j u hu) h1
theorem bX.IK {k:Nat} {x:x1} {f:List x1} {h:r9} (I:bX w k x 0 f) (hk:P.underlying e=σ (.slice h)):Src P k e x 0 [] w:=by
 obtain⟨j,b,o,base,cap,rfl,_,_,p,q⟩:=I;cases base with
 |none=>exact Src.ofNil w hk cap
 |some a=>exact Src.ofSlice w hk a 0 cap [] Ξ Ξ Ξ
theorem zy {p s M X:r9} {k g:Nat} {x:x1} {a:List x1} {K:x1->x3->Prop}
  (B:P.underlying t=σ (.slice e)) (C:P.underlying p=σ (.slice X)) (hi:aN P e k N z) (Y:z.cells.size=k)
  (O:bQ w g M k v n xs) (I:bX w k x m a) (h1:∀u∈a,u.oneCell'=true) (Z:(n+m)*N<=140737488355328) (Q:n+m<=maxLen)
  (h:∀E F w' G,(F=g/\G=M/\(v=E\/g<w.heap.size/\v≠ .slice ν 0 0)\/F=w.heap.size/\G=e)->bQ w' F G k E (n+m) (xs++a)->ae (λr=>r=g/\v≠ .slice ν 0 0) w w'->K E w'):
  ax P (b8 #[t,p] s #[v,x]) w K:=by
 obtain⟨i,hi,rfl,rfl,aa⟩:=hi;have ab:=O.sl;obtain⟨f,H⟩:=O;have q:=I.1;have grow:∀ (base:Option Addr) (cap:Nat),v= .slice base n cap->cap<n+m->0<m->(Z1.firstCells i.size n (.slice base n cap)).run P w.drew= .ok xs.toArray w.drew->ax P (b8 #[t,p] s #[v,x]) w K:=by
  rintro base cap rfl R hm ac;have y:=run_append_grow_src (P:=P) w t p s e i z B hi aa base n cap xs ac x m a (I.src C h1 hm) R (by simp only[maxLen] at Q;omega) (growslice_fits R Z);have ad:n+m<=grownCap w (n+m) cap e:=grownCap_ge w _ _ _;have J:grownCap w (n+m) cap e<=maxLen:=grownCap_le_maxLen w (n+m) cap e Q;have af:Ext w (w.drew.alloc (.cells ((xs++a).toArray++Z1.zeroCells z.cells (grownCap w (n+m) cap e-(n+m))) e)):=(rh w _).trans (px _ _);refine .of y ((pw w _ (Nat.le_succ _)).trans (py _ _)) (h _ w.heap.size _ _ (.inr ⟨rfl,rfl⟩) ⟨by simp[f,q,V9],.inr ⟨_,((xs++a).toArray++Z1.zeroCells z.cells (grownCap w (n+m) cap e-(n+m))).toList,rfl,?_,ad,J,?_,?_⟩⟩ (af.V _))
  .show _=_;rw[Array.toArray_toList];exact heap_alloc_new w.drew _
  .simp[f,q,size_zeroCells,Y,<-V9];congr 1;omega
  .rw[Array.toList_append,List.toList_toArray,V9,<-f,<-q,<-p8];exact List.take_left
 rcases S4 m with rfl|hm
 .have ag:a=[]:=b9 (by simpa using q);subst ag;have ah:=I.IK C;have S:∀base cap,v= .slice base n cap->n<=cap->ax P (b8 #[t,p] s #[v,x]) w K:=by
   rintro base cap rfl J;refine .of (run_append_nothing (P:=P) w t p s e i B hi base n cap J x ah) (cM.refl _) (h _ g _ _ (.inl ⟨rfl,rfl,.inl rfl⟩) ?_ (ae.refl _ _));rw[Nat.add_zero,X9];exact⟨f,H⟩
  obtain⟨rfl,rfl⟩|⟨cap,cs,rfl,_,T,_⟩:=H
  .exact S _ _ rfl (o4 _)
  .exact S _ _ rfl T
 .obtain⟨rfl,rfl⟩|⟨cap,cs,rfl,A,T,ai,U,aj⟩:=H
  .have ak:xs=[]:=b9 (by simpa using f);subst ak;exact grow ν 0 rfl Ω hm (run_firstCells_none w.drew i.size 0 0 0)
  .by_cases L:n+m<=cap
   .have al:n*i.size+a.length<=cs.length:=by rw[q,U,<-V9];exact Y9 _ L
    have y:=run_append_room_src (P:=P) w t p s e i B hi g 0 n cap x m a (I.src C h1 hm) L
     (λj aq=>by rw[A.cell (x6 (show 0+n*i.size+j<cs.length by omega))];rfl) (λj _=>A.frozen _ _)
    obtain⟨am,W⟩:=ns a cs (n*i.size) w A;rw[X5] at y;refine .of y (W.ct A) (h _ g _ _ (.inl ⟨rfl,rfl,.inr ⟨A.lt,Ξ⟩⟩) ⟨by simp[f,q,V9],.inr ⟨cap,_,rfl,am,L,ai,by rw[mr,U],?_⟩⟩ (W.V.mono λr _ h=>⟨h,Ξ⟩));rw[mu al,aj,V9,<-f,<-q,<-p8];exact List.take_left
   .refine grow _ cap rfl Ω hm (run_firstCells_some w.drew i.size n _ n cap xs f λj u hu=>?_);rw[T5];obtain⟨_,b,o,base,au,he,_,_,an,y⟩:=ab;cases he;have ao:0<n:=by
     rcases S4 n with rfl|ap
     .simp at f;subst f;simp at hu
     .exact ap
    have:=an ao;cases this;simpa using y j u hu
theorem lR {p y A:r9} {k q g:Nat} {x:x1} {j:List x1} {K:x1->x3->Prop}
  (B:P.underlying t=σ (.slice e)) (C:P.underlying p=σ (.slice A)) (hi:aN P e k q z) (E:z.cells.size=k)
  (F:bQ w g e k v n xs) (I:bX w k x m j) (h1:∀u∈j,u.oneCell'=true) (G:(n+m)*q<=140737488355328) (H:n+m<=maxLen)
  (h:∀f a w',(a=g\/w.heap.size<=a)->bQ w' a e k f (n+m) (xs++j)->ae (λr=>r=g) w w'->K f w'):
  ax P (b8 #[t,p] y #[v,x]) w K:=
 zy B C hi E F I h1 G H λf a w' L s hm J=>by
  refine h f a w' (s.imp And.left λh=>Nat.le_of_eq h.1.symm) ?_ (J.mono λr _ h=>h.1);obtain⟨_,rfl,_⟩|⟨_,rfl⟩:=s<;>exact hm
theorem zz {f q s:r9} {J g o hq y:Nat} {x:x1} {base:Option Addr} {C:r9} {K:x1->x3->Prop} (E:P.underlying f=σ (.slice e)) (hi:aN P e 1 J z)
  (a:ab w g C cs) (L:0<hq->base=σ ⟨g,o,ν⟩) (W:o+hq<=cs.length) (I:bX w 1 x n xs) (h1:∀u∈xs,u.oneCell'=true)
  (h:∀w',ae (λr=>r=g) w w'->w'.heap.size=w.heap.size->ab w' g C (over cs o (xs.take hq))->K (Δ (min n hq:Nat)) w'):
  ax P (Z1.copy_ #[f,q] s #[.slice base hq y,x]) w K:=by
 obtain⟨A,b,o',M,cap,rfl,_,_,N,O⟩:=I;simp only[U9] at A;have F:(P.info? e).map (·.size)=σ 1:=hi.size;by_cases p:Nat.min n hq=0
 .have he:xs.take hq=[]:=b9 (by rw[j5,A];rw[Nat.min_comm];exact p);rw[he] at h;refine .of (run_copy_none (P:=P) w f q s e base M hq y n cap E F p) (cM.refl _) ?_;have G:min n hq=0:=p;rw[G] at h;exact h w (ae.refl _ _) rfl a
 .have G:min n hq≠0:=p;have Q:=N Ω;have R:=L Ω;subst Q;subst R;have H:(xs.take hq).length=min n hq:=by rw[j5,A,Nat.min_comm]
  obtain⟨S,B⟩:=ns (xs.take hq) cs o w a;have T:=run_copy_cells (P:=P) w f q s e g o hq y ⟨b,o',ν⟩ n cap (xs.take hq) E F H
   (λj u hu=>by
    rw[T5];have U:=(x4.1 hu).1;rw[Y8 Ω] at hu;exact O j u hu)
   (λj U=>by rw[a.cell (x6 (show o+j<cs.length by omega))];rfl) (λj _=>a.frozen _ _) (λu hu=>h1 u (T3 hu))
  refine .of T (B.ct a) ?_;rw[H];exact h _ B.V B.size S
theorem ai.mono {f:R3} {K e:x1->x3->Prop} (h:ai P f args w K) (j:∀v w',cM w w'->K v w'->e v w'):ai P f args w e:=by
 cases h with
 |code h1 a=>exact .code h1 (a.mono λ_ w' ⟨v,h1,p,a⟩=>⟨v,h1,p,j v w' p a⟩)
 |ext v w' h1 a q=>exact .ext v w' h1 a (j v w' a q)
theorem gG.mono {f:R3} {K e:x1->x3->Prop} (h:gG P f args w K) (j:∀v w',K v w'->e v w'):gG P f args w e:=by
 cases h with
 |code h1 a=>exact .code h1 (a.mono λ_ w' ⟨v,h1,a⟩=>⟨v,h1,j v w' a⟩)
 |ext v w' h1 p=>exact .ext v w' h1 (j v w' p)
end
end Go.Vc
namespace Go.Proofs.YtjjhhcfgfdepdaaGreatDoor
open Go Go.Vc Go.RowKit Go.Proofs Go.Proofs.Tryz
set_option maxRecDepth 100000
theorem al.u:x7.underlying al=σ (.int .i64):=Ψ
theorem al.i:aN x7 al 1 8 (Δ 0):=aN.of Ψ
theorem ah.u:x7.underlying ah=σ (.int .i64):=Ψ
theorem ah.i:aN x7 ah 1 8 (Δ 0):=aN.of Ψ
theorem eB.u:x7.underlying eB=σ .bool:=Ψ
theorem eB.i:aN x7 eB 1 1 (.bool false):=aN.of Ψ
theorem cI.u:x7.underlying cI=σ (.int .u8):=Ψ
theorem cI.i:aN x7 cI 1 1 (.int .u8 0):=aN.of Ψ
theorem c3.u:x7.underlying c3=σ .string:=Ψ
theorem c3.i:aN x7 c3 1 16 (.string ⟨#[]⟩):=aN.of Ψ
theorem cP.u:x7.underlying cP=σ (.slice cI):=Ψ
theorem nl.u:x7.underlying nl=σ (.slice bF):=Ψ
theorem dO.u:x7.underlying dO=σ (.pointer cu):=Ψ
theorem am.u:x7.underlying am=σ (.slice ah):=Ψ
theorem am.i:aN x7 am 1 24 (.slice ν 0 0):=aN.of Ψ
theorem cK.u:x7.underlying cK=σ (.slice am):=Ψ
theorem cK.i:aN x7 cK 1 24 (.slice ν 0 0):=aN.of Ψ
theorem hn.u:x7.underlying hn=σ (.slice eB):=Ψ
theorem hn.i:aN x7 hn 1 24 (.slice ν 0 0):=aN.of Ψ
theorem cN.u:x7.underlying cN=σ (.slice ao):=Ψ
theorem cN.i:aN x7 cN 1 24 (.slice ν 0 0):=aN.of Ψ
theorem dP.u:x7.underlying dP=σ (.slice db):=Ψ
theorem dP.i:aN x7 dP 1 24 (.slice ν 0 0):=aN.of Ψ
theorem jz.u:x7.underlying jz=σ (.slice fM):=Ψ
theorem jz.i:aN x7 jz 1 24 (.slice ν 0 0):=aN.of Ψ
theorem aE.p:bJ x7 aE [(0,1),(1,1),(2,1),(3,1),(4,1),(5,1),(6,1),(7,1)]:=bJ.of Ψ
theorem aE.i:aN x7 aE 8 160 (.agg #[(Δ 0),(.slice ν 0 0),(Δ 0),(.slice ν 0 0),(.slice ν 0 0),(.slice ν 0 0),(.slice ν 0 0),(.slice ν 0 0)]):=aN.of Ψ
theorem bF.p:bJ x7 bF [(0,1),(1,1),(2,1),(3,1),(4,1),(5,1)]:=bJ.of Ψ
theorem bF.i:aN x7 bF 6 48 (.agg #[(.int .u8 0),(Δ 0),(Δ 0),(Δ 0),(Δ 0),(.bool false)]):=aN.of Ψ
theorem jA.i:aN x7 jA 1 8 (Δ 0):=aN.of Ψ
theorem ao.u:x7.underlying ao=σ (.slice al):=Ψ
theorem ao.i:aN x7 ao 1 24 (.slice ν 0 0):=aN.of Ψ
theorem aV.p:bJ x7 aV [(0,1),(1,1),(2,1)]:=bJ.of Ψ
theorem aV.i:aN x7 aV 3 72 (.agg #[(.slice ν 0 0),(.slice ν 0 0),(.slice ν 0 0)]):=aN.of Ψ
theorem db.p:bJ x7 db [(0,3),(3,1)]:=bJ.of Ψ
theorem db.i:aN x7 db 4 80 (.agg #[(.slice ν 0 0),(.slice ν 0 0),(.slice ν 0 0),(.bool false)]):=aN.of Ψ
theorem u1.u:x7.underlying u1=σ (.pointer cC):=Ψ
theorem u2.u:x7.underlying u2=σ (.pointer dG):=Ψ
theorem mn.u:x7.underlying mn=σ (.pointer fu):=Ψ
theorem cj.u:x7.underlying cj=σ (.slice aV):=Ψ
theorem cj.i:aN x7 cj 1 24 (.slice ν 0 0):=aN.of Ψ
theorem dF.p:bJ x7 dF [(0,1),(1,1),(2,1),(3,1),(4,1)]:=bJ.of Ψ
theorem dF.i:aN x7 dF 5 88 (.agg #[(Δ 0),(.slice ν 0 0),(Δ 0),(.slice ν 0 0),(.slice ν 0 0)]):=aN.of Ψ
theorem ft.u:x7.underlying ft=σ (.int .u64):=Ψ
theorem ft.i:aN x7 ft 1 8 (.int .u64 0):=aN.of Ψ
theorem ca.p:bJ x7 ca [(0,1),(1,1)]:=bJ.of Ψ
theorem ca.i:aN x7 ca 2 16 (.agg #[(.int .u64 0),(Δ 0)]):=aN.of Ψ
theorem pO.p:bJ x7 pO [(0,1),(1,1)]:=bJ.of Ψ
theorem oz.i:aN x7 oz 1 8 .nilFunc:=aN.of Ψ
theorem pP.u:x7.underlying pP=σ (.pointer fv):=Ψ
theorem fh.u:x7.underlying fh=σ (.slice dQ):=Ψ
theorem fh.i:aN x7 fh 1 24 (.slice ν 0 0):=aN.of Ψ
theorem rU.u:x7.underlying rU=σ (.slice fZ):=Ψ
theorem cu.p:bJ x7 cu [(0,1),(1,1),(2,1),(3,1),(4,1)]:=bJ.of Ψ
theorem bw.p:bJ x7 bw [(0,1)]:=bJ.of Ψ
theorem bw.i:aN x7 bw 1 24 (.agg #[(.slice ν 0 0)]):=aN.of Ψ
theorem dQ.p:bJ x7 dQ [(0,1),(1,1),(2,1)]:=bJ.of Ψ
theorem dQ.i:aN x7 dQ 3 56 (.agg #[(.slice ν 0 0),(.slice ν 0 0),(Δ 0)]):=aN.of Ψ
theorem fZ.p:bJ x7 fZ [(0,1),(1,1),(2,1)]:=bJ.of Ψ
theorem fZ.i:aN x7 fZ 3 56 (.agg #[(Δ 0),(.slice ν 0 0),(.slice ν 0 0)]):=aN.of Ψ
theorem fM.p:bJ x7 fM [(0,1),(1,1),(2,1)]:=bJ.of Ψ
theorem fM.i:aN x7 fM 3 56 (.agg #[(Δ 0),(.slice ν 0 0),(.slice ν 0 0)]):=aN.of Ψ
theorem rV.u:x7.underlying rV=σ (.pointer hN):=Ψ
theorem eX.p:bJ x7 eX [(0,1),(1,1),(2,1),(3,1)]:=bJ.of Ψ
theorem ho.u:x7.underlying ho=σ (.slice jB):=Ψ
theorem ho.i:aN x7 ho 1 24 (.slice ν 0 0):=aN.of Ψ
theorem cg.p:bJ x7 cg [(0,1),(1,4),(5,1),(6,1)]:=bJ.of Ψ
theorem jf.u:x7.underlying jf=σ (.slice b4):=Ψ
theorem iC.u:x7.underlying iC=σ (.slice ee):=Ψ
theorem iC.i:aN x7 iC 1 24 (.slice ν 0 0):=aN.of Ψ
theorem b4.p:bJ x7 b4 [(0,1),(1,1),(2,1),(3,1)]:=bJ.of Ψ
theorem b4.i:aN x7 b4 4 80 (.agg #[(.slice ν 0 0),(.slice ν 0 0),(Δ 0),(.slice ν 0 0)]):=aN.of Ψ
theorem dK.u:x7.underlying dK=σ (.slice cD):=Ψ
theorem dK.i:aN x7 dK 1 24 (.slice ν 0 0):=aN.of Ψ
theorem cC.p:bJ x7 cC [(0,1),(1,1),(2,1),(3,1)]:=bJ.of Ψ
theorem eR.u:x7.underlying eR=σ (.pointer fw):=Ψ
theorem eR.i:aN x7 eR 1 8 (.pointer ν):=aN.of Ψ
theorem cD.p:bJ x7 cD [(0,1),(1,1)]:=bJ.of Ψ
theorem cD.i:aN x7 cD 2 32 (.agg #[(.slice ν 0 0),(.pointer ν)]):=aN.of Ψ
theorem fi.u:x7.underlying fi=σ (.slice cp):=Ψ
theorem fi.i:aN x7 fi 1 24 (.slice ν 0 0):=aN.of Ψ
theorem dA.u:x7.underlying dA=σ (.slice a1):=Ψ
theorem dA.i:aN x7 dA 1 24 (.slice ν 0 0):=aN.of Ψ
theorem bA.p:bJ x7 bA [(0,1),(1,1),(2,1),(3,1),(4,1),(5,1),(6,1),(7,1),(8,1)]:=bJ.of Ψ
theorem dG.p:bJ x7 dG [(0,1),(1,1),(2,1),(3,1)]:=bJ.of Ψ
theorem cp.p:bJ x7 cp [(0,1),(1,1)]:=bJ.of Ψ
theorem cp.i:aN x7 cp 2 24 (.agg #[(.string ⟨#[]⟩),(Δ 0)]):=aN.of Ψ
theorem ed.u:x7.underlying ed=σ (.slice cb):=Ψ
theorem ed.i:aN x7 ed 1 24 (.slice ν 0 0):=aN.of Ψ
theorem a1.p:bJ x7 a1 [(0,1),(1,1),(2,1),(3,1)]:=bJ.of Ψ
theorem a1.i:aN x7 a1 4 80 (.agg #[(.slice ν 0 0),(.slice ν 0 0),(Δ 0),(.slice ν 0 0)]):=aN.of Ψ
theorem kO.u:x7.underlying kO=σ (.slice hp):=Ψ
theorem kO.i:aN x7 kO 1 24 (.slice ν 0 0):=aN.of Ψ
theorem fu.p:bJ x7 fu [(0,1),(1,1),(2,1),(3,1)]:=bJ.of Ψ
theorem eS.u:x7.underlying eS=σ (.pointer cX):=Ψ
theorem eS.i:aN x7 eS 1 8 (.pointer ν):=aN.of Ψ
theorem hp.p:bJ x7 hp [(0,1),(1,1)]:=bJ.of Ψ
theorem hp.i:aN x7 hp 2 32 (.agg #[(.slice ν 0 0),(.pointer ν)]):=aN.of Ψ
theorem eK.p:bJ x7 eK [(0,1),(1,1)]:=bJ.of Ψ
theorem eK.i:aN x7 eK 2 16 (.agg #[(Δ 0),(.int .u64 0)]):=aN.of Ψ
theorem h4.u:x7.underlying h4=σ (.slice eK):=Ψ
theorem h4.i:aN x7 h4 1 24 (.slice ν 0 0):=aN.of Ψ
theorem nn.u:x7.underlying nn=σ (.slice kP):=Ψ
theorem nn.i:aN x7 nn 1 24 (.slice ν 0 0):=aN.of Ψ
theorem rW.u:x7.underlying rW=σ (.slice gf):=Ψ
theorem fv.p:bJ x7 fv [(0,1),(1,1),(2,1),(3,1)]:=bJ.of Ψ
theorem hN.p:bJ x7 hN [(0,1),(1,1),(2,1)]:=bJ.of Ψ
theorem jB.p:bJ x7 jB [(0,1),(1,1)]:=bJ.of Ψ
theorem jB.i:aN x7 jB 2 48 (.agg #[(.slice ν 0 0),(.slice ν 0 0)]):=aN.of Ψ
theorem ee.p:bJ x7 ee [(0,1),(1,1)]:=bJ.of Ψ
theorem ee.i:aN x7 ee 2 32 (.agg #[(.slice ν 0 0),(Δ 0)]):=aN.of Ψ
theorem cb.p:bJ x7 cb [(0,1),(1,1)]:=bJ.of Ψ
theorem cb.i:aN x7 cb 2 32 (.agg #[(.slice ν 0 0),(Δ 0)]):=aN.of Ψ
theorem gb.u:x7.underlying gb=σ (.slice cW):=Ψ
theorem cW.p:bJ x7 cW [(0,1),(1,1)]:=bJ.of Ψ
theorem cW.i:aN x7 cW 2 32 (.agg #[(.slice ν 0 0),(.pointer ν)]):=aN.of Ψ
theorem iD.u:x7.underlying iD=σ (.map cE al):=Ψ
theorem fw.p:bJ x7 fw [(0,1),(1,1),(2,1),(3,1)]:=bJ.of Ψ
theorem oA.u:x7.underlying oA=σ (.slice gd):=Ψ
theorem gd.p:bJ x7 gd [(0,1),(1,1)]:=bJ.of Ψ
theorem gd.i:aN x7 gd 2 32 (.agg #[(.slice ν 0 0),(Δ 0)]):=aN.of Ψ
theorem cX.p:bJ x7 cX [(0,1),(1,1),(2,1)]:=bJ.of Ψ
theorem gf.p:bJ x7 gf [(0,1),(1,1),(2,1)]:=bJ.of Ψ
theorem gf.i:aN x7 gf 3 24 (.agg #[(Δ 0),(Δ 0),(.int .u64 0)]):=aN.of Ψ
theorem kP.i:aN x7 kP 3 24 (.agg #[(Δ 0),(Δ 0),(.int .u64 0)]):=aN.of Ψ
theorem oB.u:x7.underlying oB=σ (.int .u64):=Ψ
theorem gT.u:x7.underlying gT=σ (.map c3 ah):=Ψ
theorem fN.u:x7.underlying fN=σ (.int .i8):=Ψ
theorem fN.i:aN x7 fN 1 1 (.int .i8 0):=aN.of Ψ
theorem cE.u:x7.underlying cE=σ (.array 6 fN):=Ψ
theorem cE.i:aN x7 cE 6 6 (.agg #[(.int .i8 0),(.int .i8 0),(.int .i8 0),(.int .i8 0),(.int .i8 0),(.int .i8 0)]):=aN.of Ψ
theorem kQ.u:x7.underlying kQ=σ (.slice fN):=Ψ
theorem jg.u:x7.underlying jg=σ (.slice cE):=Ψ
theorem jg.i:aN x7 jg 1 24 (.slice ν 0 0):=aN.of Ψ
theorem rX.u:x7.underlying rX=σ (.array 64 cI):=Ψ
theorem oC.u:x7.underlying oC=σ (.int .u32):=Ψ
theorem lN.u:x7.underlying lN=σ (.map al ah):=Ψ
theorem mo.u:x7.underlying mo=σ (.array 24 cI):=Ψ
theorem mo.i:aN x7 mo 24 24 (.agg #[(.int .u8 0),(.int .u8 0),(.int .u8 0),(.int .u8 0),(.int .u8 0),(.int .u8 0),(.int .u8 0),(.int .u8 0),(.int .u8 0),(.int .u8 0),(.int .u8 0),(.int .u8 0),(.int .u8 0),(.int .u8 0),(.int .u8 0),(.int .u8 0),(.int .u8 0),(.int .u8 0),(.int .u8 0),(.int .u8 0),(.int .u8 0),(.int .u8 0),(.int .u8 0),(.int .u8 0)]):=aN.of Ψ
theorem rY.u:x7.underlying rY=σ (.array 20 ft):=Ψ
end Go.Proofs.YtjjhhcfgfdepdaaGreatDoor
namespace Go.Vc
open Go Go.RowKit
def b2:x1->Int
 | .int _ i=>i
 |_=>0
theorem wrap_i64 {x:Int} (h1: -9223372036854775808<=x) (a:x<9223372036854775808):X2.wrap x=x:=by
 simp only[o6.wrap,o6.bits,o6.signed];simp;omega
theorem wrap_u8 {x:Int} (h1:0<=x) (a:x<256):o6.u8.wrap x=x:=by
 simp only[o6.wrap,o6.bits,o6.signed];simp;omega
theorem IL {x:Int} (h1: -128<=x) (a:x<128):o6.i8.wrap x=x:=by
 simp only[o6.wrap,o6.bits,o6.signed];simp;omega
theorem wrap_u64 {x:Int} (h1:0<=x) (a:x<18446744073709551616):U2.wrap x=x:=by
 simp only[o6.wrap,o6.bits,o6.signed];simp;omega
abbrev ints (k:o6) (l:Λ):List x1:=l.map (V0 k)
theorem pT (k:o6) (l:Λ):∀u∈ints k l,u.oneCell'=true:=by
 intro u hu;obtain⟨x,_,rfl⟩:=n9.1 hu;rfl
theorem kS {i:Nat} {x:Int} (h:l[i]? =σ x):(ints k l)[i]? =σ (.int k x):=by simp[ints,h]
theorem vc {α:Type} {a b:List α} {i:Nat} {x y:α} (h:a.take i=b.take i) (e:a[i]? =σ x) (f:b[i]? =σ y) (j:x=y):a.take (i+1)=b.take (i+1):=by
 rw[u9,u9,h,e,f,j]
theorem dm {av:x3->Prop} {B:(x3->Prop)->Prop} (G:x3->Prop) (h1:∀w,G w->av w) (e:∀a:x3->Prop,(∀w,G w->a w)->B a):cm av B:=e av h1
theorem aU {av:x1->x3->Prop} {B:(x1->x3->Prop)->Prop} (G:x1->x3->Prop) (h1:∀v w,G v w->av v w)
  (e:∀a:x1->x3->Prop,(∀v w,G v w->a v w)->B a):cm av B:=e av h1
theorem iB {av:x1->x1->x3->Prop} {B:(x1->x1->x3->Prop)->Prop} (G:x1->x1->x3->Prop) (h1:∀u v w,G u v w->av u v w)
  (e:∀a:x1->x1->x3->Prop,(∀u v w,G u v w->a u v w)->B a):cm av B:=e av h1
theorem ai.calls {P:W3} {f:R3} {K:x1->x3->Prop} (h:ai P f args w K) (a:Enters P f):Calls P f args.toArray w λe w'=>∃v,e= .returned v/\cM w w'/\K v w':=by
 cases h with
 |code _ h=>exact h
 |ext v w' h1=>rw[a] at h1;cases h1
theorem IM (f:Ext w w') (a:cM w w'):Below w.heap.size w w':=
 ⟨a.os,a.tape.1,a.output,f.size,λk hk=>by
  have e:w.heap[k]? =σ w.heap[k]:=Array.getElem?_eq_getElem hk;rw[e];cases I:fp w.heap[k] with
  |true=>exact f.aW k _ e I
  |false=>exact a.aW k _ e I⟩
theorem vd {x:Addr} (h:w.cell? x=σ v):x=⟨x.block,x.off,ν⟩:=by
 obtain⟨b,o,s⟩:=x;cases s with
 |none=>rfl
 |some s=>
  unfold x3.cell? at h;split at h<;>simp at h
theorem IN {a:Option Addr} {len cap:Nat} {e:Λ}
  (h:(a=ν/\len=0/\cap=0/\e=[])\/
   ∃x,a=σ x/\len<=cap/\cap<=maxLen/\e.length=cap/\(∀i,i<e.length->w.cell? (x.add i)=σ (.int k (e.getD i 0)))/\ ∀n∈e,(Lit.int k n).wf=true):
  bX w 1 (.slice a len cap) len (ints k (e.take len))/\ ∀n∈e.take len,k.min<=n/\n<=k.max:=by
 rcases h with⟨rfl,rfl,rfl,rfl⟩|⟨x,rfl,h1,r,s,f,y⟩
 .exact⟨bX.nil _ _,Ξ⟩
 .refine⟨⟨by simp[s,h1],x.block,x.off,σ x,cap,rfl,h1,r,λC=>?_,λj v p=>?_⟩,λn z=>?_⟩
  .have:=f 0 Ω;exact congrArg σ (vd this)
  .have A:=(x4.1 p).1;rw[u7,j5] at A;have B:x=⟨x.block,x.off,ν⟩:=vd (v:=.int k (e.getD 0 0)) (f 0 Ω);have q:=f j Ω;rw[B,T5] at q;rw[q,<-p,ints,x8,Y8 Ω,u4,x6 Ω];rfl
  .have:=y n (T3 z);simpa[Lit.wf] using this
def aH (k:o6) (w:x3) (v:x1) (l:Λ):Prop:=bX w 1 v l.length (ints k l)
def ap (k:o6) (e:r9) (w:x3) (g:Nat) (v:x1) (l:Λ):Prop:=bQ w g e 1 v l.length (ints k l)
theorem aH.ext (h:aH k w v l) (a:Ext w w'):aH k w' v l:=bX.ext h a
theorem ap.ext {g:Nat} (h:ap k e w g v l) (a:Ext w w'):ap k e w' g v l:=bQ.ext h a
theorem ap.V {g:Nat} (h:ap k e w g v l) (a:ae S w w') (f:g<w.heap.size->¬S g):ap k e w' g v l:=bQ.V h a f
theorem ap.ls {g:Nat} (h:ap k e w g v l):aH k w v l:=bQ.sl h
theorem aH.of (h:bX w 1 v n (ints k l)):aH k w v l:=by
 have:l.length=n:=by simpa using h.1
 unfold aH;rw[this];exact h
theorem ap.of {g:Nat} (h:bQ w g e 1 v n (ints k l)):ap k e w g v l:=by
 have:l.length=n:=by simpa using h.1
 unfold ap;rw[this];exact h
theorem aH.le (h:aH k w v l):l.length<=9223372036854775807:=by
 have:=bX.le h;simpa[maxLen] using this
theorem aH.cells (h:aH k w v l):v.cells= #[v]/\v.oneCell'=true:=by
 obtain⟨_,_,_,_,_,rfl,_⟩:=h;exact⟨rfl,rfl⟩
theorem ap.nil (k:o6) (e:r9) (w:x3) (g:Nat):ap k e w g (.slice ν 0 0) []:=bQ.nil w g e 1
section
variable {P:W3} {w:x3}
theorem aX {a:r9} (f:P.underlying t=σ (.slice e)) (h:aH k w v l):
  aa P (W7 #[t] a #[v]) w K=K (Δ l.length):=by
 obtain⟨_,_,_,_,_,rfl,_⟩:=h;exact h5 f
theorem bd {f:o6} {b:Nat} {i:Nat} {x:Int} (j:P.underlying t=σ (.slice e)) (hi:aN P e 1 b z) (h1:jD P e=true)
  (h:aH k w v l) (a:l[i]? =σ x):aa P (c7 t v (.int f (i:Int))) w (λp=>aa P (u5 e p) w K)=K (.int k x):=by
 have q:=(x4.1 a).1;obtain⟨_,_,_,_,_,rfl,_,_,r,s⟩:=h;rw[fx j hi q r,U9,aB h1 (s i _ (kS a))]
theorem fy {a:o6} {b:Nat} {i:Nat} {x:Int} (f:y=(i:Int)) (j:P.underlying t=σ (.slice e)) (hi:aN P e 1 b z) (h1:jD P e=true)
  (h:aH k w v l) (q:l[i]? =σ x):aa P (c7 t v (.int a y)) w (λp=>aa P (u5 e p) w K)=K (.int k x):=by
 subst f;exact bd j hi h1 h q
theorem jk {p:r9} {b g:Nat} {x:x1} {m:Λ} {K:x1->x3->Prop} (j:P.underlying t=σ (.slice e)) (hi:aN P e 1 b z) (q:z.cells.size=1)
  (h:ap k e w g v l) (s:aH k w x m) (y:(l.length+m.length)*b<=140737488355328) (A:l.length+m.length<=9223372036854775807)
  (B:∀f a w',(a=g\/w.heap.size<=a)->ap k e w' a f (l++m)->ae (λr=>r=g) w w'->K f w'):ax P (b8 #[t,t] p #[v,x]) w K:=
 lR j j hi q h s (pT _ _) y (by simpa[maxLen] using A) λf a w' h1 C E=>B f a w' h1 (ap.of (by rw[ints,j6];exact C)) E
theorem ep {b:Nat} {x:Int} {K:x1->x3->Prop} (j:P.underlying t=σ (.slice e)) (hi:aN P e 1 b z) (s:z.cells.size=1)
  (h:∀v g w',g=w.heap.size->Ext w w'->ap k e w' g v [x]->K v w'):ax P (Y1 t 1 #[(0,.int k x)]) w K:=
 jj j hi Ω (cs:=#[.int k x]) (by
   have I:∀ (a:Array x1),a.size=1->a.setIfInBounds 0 (.int k x)= #[.int k x]:=λa f=>by
    apply Array.ext
    .simp[f]
    .intro i h1 y;have:i=0:=by simp[f] at h1;exact h1
     subst this;simp
   simp only[Instr.fill,x1.cells,List.zipIdx];simp;exact I _ Ξ) λg w' p q r=>h _ g w' p q (ap.of (n:=1) (bQ.full r rfl (by simp[maxLen])))
theorem ai.free {f:R3} {K:x1->x3->Prop} (h:ai P f args w K):gG P f args w λv w'=>cM w w'/\K v w':=by
 cases h with
 |code h1 a=>exact .code h1 (a.mono λ_ w' ⟨v,h1,e,a⟩=>⟨v,h1,e,a⟩)
 |ext v w' h1 a j=>exact .ext v w' h1 ⟨a,j⟩
theorem bZ {a:Addr}:aa P (bO (.pointer (σ a))) w K=K (.pointer (σ a)):=aa.of λ_ _=>by
 simp[bO,rj,execOp]
theorem aA {u:r9} {pl:List (Nat×Nat)} {b off z:Nat} {K:x1->x1->Prop} (h:bJ P t pl) (i:Nat) (j:ab w b e cs) (a:cs[(pl[i]?.getD (0,0)).1]? =σ v) (f:pl[i]? =σ (off,z+1):=by rfl) (p:jD P u=true:=by kernel_rfl):
  aa P (u6 t (Γ b) i) w (λx=>aa P (u5 u x) w (K x))=K (.pointer (σ ⟨b,0+off,ν⟩)) v:=by
 rw[f] at a;rw[aQ h f,aB p (j.cell (by rw[X5];exact a))]
theorem aO {u:r9} {pl:List (Nat×Nat)} {b off z:Nat} {K:x1->x1->x1->Prop} (a:bJ P t pl) (i:Nat) (f:ab w b e cs) (h:cs[(pl[i]?.getD (0,0)).1]? =σ v) (j:pl[i]? =σ (off,z+1):=by rfl) (p:jD P u=true:=by kernel_rfl):
  aa P (bO (Γ b)) w (λy=>aa P (u6 t y i) w (λx=>aa P (u5 u x) w (K y x)))=K (Γ b) (.pointer (σ ⟨b,0+off,ν⟩)) v:=by
 rw[bZ,aA a i f h j p]
theorem zA {a f:o6} {k:Nat} {K:x1->x3->Prop} (q:P.underlying t=σ (.slice e)) (hi:aN P e k j z) (A:n*j<=281474976710656) (B:n<=9223372036854775807)
  (h:∀g w',g=w.heap.size->Ext w w'->ab w' g e (dR z.cells (n*k))->K (.slice (σ ⟨g,0,ν⟩) n n) w'):ax P (Instr.makeSlice t (.int a (n:Int)) (.int f (n:Int))) w K:=by
 obtain⟨i,hi,rfl,rfl,r⟩:=hi;have s:(i.bytes:Int)*(n:Int)<=281474976710656:=by
  rw[Int.mul_comm];have h:((n*i.bytes:Nat):Int)<=281474976710656:=Ω
  rwa [Int.natCast_mul] at h
 have p:=run_make (P:=P) w t e i z q hi r a f n n Ω (Int.le_refl _) s Ω;have hm:madeCells z.cells ((n:Int).toNat*i.size)=(dR z.cells (n*i.size)).toArray:=by rw[dR,Array.toArray_toList];rfl
 rw[hm] at p;obtain⟨h1,x,y⟩:=r4 w (dR z.cells (n*i.size)) e;exact .of p y (h _ _ rfl x h1)
theorem IP (v:x1) (n:Nat):dR #[v] n=p9 n v:=by
 apply List.ext_getElem
 .simp[dR]
 .intro i h1 a;simp[dR,Nat.mod_one]
theorem kh {f j:o6} {a:Nat} {K:x1->x3->Prop} (p:P.underlying t=σ (.slice e)) (hi:aN P e 1 a (.int k 0)) (q:n*a<=281474976710656) (r:n<=9223372036854775807)
  (h:∀g w',g=w.heap.size->Ext w w'->ab w' g e (ints k (p9 n 0))->K (.slice (σ ⟨g,0,ν⟩) n n) w'):ax P (Instr.makeSlice t (.int f (n:Int)) (.int j (n:Int))) w K:=
 zA p hi q r λg w' s x y=>h g w' s x (by
  have e:dR (V0 k 0).cells (n*1)=ints k (p9 n 0):=by rw[U9];show dR #[_] n=_;rw[IP];simp[ints]
  rw[<-e];exact y)
theorem fz {pl:List (Nat×Nat)} {b o k a:Nat} (hu:bJ P t pl) (hi:aN P t k a z) (e:cs.length=k)
  (h:w.rangeAt b o cs):aa P (do loadVar t (<-asAddr (.pointer (σ ⟨b,o,ν⟩)))) w K=K (.agg cs.toArray):=aa.of λw' f=>by
 obtain⟨j,hu,_⟩:=hu;have:=run_loadVar_mid (P:=P) w' b o t cs (.struct j) (np f h) hu rfl (by rw[hi.size,e]);simp only[asAddr,X8,W9,Result.andThen_ok,this]
theorem IQ (h:vs.length=cs.length):over cs 0 vs=vs:=by
 rw[mu Ω];simp[h]
theorem b3 {k f g:Nat} {K:Unit->x3->Prop} (hi:aN P t k f z) (j:vs.length=k) (x:cs.length=k) (p:∀v∈vs,v.oneCell'=true) (q:ab w g e cs)
  (h:∀w',ae (λr=>r=g) w w'->w'.heap.size=w.heap.size->ab w' g e vs->K () w'):ax P (o8 t (Γ g) (.agg vs.toArray)) w K:=
 zx hi j p q Ω λw' h1 s a=>h w' h1 s (by rw[IQ Ω] at a;exact a)
end
section
variable {P:W3} {w w' U:x3} {t:r9} {cx cy:Bool} {k:o6} {a b:Int} {A B:Prop} {x y z:x1} {K:x1->Prop}
theorem bx:aa P (Z7 (.tuple #[x,y]) 0) w K=K x:=iF rfl
theorem bz:aa P (Z7 (.tuple #[x,y]) 1) w K=K y:=iF rfl
theorem h6:aa P (Z7 (.tuple #[x,y,z]) 0) w K=K x:=iF rfl
theorem h7:aa P (Z7 (.tuple #[x,y,z]) 1) w K=K y:=iF rfl
theorem h8:aa P (Z7 (.tuple #[x,y,z]) 2) w K=K z:=iF rfl
theorem bH (h:a<b) (e:A):aa P (aJ .lss t cx cy (.int k a) (.int k b)) w λv=>Split v A B:=by
 rw[aR,aj];exact⟨λ_=>e,λf=>absurd h f⟩
theorem cd (h:¬a<b) (e:B):aa P (aJ .lss t cx cy (.int k a) (.int k b)) w λv=>Split v A B:=by
 rw[aR,aj];exact⟨λf=>absurd f h,λ_=>e⟩
theorem Ext.put {g:Nat} (a:Ext w w') (e:ae (λr=>r=g) w' U) (h:w.heap.size<=g):Ext w U:=a.then e λr f he=>by
 have he:r=g:=he;omega
theorem aI {α:Type} {l:List α} {i:Nat} (h:i<l.length):∃x,l[i]? =σ x:=⟨_,x6 h⟩
end
abbrev ag:=Nat->Prop
def jE (S:ag) (w:x3) (k:Nat) (v:x1) (n:Nat) (cs:List x1):Prop:=
 cs.length=n*k/\ ∃b o base cap,v= .slice base n cap/\n<=cap/\cap<=maxLen/\(0<n->base=σ ⟨b,o,ν⟩)/\(0<cs.length->S b)/\w.rangeAt b o cs
theorem jE.sl {S:ag} {k:Nat} (h:jE S w k v n cs):bX w k v n cs:=by
 obtain⟨h1,b,o,base,cap,a,e,f,j,_,p⟩:=h;exact⟨h1,b,o,base,cap,a,e,f,j,p⟩
theorem bX.IR {k:Nat} (h:bX w k v n cs):jE (λ_=>True) w k v n cs:=by
 obtain⟨h1,b,o,base,cap,a,e,f,j,p⟩:=h;exact⟨h1,b,o,base,cap,a,e,f,j,λ_=>trivial,p⟩
theorem zB {b o:Nat} (h:w.rangeAt b o cs) (a:0<cs.length):b<w.heap.size:=by
 have:=h 0 cs[0] (x6 a);obtain⟨c,e,f,j,_⟩:=u3 this;exact (j0.1 j).1
theorem jE.V {S T:ag} {k:Nat} (h:jE S w k v n cs) (p:ae T w w') (q:∀r,r<w.heap.size->S r->¬T r):jE S w' k v n cs:=by
 obtain⟨h1,b,o,base,cap,s,x,y,z,e,f⟩:=h;refine⟨h1,b,o,base,cap,s,x,y,z,e,?_⟩;rcases S4 cs.length with a|a
 .intro j v A;have:=(x4.1 A).1;omega
 .exact jC p (q b (zB f a) (e a)) f
theorem jE.mono {S T:ag} {k:Nat} (h:jE S w k v n cs) (f:∀r,r<w.heap.size->S r->T r):jE T w k v n cs:=by
 obtain⟨h1,b,o,base,cap,j,p,q,s,x,a⟩:=h;exact⟨h1,b,o,base,cap,j,p,q,s,λe=>f b (zB a e) (x e),a⟩
class ak (α:Type) where
 n:Nat
 rep:Bool->ag->ag->x3->List x1->α->Prop
 len:∀ {m S R w cs a},rep m S R w cs a->cs.length=n
 one:∀ {m S R w cs a},rep m S R w cs a-> ∀u∈cs,u.oneCell'=true
 V:∀ {m S R T w w' cs a},rep m S R w cs a->ae T w w'->(∀r,r<w.heap.size->S r\/R r->¬T r)->rep m S R w' cs a
 mono:∀ {m S S' R R' w cs a},rep m S R w cs a->(∀r,r<w.heap.size->S r->S' r)->(∀r,r<w.heap.size->R r->R' r)->rep m S' R' w cs a
 hL:∀ {m S R w cs a},rep m S R w cs a->rep false (λ_=>False) (λr=>S r\/R r) w cs a
section
variable {α β:Type} [ak α] [ak β] {m:Bool} {S R T:ag} {w w':x3}
abbrev bj (S R:ag) (w:x3) (cs:List x1) (a:α):Prop:=ak.rep true S R w cs a
abbrev Seen (R:ag) (w:x3) (cs:List x1) (a:α):Prop:=ak.rep false (λ_=>False) R w cs a
abbrev dg:ag:=λ_=>True
theorem bc {a:α} (h:ak.rep m S R w cs a) (e:Ext w w'):ak.rep m S R w' cs a:=ak.V h (e.V λ_=>False) λ_ _ _ h=>h
theorem mv {a:α} (h:ak.rep m S R w cs a):ak.rep m (λr=>S r/\r<w.heap.size) R w cs a:=ak.mono h (λ_ h1 e=>⟨e,h1⟩) λ_ _ h=>h
theorem gU {a:α} (h:ak.rep m S R w cs a):Seen dg w cs a:=ak.mono (ak.hL h) (λ_ _ h=>h.elim) λ_ _ _=>trivial
theorem nt {a:α} {Q:ag} (h:ak.rep m S R w cs a) (e:∀r,r<w.heap.size->S r\/R r->Q r):Seen Q w cs a:=ak.mono (ak.hL h) (λ_ _ h=>h.elim) e
instance:ak Int where
 n:=1
 rep _ _ _ _ cs a:=cs=[Δ a]
 len h:=by subst h;rfl
 one h:=by subst h;intro u hu;simp at hu;subst hu;rfl
 V h _ _:=h
 mono h _ _:=h
 hL h:=h
instance:ak Bool where
 n:=1
 rep _ _ _ _ cs a:=cs=[.bool a]
 len h:=by subst h;rfl
 one h:=by subst h;intro u hu;simp at hu;subst hu;rfl
 V h _ _:=h
 mono h _ _:=h
 hL h:=h
instance:ak ByteArray where
 n:=1
 rep _ _ _ _ cs a:=cs=[.string a]
 len h:=by subst h;rfl
 one h:=by subst h;intro u hu;simp at hu;subst hu;rfl
 V h _ _:=h
 mono h _ _:=h
 hL h:=h
def jF (_:o6):Type:=Int
instance (k:o6):ak (jF k) where
 n:=1
 rep _ _ _ _ cs a:=cs=[.int k a]
 len h:=by subst h;rfl
 one h:=by subst h;intro u hu;simp at hu;subst hu;rfl
 V h _ _:=h
 mono h _ _:=h
 hL h:=h
def Rd (α:Type):Type:=α
instance Q2:ak (Rd α) where
 n:=ak.n α
 rep _ _ R w cs a:=ak.rep (α:=α) false (λ_=>False) R w cs a
 len h:=ak.len (α:=α) h
 one h:=ak.one (α:=α) h
 V h e f:=ak.V (α:=α) h e λr j h=>f r j (.inr (h.elim False.elim id))
 mono h _ p:=ak.mono (α:=α) h (λ_ _ h=>h) p
 hL h:=ak.mono (α:=α) h (λ_ _ h=>h) λ_ _ h=>.inr h
instance Q3:ak (α×β) where
 n:=ak.n α+ak.n β
 rep m S R w cs a:=∃c d A B,cs=c++d/\(∀r,A r->S r)/\(∀r,B r->S r)/\(m=true-> ∀r,A r->¬B r)/\ak.rep m A R w c a.1/\ak.rep m B R w d a.2
 len:=by
  rintro m S R w cs a ⟨c,d,A,B,rfl,_,_,_,h1,e⟩;simp[ak.len h1,ak.len e]
 one:=by
  rintro m S R w cs a ⟨c,d,A,B,rfl,_,_,_,h1,e⟩ u hu;rcases l7.1 hu with hu|hu
  .exact ak.one h1 u hu
  .exact ak.one e u hu
 V:=by
  rintro m S R T w w' cs a ⟨c,d,A,B,rfl,j,p,s,h1,e⟩ x q;exact⟨c,d,A,B,rfl,j,p,s,ak.V h1 x λr f h=>q r f (h.imp (j r) id),ak.V e x λr f h=>q r f (h.imp (p r) id)⟩
 mono:=by
  rintro m S S' R R' w cs a ⟨c,d,A,B,rfl,j,p,s,h1,e⟩ q y;exact⟨c,d,λr=>A r/\r<w.heap.size,λr=>B r/\r<w.heap.size,rfl,λr h=>q r h.2 (j r h.1),λr h=>q r h.2 (p r h.1),λhm r h k=>s hm r h.1 k.1,
   ak.mono h1 (λr f h=>⟨h,f⟩) y,ak.mono e (λr f h=>⟨h,f⟩) y⟩
 hL:=by
  rintro m S R w cs a ⟨c,d,A,B,rfl,j,p,s,h1,e⟩;exact⟨c,d,λ_=>False,λ_=>False,rfl,λ_ h=>h.elim,λ_ h=>h.elim,(λh=>by cases h),ak.mono (ak.hL h1) (λ_ _ h=>h) λr _ h=>h.imp (j r) id,
   ak.mono (ak.hL e) (λ_ _ h=>h) λr _ h=>h.imp (p r) id⟩
def h9 (m:Bool) (R:ag) (F:Nat->ag) (w:x3) (vs:List (List x1)) (l:List α):Prop:=
 vs.length=l.length/\ ∀ (i:Nat) (c:List x1) (a:α),vs[i]? =σ c->l[i]? =σ a->ak.rep m (F i) R w c a
structure zC (m:Bool) (S:ag) (g:Nat) (F:Nat->ag):Prop where
 sub:∀i r,F i r->S r
 top:m=true-> ∀i,¬F i g
 gJ:m=true-> ∀i j r,i≠j->F i r->¬F j r
theorem h9.len {F:Nat->ag} {vs:List (List x1)} {l:List α} (h:h9 m R F w vs l):∀c∈vs,c.length=ak.n α:=by
 intro c a;obtain⟨i,hi,rfl⟩:=List.mem_iff_getElem.1 a;exact ak.len (h.2 i _ _ (x6 hi) (x6 (h.1▸hi)))
theorem h9.one {F:Nat->ag} {vs:List (List x1)} {l:List α} (h:h9 m R F w vs l):∀u∈vs.flatten,u.oneCell'=true:=by
 intro u hu;obtain⟨c,a,hu⟩:=List.mem_flatten.1 hu;obtain⟨i,hi,rfl⟩:=List.mem_iff_getElem.1 a;exact ak.one (h.2 i _ _ (x6 hi) (x6 (h.1▸hi))) u hu
theorem ki {k:Nat}:∀ {vs:List (List x1)},(∀c∈vs,c.length=k)->vs.flatten.length=vs.length*k
 |[],_=>Ξ
 |c::r,h=>by
  have:=ki (vs:=r) λx a=>h x (.tail _ a);simp only[List.flatten_cons,p8,this,h c (.head _),Z0,V9];omega
theorem nu {k:Nat}:∀ {vs:List (List x1)},(∀c∈vs,c.length=k)-> ∀ {i j:Nat} {c:List x1},vs[i]? =σ c->j<k->vs.flatten[i*k+j]? =c[j]?
 |gV::r,h,0,j,c,a,e=>by
  simp only[List.getElem?_cons_zero,X0] at a;subst a;rw[List.flatten_cons,Z8 (by rw[h _ (.head _)];omega)];simp
 |gV::r,h,i+1,j,c,a,e=>by
  simp only[List.getElem?_cons_succ] at a;have f:=h gV (.head _);rw[List.flatten_cons,Z9 (by rw[f,V9];omega),f,V9,show i*k+1*k+j-k=i*k+j by omega];exact nu (λx p=>h x (.tail _ p)) a e
 |[],_,i,_,c,a,_=>by simp at a
instance instList:ak (List α) where
 n:=1
 rep m S R w cs l:=∃v,cs=[v]/\ ∃ (vs:List (List x1)) (g:Nat) (F:Nat->ag),zC m S g F/\h9 m R F w vs l/\jE (λr=>S r\/R r) w (ak.n α) v l.length vs.flatten/\
  (m=true->(v= .slice ν 0 0\/S g)/\ ∃e,bQ w g e (ak.n α) v l.length vs.flatten)
 len:=by rintro m S R w cs a ⟨v,rfl,_⟩;rfl
 one:=by
  rintro m S R w cs a ⟨v,rfl,vs,g,F,_,_,⟨_,_,_,_,_,rfl,_⟩,_⟩ u hu;simp at hu;subst hu;rfl
 V:=by
  rintro m S R T w w' cs a ⟨v,rfl,vs,g,F,p,he,I,hm⟩ A s;refine⟨v,rfl,vs,g,F,p,⟨he.1,λi c a y z=>ak.V (he.2 i c a y z) A λr q h=>s r q (h.imp (p.sub i r) id)⟩,I.V A s,λh=>?_⟩;obtain⟨h1,e,f⟩:=hm h;refine⟨h1,e,?_⟩;rcases h1 with rfl|h1
  .obtain⟨C,⟨_,x⟩|⟨_,_,x,_⟩⟩:=f
   .exact⟨C,.inl ⟨rfl,x⟩⟩
   .cases x
  .exact f.V A λq=>s g q (.inl h1)
 mono:=by
  rintro m S S' R R' w cs a ⟨v,rfl,vs,g,F,p,he,I,hm⟩ s B;refine⟨v,rfl,vs,g,λi r=>F i r/\r<w.heap.size,⟨λi r h=>s r h.2 (p.sub i r h.1),λh i f=>p.top h i f.1,λh i j r E h1 f=>p.gJ h i j r E h1.1 f.1⟩,
   ⟨he.1,λi c a y z=>ak.mono (he.2 i c a y z) (λr q h=>⟨h,q⟩) B⟩,I.mono λr q h=>h.imp (s r q) (B r q),λh=>?_⟩
  obtain⟨h1,e,f⟩:=hm h;refine⟨?_,e,f⟩;obtain⟨_,⟨x,_⟩|⟨_,_,x,G,_⟩⟩:=f
  .exact .inl x
  .rcases h1 with h1|h1
   .exact .inl h1
   .exact .inr (s g G.lt h1)
 hL:=by
  rintro m S R w cs a ⟨v,rfl,vs,g,F,p,he,I,hm⟩;exact⟨v,rfl,vs,g,λ_ _=>False,⟨λ_ _ h=>h,(λh=>by cases h),λh=>by cases h⟩,
   ⟨he.1,λi c a y z=>ak.mono (ak.hL (he.2 i c a y z)) (λ_ _ h=>h) λr _ h=>h.imp (p.sub i r) id⟩,I.mono λr _ h=>.inr h,λh=>by cases h⟩
end
section
variable {P:W3} {w:x3} {α β:Type} [ak α] [ak β] {m:Bool} {S R:ag}
theorem hQ {l:List α} (h:ak.rep m S R w [v] l):∃ (vs:List (List x1)) (g:Nat) (F:Nat->ag),zC m S g F/\h9 m R F w vs l/\jE (λr=>S r\/R r) w (ak.n α) v l.length vs.flatten/\
  (m=true->(v= .slice ν 0 0\/S g)/\ ∃e,bQ w g e (ak.n α) v l.length vs.flatten):=by
 obtain⟨_,a,h⟩:=h;cases a;exact h
theorem e6 {a:α} (h:ak.rep m S R w [v] a):v.oneCell'=true:=ak.one h v (.head _)
theorem kT {l:List α} (h:ak.rep m S R w [v] l):v.cells= #[v]:=by
 obtain⟨_,_,_,_,_,⟨_,_,_,_,_,rfl,_⟩,_⟩:=hQ h;rfl
theorem nv {l:List α} (h:ak.rep m S R w [v] l):l.length<=9223372036854775807:=by
 obtain⟨_,_,_,_,_,h,_⟩:=hQ h;have:=h.sl.le;simpa[maxLen] using this
theorem gh:ak.rep m S R w [.slice ν 0 0] ([]:List α):=
 ⟨_,rfl,[],0,λ_ _=>False,⟨λ_ _ h=>h.elim,λ_ _ h=>h,λ_ _ _ _ _ h=>h.elim⟩,⟨rfl,λi c a e=>by simp at e⟩,
  ⟨Ξ,0,0,ν,0,rfl,o4 _,X3 _,λh=>absurd h (Nat.lt_irrefl _),λh=>by simp at h,λj v h=>by simp at h⟩,
  λ_=>⟨.inl rfl,0,bQ.nil w 0 0 _⟩⟩
theorem zD {F:Nat->ag} {vs:List (List x1)} (h:h9 m R F w vs l):vs.flatten=ints .i64 l:=by
 have:vs=l.map λx=>[V0 .i64 x]:=by
  apply List.ext_getElem
  .simp[h.1]
  .intro i h1 a;have e:i<l.length:=by simpa using a
   have:=h.2 i _ _ (x6 h1) (x6 e);rw[List.getElem_map];exact this
 subst this;clear h;induction l with
 |nil=>rfl
 |cons x l f=>simp only[V4,List.flatten_cons,f];rfl
theorem cU (h:ak.rep m S R w [v] l):aH .i64 w v l:=by
 obtain⟨vs,g,F,_,he,I,_⟩:=hQ h;have:=I.sl;rw[zD he] at this;exact this
theorem fA {a:r9} {l:List α} (f:P.underlying t=σ (.slice e)) (h:ak.rep m S R w [v] l):
  aa P (W7 #[t] a #[v]) w K=K (Δ l.length):=by
 obtain⟨_,_,_,_,_,⟨_,_,_,_,_,rfl,_⟩,_⟩:=hQ h;exact h5 f
theorem ia {x:o6} {i b:Nat} {l:List α} {a:α} (A:y=(i:Int)) (B:P.underlying t=σ (.slice e)) (hi:aN P e (ak.n α) b z)
  (h:ak.rep m S R w [v] l) (f:l[i]? =σ a) (C:∀b o cs,w.rangeAt b o cs->ak.rep m S R w cs a->K (.pointer (σ ⟨b,o,ν⟩))):aa P (c7 t v (.int x y)) w K:=by
 subst A;obtain⟨vs,g,F,E,he,⟨_,b,o,base,cap,rfl,_,_,G,_,H⟩,_⟩:=hQ h;have p:=(x4.1 f).1;rw[fx B hi p G];obtain⟨c,q⟩:∃c,vs[i]? =σ c:=⟨_,x6 (by rw[he.1];exact p)⟩;have s:=he.2 i c a q f;have I:=ak.len s;refine C _ _ c (λj u hu=>?_) (ak.mono s (λr _ h=>E.sub i r h) λ_ _ h=>h);have J:=(x4.1 hu).1;rw[S9];refine H (i*ak.n α+j) u ?_;rw[nu he.len q Ω];exact hu
theorem gK {q:o6} {i b:Nat} {l:List α} {a:α} (r:ak.n α=1) (s:y=(i:Int)) (x:P.underlying t=σ (.slice e)) (hi:aN P e (ak.n α) b z)
  (h1:jD P e=true) (h:ak.rep m S R w [v] l) (A:l[i]? =σ a) (B:∀u,ak.rep m S R w [u] a->K u):
  aa P (c7 t v (.int q y)) w λp=>aa P (u5 e p) w K:=by
 refine ia s x hi h A λb o cs C f=>?_;have j:=ak.len f;rw[r] at j;obtain⟨u,rfl⟩:=W8.1 j;rw[aB h1 (by have:=C 0 u rfl;simpa using this)];exact B u f
theorem kj {pl:List (Nat×Nat)} {j:o6} {i b:Nat} {l:List α} {a:α} (hu:bJ P e pl) (q:y=(i:Int)) (r:P.underlying t=σ (.slice e)) (hi:aN P e (ak.n α) b z)
  (h:ak.rep m S R w [v] l) (s:l[i]? =σ a) (x:∀cs,ak.rep m S R w cs a->K (.agg cs.toArray)):
  aa P (c7 t v (.int j y)) w λp=>aa P (u5 e p) w K:=by
 refine ia q r hi h s λb o cs A f=>?_;rw[bD hu hi (ak.len f) A];exact x cs f
theorem nw {g:Nat} {k:Nat} (h:bQ w g e k v n xs) (f:v= .slice ν 0 0\/S g):jE S w k v n xs:=by
 obtain⟨h1,⟨rfl,rfl⟩|⟨cap,cs,rfl,p,q,r,x,s⟩⟩:=h
 .have:xs=[]:=b9 (by simpa using h1);subst this;exact⟨Ξ,0,0,ν,0,rfl,o4 _,X3 _,λh=>absurd h (Nat.lt_irrefl _),λh=>by simp at h,λj v h=>by simp at h⟩
 .refine⟨h1,g,0,_,cap,rfl,q,r,λ_=>rfl,λ_=>f.resolve_left Ξ,λj v a=>?_⟩;rw[X5];have y:=(x4.1 a).1;rw[<-s,Y8 Ω] at a;exact p.cell a
open Classical in
theorem zE {U Y Z:r9} {b:Nat} {x:x1} {us:List (List x1)} {l l':List α} {G:Nat->ag} {K:x1->x3->Prop} (aa:P.underlying t=σ (.slice e)) (ab:P.underlying U=σ (.slice Y)) (hi:aN P e (ak.n α) b z) (ac:z.cells.size=ak.n α)
  (h:bj S R w [v] l) (ad:bX w (ak.n α) x l'.length us.flatten) (L:h9 true R G w us l') (af:∀i j r,i≠j->G i r->¬G j r)
  (E:∀r,r<w.heap.size->S r->(∀i,¬G i r)/\¬R r) (ah:(l.length+l'.length)*b<=140737488355328) (ai:l.length+l'.length<=9223372036854775807)
  (aj:∀p w',bj (λr=>S r\/(∃i,G i r)\/w.heap.size<=r) R w' [p] (l++l')->ae S w w'->K p w'):ax P (b8 #[t,U] Z #[v,x]) w K:=by
 obtain⟨vs,g,F,A,he,I,hm⟩:=hQ h;obtain⟨M,ap,W⟩:=hm rfl;refine zy aa ab hi ac W ad L.one ah (by simpa[maxLen] using ai) ?_;intro p H w' al am N O;have Q:∀r,r=g/\v≠ .slice ν 0 0->S r:=λr ⟨h1,f⟩=>h1▸M.resolve_left f;have an:=W;have T:(p= .slice ν 0 0)\/(H=g/\S g/\g<w.heap.size)\/H=w.heap.size:=by
  rcases am with⟨h1,_,f|f⟩|⟨h1,_⟩
  .rcases M with s|s
   .exact .inl (f▸s)
   .obtain⟨_,⟨y,_⟩|⟨_,_,_,y,_⟩⟩:=an
    .exact .inl (f▸y)
    .exact .inr (.inl ⟨h1,s,y.lt⟩)
  .exact .inr (.inl ⟨h1,M.resolve_left f.2,f.1⟩)
  .exact .inr (.inr h1)
 refine aj p w' ⟨p,rfl,vs++us,if p= .slice ν 0 0 then w.heap.size else H,λi r=>if i<l.length then F i r/\r<w.heap.size else G (i-l.length) r/\r<w.heap.size,⟨λi r h=>?_,λ_ i h=>?_,λ_ i j r ao h1 f=>?_⟩,⟨by simp[he.1,L.1],λi c a hi J=>?_⟩,?_,λ_=>⟨?_,al,?_⟩⟩ (O.mono λr _ h=>Q r h)
 .split at h
  .exact .inl (A.sub i r h.1)
  .exact .inr (.inl ⟨_,h.1⟩)
 .have B:(if p= .slice ν 0 0 then w.heap.size else H)<w.heap.size:=by split at h<;>exact h.2
  split at B
  .omega
  .rename_i q;rw[if_neg q] at h;rcases T with h1|⟨rfl,f,s⟩|h1
   .exact q h1
   .split at h
    .exact A.top rfl i h.1
    .exact (E _ s f).1 _ h.1
   .omega
 .split at h1<;>split at f
  .exact A.gJ rfl i j r ao h1.1 f.1
  .exact (E r h1.2 (A.sub i r h1.1)).1 _ f.1
  .exact (E r h1.2 (A.sub j r f.1)).1 _ h1.1
  .exact af (i-l.length) (j-l.length) r Ω h1.1 f.1
 .have X:∀r,r<w.heap.size->R r->¬(r=g/\v≠ .slice ν 0 0):=λr C h1 f=>(E r C (Q r f)).2 h1;by_cases B:i<l.length
  .rw[Z8 (by rw[he.1];exact B)] at hi;rw[Z8 B] at J;simp only[if_pos B];refine ak.V (mv (he.2 i c a hi J)) O λr C h1 f=>?_;rcases h1 with h1|h1
   .exact A.top rfl i (f.1▸h1.1)
   .exact X r C h1 f
  .rw[Z9 (by rw[he.1];omega),he.1] at hi;rw[Z9 Ω] at J;simp only[if_neg B];refine ak.V (mv (L.2 _ c a hi J)) O λr C h1 f=>?_;rcases h1 with h1|h1
   .exact (E r C (Q r f)).1 _ h1.1
   .exact X r C h1 f
 .rw[p8,List.flatten_append];refine nw N ?_;rcases T with h1|⟨rfl,f,_⟩|rfl
  .exact .inl h1
  .exact .inr (.inl (.inl f))
  .exact .inr (.inl (.inr (.inr (o4 _))))
 .rcases T with h1|⟨rfl,f,_⟩|rfl
  .exact .inl h1
  .by_cases q:p= .slice ν 0 0
   .exact .inl q
   .rw[if_neg q];exact .inr (.inl f)
  .split
   .exact .inr (.inr (.inr (o4 _)))
   .exact .inr (.inr (.inr (o4 _)))
 .rw[p8,List.flatten_append];by_cases q:p= .slice ν 0 0
  .subst q;obtain⟨s,⟨_,y⟩|⟨_,_,y,_⟩⟩:=N
   .exact⟨s,.inl ⟨rfl,y⟩⟩
   .cases y
  .rw[if_neg q];exact N
theorem nx {F:r9} {b:Nat} {x:x1} {l:List α} {a:α} {A:ag} {K:x1->x3->Prop} (B:P.underlying t=σ (.slice e)) (hi:aN P e (ak.n α) b z) (H:z.cells.size=ak.n α)
  (h:bj S R w [v] l) (J:bX w (ak.n α) x 1 cs) (L:bj A R w cs a) (C:∀r,r<w.heap.size->S r->¬(A r\/R r)) (f:(l.length+1)*b<=140737488355328) (M:l.length+1<=9223372036854775807)
  (N:∀p w',bj (λr=>S r\/A r\/w.heap.size<=r) R w' [p] (l++[a])->ae S w w'->K p w'):ax P (b8 #[t,t] F #[v,x]) w K:=by
 refine zE (l':=[a]) (us:=[cs]) (G:=λi r=>i=0/\A r) B B hi H h (by simpa using J) ⟨rfl,λi c b q f=>?_⟩ (λi j r O h1 s=>O (h1.1.trans s.1.symm)) (λr E I=>⟨λi h=>C r E I (.inl h.2),λh=>C r E I (.inr h)⟩) (by simpa using f) (by simpa using M)
  λp w' h1 s=>N p w' (ak.mono h1 (λr _ h=>h.imp id (Or.imp (λ⟨_,h⟩=>h.2) id)) λ_ _ h=>h) s
 have y:=(x4.1 q).1;have y:i=0:=by simpa using y
 subst y;simp at q f;subst q f;exact ak.mono L (λr _ h=>⟨rfl,h⟩) λ_ _ h=>h
end
theorem zF:∀ (c:List x1) (i:Nat) (z:Array x1),(i+c.length<=z.size)->((c.zipIdx i).foldl (λcs (x:x1×Nat)=>cs.setIfInBounds x.2 x.1) z).toList=z.toList.take i++c++z.toList.drop (i+c.length)
 |[],i,z,h=>Ξ
 |x::r,i,z,h=>by
  simp only[Z0] at h;rw[List.zipIdx_cons,List.foldl_cons,zF r (i+1) _ Θ];simp only[Array.toList_setIfInBounds,Z0];rw[List.drop_set_of_lt Ω,List.take_set,u9,x6 Θ];simp only[o7];rw[T2 _ _ Θ];have e:i-(z.toList.take i).length=0:=Θ
  rw[e,show i+1+r.length=i+(r.length+1) by omega];simp
theorem zG {k:Nat} {z:Array x1} (a:z.size=k) (e:v.cells.size=k):Instr.fill (λj=>σ (j*k,k)) z [(0,v)]=σ v.cells:=by
 have h:=zF v.cells.toList 0 z Θ;simp only[Instr.fill,Nat.zero_mul,X5];rw[if_neg Θ];congr 1;apply Array.toList_inj.1;rw[<-Array.foldl_toList,Array.toList_zipIdx,h];simp;omega
section
variable {P:W3} {w:x3} {α β:Type} [ak α] [ak β] {m:Bool} {S R:ag}
theorem iH {b:Nat} {x:x1} {a:α} {A:ag} {K:x1->x3->Prop} (C:P.underlying t=σ (.slice e)) (hi:aN P e (ak.n α) b z) (L:ak.n α<=100000)
  (q:x.cells=cs.toArray) (s:bj A R w cs a)
  (E:∀v w',Ext w w'->bj (λr=>A r\/w.heap.size<=r) R w' [v] [a]->bX w' (ak.n α) v 1 cs->K v w'):ax P (Y1 t 1 #[(0,x)]) w K:=by
 have F:=ak.len s;refine jj C hi Ω (cs:=x.cells) (zG Ξ (by rw[q];simpa using F)) λg w' M y f=>?_;have f:ab w' g e cs:=by rw[q] at f;simpa using f
 have hm:bQ w' g e (ak.n α) (.slice (σ ⟨g,0,ν⟩) 1 1) 1 cs:=bQ.full f Ω (by simp[maxLen]);refine E _ w' y ⟨_,rfl,[cs],g,λi r=>i=0/\A r/\r<w.heap.size,⟨λi r h=>.inl h.2.1,λ_ i h=>Ω,λ_ i j r G h1 H=>G (h1.1.trans H.1.symm)⟩,⟨rfl,λi c a' p B=>?_⟩,?_,λ_=>⟨.inr (.inr Ω),e,by simpa using hm⟩⟩ hm.sl
 .have I:i=0:=by simpa using (x4.1 p).1
  subst I;simp at p B;subst p B;exact bc (ak.mono s (λr J h=>⟨rfl,h,J⟩) λ_ _ h=>h) y
 .have:=nw (S:=λr=>(A r\/w.heap.size<=r)\/R r) hm (.inr (.inl (.inr Ω)));simpa using this
end
theorem ch.range {B:x1->x3->(x1->x3->Prop)->Prop} (n:Nat) (a:Nat->x3->Prop)
  (q:n<=9223372036854775807) (f:a 0 w)
  (j:∀ (i:Nat) (w:x3) (k:x1->x3->Prop),i<n->a i w->(∀w',a (i+1) w'->k (Δ (X2.wrap ((i:Int)+1))) w')->B (Δ (i:Int)) w k)
  (p:∀ (w:x3) (k:x1->x3->Prop),a n w->B (Δ (n:Int)) w k):ch (Δ 0) w B:=by
 refine⟨λt w=>∃i:Nat,t=Δ (i:Int)/\i<=n/\a i w,λt _=>n-(b2 t).toNat,⟨0,rfl,X3 _,f⟩,?_⟩;rintro _ w ⟨i,rfl,hi,h⟩;by_cases e:i<n
 .refine j i w _ e h λw' h'=>⟨⟨i+1,?_,e,h'⟩,?_⟩
  .rw[wrap_i64 Ω Ω];rfl
  .rw[wrap_i64 Ω Ω];simp only[b2];omega
 .have:i=n:=Ω
  subst this;exact p w _ h
theorem b1.range {a:x1} {B:x1->x1->x3->(x1->x1->x3->Prop)->Prop} (n:Nat) (e:Nat->x1->x3->Prop)
  (r:n<=9223372036854775807) (j:e 0 a w)
  (p:∀ (i:Nat) (a:x1) (w:x3) (k:x1->x1->x3->Prop),i<n->e i a w->(∀a' w',e (i+1) a' w'->k a' (Δ (X2.wrap ((i:Int)+1))) w')->B a (Δ (i:Int)) w k)
  (q:∀ (a:x1) (w:x3) (k:x1->x1->x3->Prop),e n a w->B a (Δ (n:Int)) w k):b1 a (Δ 0) w B:=by
 refine⟨λa t w=>∃i:Nat,t=Δ (i:Int)/\i<=n/\e i a w,λa t _=>n-(b2 t).toNat,⟨0,rfl,X3 _,j⟩,?_⟩;rintro a _ w ⟨i,rfl,hi,h⟩;by_cases f:i<n
 .refine p i a w _ f h λa' w' h'=>⟨⟨i+1,?_,f,h'⟩,?_⟩
  .rw[wrap_i64 Ω Ω];rfl
  .rw[wrap_i64 Ω Ω];simp only[b2];omega
 .have:i=n:=Ω
  subst this;exact q a w _ h
theorem om.range {a b:x1} {B:x1->x1->x1->x3->(x1->x1->x1->x3->Prop)->Prop} (n:Nat) (e:Nat->x1->x1->x3->Prop)
  (s:n<=9223372036854775807) (p:e 0 a b w)
  (q:∀ (i:Nat) (a b:x1) (w:x3) (k:x1->x1->x1->x3->Prop),i<n->e i a b w->(∀a' f w',e (i+1) a' f w'->k a' f (Δ (X2.wrap ((i:Int)+1))) w')->B a b (Δ (i:Int)) w k)
  (r:∀ (a b:x1) (w:x3) (k:x1->x1->x1->x3->Prop),e n a b w->B a b (Δ (n:Int)) w k):om a b (Δ 0) w B:=by
 refine⟨λa b t w=>∃i:Nat,t=Δ (i:Int)/\i<=n/\e i a b w,λa b t _=>n-(b2 t).toNat,⟨0,rfl,X3 _,p⟩,?_⟩;rintro a b _ w ⟨i,rfl,hi,h⟩;by_cases j:i<n
 .refine q i a b w _ j h λa' f w' h'=>⟨⟨i+1,?_,j,h'⟩,?_⟩
  .rw[wrap_i64 Ω Ω];rfl
  .rw[wrap_i64 Ω Ω];simp only[b2];omega
 .have:i=n:=Ω
  subst this;exact r a b w _ h
theorem rv.range {a b c:x1} {B:x1->x1->x1->x1->x3->(x1->x1->x1->x1->x3->Prop)->Prop} (n:Nat) (e:Nat->x1->x1->x1->x3->Prop)
  (x:n<=9223372036854775807) (q:e 0 a b c w)
  (r:∀ (i:Nat) (a b c:x1) (w:x3) (k:x1->x1->x1->x1->x3->Prop),i<n->e i a b c w->(∀a' f j w',e (i+1) a' f j w'->k a' f j (Δ (X2.wrap ((i:Int)+1))) w')->B a b c (Δ (i:Int)) w k)
  (s:∀ (a b c:x1) (w:x3) (k:x1->x1->x1->x1->x3->Prop),e n a b c w->B a b c (Δ (n:Int)) w k):rv a b c (Δ 0) w B:=by
 refine⟨λa b c t w=>∃i:Nat,t=Δ (i:Int)/\i<=n/\e i a b c w,λa b c t _=>n-(b2 t).toNat,⟨0,rfl,X3 _,q⟩,?_⟩;rintro a b c _ w ⟨i,rfl,hi,h⟩;by_cases p:i<n
 .refine r i a b c w _ p h λa' f j w' h'=>⟨⟨i+1,?_,p,h'⟩,?_⟩
  .rw[wrap_i64 Ω Ω];rfl
  .rw[wrap_i64 Ω Ω];simp only[b2];omega
 .have:i=n:=Ω
  subst this;exact s a b c w _ h
theorem pD.range {a b c d:x1} {B:x1->x1->x1->x1->x1->x3->(x1->x1->x1->x1->x1->x3->Prop)->Prop} (n:Nat) (e:Nat->x1->x1->x1->x1->x3->Prop)
  (y:n<=9223372036854775807) (r:e 0 a b c d w)
  (s:∀ (i:Nat) (a b c d:x1) (w:x3) (k:x1->x1->x1->x1->x1->x3->Prop),i<n->e i a b c d w->(∀a' f j p w',e (i+1) a' f j p w'->k a' f j p (Δ (X2.wrap ((i:Int)+1))) w')->B a b c d (Δ (i:Int)) w k)
  (x:∀ (a b c d:x1) (w:x3) (k:x1->x1->x1->x1->x1->x3->Prop),e n a b c d w->B a b c d (Δ (n:Int)) w k):pD a b c d (Δ 0) w B:=by
 refine⟨λa b c d t w=>∃i:Nat,t=Δ (i:Int)/\i<=n/\e i a b c d w,λa b c d t _=>n-(b2 t).toNat,⟨0,rfl,X3 _,r⟩,?_⟩;rintro a b c d _ w ⟨i,rfl,hi,h⟩;by_cases q:i<n
 .refine s i a b c d w _ q h λa' f j p w' h'=>⟨⟨i+1,?_,q,h'⟩,?_⟩
  .rw[wrap_i64 Ω Ω];rfl
  .rw[wrap_i64 Ω Ω];simp only[b2];omega
 .have:i=n:=Ω
  subst this;exact x a b c d w _ h
section
variable {P:W3} {w:x3} {m:Bool} {S R:ag}
theorem IS (l:Λ):(l.map λx=>[V0 k x]).flatten=ints k l:=by
 induction l with
 |nil=>rfl
 |cons x l a=>simp only[V4,List.flatten_cons,a];rfl
theorem ny {g:Nat} (h:ap .i64 e w g v l):bj (λr=>r=g) R w [v] l:=by
 have j:(l.map λx=>[V0 .i64 x]).flatten=ints .i64 l:=IS l;refine⟨v,rfl,l.map λx=>[Δ x],g,λ_ _=>False,⟨λ_ _ h=>h.elim,λ_ _ h=>h,λ_ _ _ _ _ h=>h.elim⟩,⟨Ξ,λi c a f p=>?_⟩,?_,λ_=>⟨.inr rfl,e,?_⟩⟩
 .rw[x8,p] at f;simp at f;exact f.symm
 .rw[j];exact nw h (.inr (.inl rfl))
 .rw[j];exact h
def jF.val (x:jF k):Int:=x
theorem IT (h:bj S R w [v] l):∃g e,ap .i64 e w g v l/\(v= .slice ν 0 0\/S g):=by
 obtain⟨vs,g,F,_,he,I,hm⟩:=hQ h;obtain⟨h1,e,a⟩:=hm rfl;rw[zD he] at a;exact⟨g,e,a,h1⟩
end
end Go.Vc
namespace Go.Proofs.YtjjhhcfgfdepdaaGreatDoor
open Go Go.Vc Go.RowKit Go.Proofs Go.Proofs.Tryz
set_option maxRecDepth 100000
def right (k:Int):Prop:=1<=k/\k<=2147483648
def cw (a k:Int):Prop:=right k/\0<=a/\a<=k
instance (k:Int):Decidable (right k):=by unfold right;infer_instance
instance (a k:Int):Decidable (cw a k):=by unfold cw;infer_instance
theorem zH {k:Int}:ai x7 HX [Δ k] w λv w'=>v= .bool (decide (right k))/\Ext w w':=by
 refine aw func180 ?_;simp only[cm,cY,mp,aj];refine⟨λh=>⟨?_,Ext.refl _⟩,λh=>⟨?_,Ext.refl _⟩⟩
 .congr 1;simp[right,h]
 .rw[decide_eq_false];intro a;exact h a.1
theorem jG {k:Int}:ai x7 Hf [Δ a,Δ k] w λv w'=>v= .bool (decide (cw a k))/\Ext w w':=by
 refine aw func122 ?_;simp only[cm];refine zH.mono ?_;rintro _ J _ ⟨rfl,e⟩;simp only[cY,mp,aj];refine⟨λh=>⟨λf=>⟨?_,e⟩,λf=>⟨?_,e⟩⟩,λh=>⟨?_,e⟩⟩
 .congr 1;simp[cw,h,f]
 .rw[decide_eq_false];intro j;exact f j.2.1
 .rw[decide_eq_false];intro j;exact h j.1
theorem IU {k:Int}:ai x7 HU [Δ k] w λv w'=>v= .bool (decide (right k))/\Ext w w':=by
 refine aw func175 ?_;simp only[cm,bT,mp,aj];refine⟨λh=>⟨?_,Ext.refl _⟩,λh=>⟨?_,Ext.refl _⟩⟩
 .congr 1;have h':1<=k:=Ω
  simp[right,h']
 .rw[decide_eq_false];intro a;have:=a.1;omega
theorem zI {k:Int}:ai x7 G3 [Δ a,Δ k] w λv w'=>v= .bool (decide (cw a k))/\Ext w w':=by
 refine aw func107 ?_;simp only[cm];refine IU.mono ?_;rintro _ J _ ⟨rfl,e⟩;simp only[cY,mp,aj];refine⟨λh=>⟨λf=>⟨?_,e⟩,λf=>⟨?_,e⟩⟩,λh=>⟨?_,e⟩⟩
 .congr 1;simp[cw,h,f]
 .rw[decide_eq_false];intro j;exact f j.2.1
 .rw[decide_eq_false];intro j;exact h j.1
def aL:Λ->Int
 |[]=>1
 |x::r=>x*aL r
theorem zJ:∀ (a b:Λ),aL (a++b)=aL a*aL b
 |[],b=>by simp[aL]
 |x::a,b=>by simp[aL,zJ a b,Int.mul_assoc]
theorem r5 {i:Nat} {x:Int} (h:l[i]? =σ x):aL (l.take (i+1))=aL (l.take i)*x:=by
 rw[u9,h,zJ];simp[aL]
def b5 (l:Λ):Prop:=l.length<=6/\ ∀x∈l,1<=x/\x<=32
theorem b5.take (h:b5 l) (i:Nat):b5 (l.take i):=⟨by rw[j5];have:=h.1;omega,λx a=>h.2 x (T3 a)⟩
theorem b5.drop (h:b5 l) (i:Nat):b5 (l.drop i):=⟨by rw[List.length_drop];have:=h.1;omega,λx a=>h.2 x (List.mem_of_mem_drop a)⟩
theorem mw:∀ (l:Λ),(∀x∈l,1<=x/\x<=32)->1<=aL l/\aL l<=32 ^ l.length
 |[],_=>by simp[aL]
 |x::r,h=>by
  obtain⟨h1,a⟩:=mw r λy e=>h y (.tail _ e);obtain⟨f,j⟩:=h x (.head _);simp only[aL,Z0];constructor
  .have:=Int.mul_le_mul f h1 Ω Ω;simpa using this
  .have:=Int.mul_le_mul j a Ω Ω;rw[Int.pow_succ];rw[Int.mul_comm (32 ^ r.length) 32];exact this
theorem prod_bound (h:b5 l):1<=aL l/\aL l<=1073741824:=by
 obtain⟨h1,a⟩:=mw l h.2;refine⟨h1,Int.le_trans a ?_⟩;have:(32:Int) ^ l.length<=32 ^ 6:=by
  have e:=h.1
  match l.length,e with
  |0,_=>decide
  |1,_=>decide
  |2,_=>decide
  |3,_=>decide
  |4,_=>decide
  |5,_=>decide
  |6,_=>decide
 simpa using this
def cF:Λ->Λ->Int->Option Int
 |[],[],n=>σ n
 |k::s,v::t,n=>if 0<=v/\v<k then cF s t (n*k+v) else ν
 |_,_,_=>ν
theorem ve:∀ (s t:Λ) (n:Int),s.length≠t.length->cF s t n=ν
 |[],[],_,h=>absurd rfl h
 |[],_::_,_,_=>rfl
 |_::_,[],_,_=>rfl
 |k::s,v::t,n,h=>by
  unfold cF;split
  .exact ve s t _ (by simpa using h)
  .rfl
def cL:Λ->Int->Λ
 |[],_=>[]
 |k::s,n=>(n / aL s) % k::cL s n
theorem jl:∀ (s:Λ) (n:Int),(cL s n).length=s.length
 |[],_=>rfl
 |_::s,n=>by simp[cL,jl s n]
theorem zK:∀ {s:Λ} {n:Int} {i:Nat} {k:Int},s[i]? =σ k->(cL s n)[i]? =σ ((n / aL (s.drop (i+1))) % k)
 |a::s,n,0,k,h=>by simp at h;subst h;simp[cL]
 |a::s,n,i+1,k,h=>by
  simp only[List.getElem?_cons_succ] at h;simp only[cL,List.getElem?_cons_succ,List.drop_succ_cons];exact zK h
theorem nz:∀ {s t:Λ} {m n:Int},(∀x∈s,1<=x/\x<=32)->cF s t m=σ n->m*aL s<=n/\n<(m+1)*aL s
 |[],[],m,n,_,h=>by simp[cF] at h;subst h;simp[aL];omega
 |k::s,v::t,m,n,I,h=>by
  unfold cF at h;split at h
  .rename_i p;have e:=nz (λx a=>I x (.tail _ a)) h;have q:=(mw s λx a=>I x (.tail _ a)).1;simp only[aL];have f:m*(k*aL s)=m*k*aL s:=(Int.mul_assoc _ _ _).symm;have j:(m+1)*(k*aL s)=(m*k+k)*aL s:=by rw[<-Int.mul_assoc,Int.add_mul,Int.one_mul]
   rw[f,j];constructor
   .refine Int.le_trans ?_ e.1;exact Int.mul_le_mul_of_nonneg_right Ω Ω
   .refine Int.lt_of_lt_of_le e.2 ?_;exact Int.mul_le_mul_of_nonneg_right Ω Ω
  .cases h
 |[],_::_,_,_,_,h=>by cases h
 |_::_,[],_,_,_,h=>by cases h
def ba:Λ->List (Λ)
 |[]=>[[]]
 |k::s=>(V1 k.toNat).flatMap λ(v:Nat)=>(ba s).map λt=>(v:Int)::t
theorem ib:∀ {s:Λ},(∀x∈s,1<=x/\x<=32)->(ba s).length=(aL s).toNat
 |[],_=>rfl
 |k::s,h=>by
  have e:=ib (s:=s) λx a=>h x (.tail _ a);have hk:=h k (.head _);have f:=(mw s λx a=>h x (.tail _ a)).1;simp only[ba,aL,List.length_flatMap,u7,e];rw[List.map_const',List.length_range,List.sum_replicate_nat,Int.toNat_mul Ω Ω]
theorem r6:∀ {s x:Λ},x∈ba s->x.length=s.length
 |[],x,h=>by simp[ba] at h;subst h;rfl
 |k::s,x,h=>by
  simp only[ba,List.mem_flatMap,n9] at h;obtain⟨v,_,t,a,rfl⟩:=h;simp[r6 a]
theorem r7 {s x:Λ} (h:(ba s)[j]? =σ x):x.length=s.length:=r6 (x5 h)
theorem oF (h:aH .i64 w sv l) (I:b5 l):
  ai x7 Hr [.agg #[sv]] w λv w'=>v=Δ (aL l)/\Ext w w':=by
 refine aw func135 ?_;refine bm λg w0 r f j=>?_;rw[aA bw.p 0 j rfl,aX am.u (h.ext f)];refine⟨λn t J=>Ext w J/\ ∃i:Nat,t=Δ i/\i<=l.length/\n=Δ (aL (l.take i)),λ_ t _=>l.length-(b2 t).toNat,⟨f,0,rfl,X3 _,rfl⟩,?_⟩;rintro _ _ J ⟨a,i,rfl,hi,rfl⟩;have s:=I.1;simp only[aR,aj];refine⟨λy=>?_,λz=>⟨?_,a⟩⟩
 .obtain⟨x,e⟩:=aI (l:=l) (i:=i) Ω;rw[bd am.u ah.i Ψ (h.ext a) e];have q:=prod_bound (I.take (i+1));rw[r5 e] at q;simp only[hP,aP];rw[wrap_i64 Ω Ω,wrap_i64 Ω Ω,<-r5 e];refine⟨⟨a,i+1,rfl,Ω,rfl⟩,?_⟩;simp only[b2];omega
 .have:i=l.length:=Ω
  rw[this,o5]
theorem IV {i:Nat} (h:aH .i64 w sv l) (I:b5 l) (hi:i<l.length):
  ai x7 HZ [.agg #[sv],Δ i] w λv w'=>v=Δ (aL (l.drop (i+1)))/\Ext w w':=by
 have B:=I.1;refine aw func183 ?_;refine bm λg w0 C f j=>?_;have a:=h.ext f;simp only[cm,aR,aj];refine⟨λE=>Ω,λ_=>?_⟩;rw[aA bw.p 0 j rfl,aX am.u a];simp only[cY,aj];refine⟨λG=>Ω,λ_=>?_⟩;rw[aA bw.p 0 j rfl];simp only[aP];have r:X2.wrap ((i:Int)+1)=((i+1:Nat):Int):=by rw[wrap_i64 Ω Ω];omega
 rw[r];have s:=a;obtain⟨_,b,o,base,cap,rfl,H,J,K,L⟩:=id a;rw[iG am.u ah.i (l:=i+1) (h:=l.length) (m:=cap) r0 kg gg Ω Ω Ω];have e:=bX.part (l:=i+1) (h:=l.length) (m:=cap) s Ω Ω Ω Ω;generalize y:(x1.slice (if cap=i+1 then base else V8 (λx=>x.add ((i+1)*1)) base) (l.length-(i+1)) (cap-(i+1)))=q at e ⊢;have z:((ints .i64 l).drop ((i+1)*1)).take ((l.length-(i+1))*1)=ints .i64 (l.drop (i+1)):=by
  rw[o9 Ξ,U9,ints,<-List.map_drop]
 rw[z] at e;rw[dp (cs:=#[q]) (by subst y;kernel_rfl)];refine (oF (aH.of e) (I.drop (i+1))).mono ?_;rintro _ U _ ⟨rfl,A⟩;exact⟨rfl,f.trans A⟩
def kU (s t:Λ):x1:=match cF s t 0 with
 |some n=>.tuple #[Δ n,Δ 0]
 |none=>.tuple #[Δ 0,Δ 3]
theorem zL {s t:Λ} (h:aH .i64 w sv s) (q:aH .i64 w aM t) (I:b5 s):
  ai x7 Ht [.agg #[sv],aM] w λv w'=>v=kU s t/\Ext w w':=by
 have K:=I.1;refine aw func137 ?_;refine bm λg w0 L e r=>?_;rw[aX am.u (q.ext e),aA bw.p 0 r rfl,aX am.u (h.ext e)];simp only[bL,aj];refine⟨λM=>⟨?_,e⟩,λz=>?_⟩
 .unfold kU;rw[ve _ _ _ Ω]
 .have z:s.length=t.length:=Ω
  rw[aX am.u (q.ext e)];refine⟨λ_ _ n c J=>Ext w0 J/\ ∃ (i:Nat) (m:Int),c=Δ i/\i<=t.length/\n=Δ m/\0<=m/\m<aL (s.take i)/\cF s t 0=cF (s.drop i) (t.drop i) m,λ_ _ _ c _=>t.length-(b2 c).toNat,
   ⟨Ext.refl _,0,0,rfl,X3 _,rfl,Int.le_refl _,by simp[aL],rfl⟩,?_⟩
  rintro _ _ _ _ J ⟨j,i,m,rfl,hi,rfl,A,N,f⟩;have a:=e.trans j;simp only[aR,aj];refine⟨λO=>?_,λP=>⟨?_,a⟩⟩
  .obtain⟨v,B,C⟩:∃v,t[i]? =σ v/\t.drop i=v::t.drop (i+1):=⟨t[i],x6 Ω,X7 Ω⟩;obtain⟨k,hk,E⟩:∃k,s[i]? =σ k/\s.drop i=k::s.drop (i+1):=⟨s[i],x6 Ω,X7 Ω⟩;rw[C,E] at f;have G:=prod_bound (I.take (i+1));have Q:=prod_bound (I.take i);have R:=I.2 k (x5 hk);rw[r5 hk] at G;have y:¬(0<=v/\v<k)->kU s t= .tuple #[Δ 0,Δ 3]:=λH=>by unfold kU;rw[f];simp[cF,H]
   rw[bd am.u ah.i Ψ (q.ext a) B];simp only[cm,aR,aj,bS];refine⟨λS=>⟨(y Ω).symm,a⟩,λU=>?_⟩;rw[aA bw.p 0 (r.ext j) rfl,bd am.u ah.i Ψ (h.ext a) hk];simp only[cY,aj];refine⟨λV=>⟨(y Ω).symm,a⟩,λW=>?_⟩;rw[aA bw.p 0 (r.ext j) rfl,bd am.u ah.i Ψ (h.ext a) hk];have X:0<=m*k/\m*k+k<=aL (s.take i)*k:=by
    constructor
    .exact Int.mul_nonneg A Ω
    .have:=Int.mul_le_mul_of_nonneg_right (show m+1<=aL (s.take i) by omega) (show 0<=k by omega);rw[Int.add_mul,Int.one_mul] at this;exact this
   simp only[hP,aP];rw[wrap_i64 (x:=m*k) Ω Ω,wrap_i64 (x:=m*k+v) Ω Ω,wrap_i64 (x:=(i:Int)+1) Ω Ω];refine⟨⟨j,i+1,m*k+v,rfl,Ω,rfl,Ω,by rw[r5 hk];omega,?_⟩,?_⟩
   .rw[f];simp[cF,show 0<=v/\v<k from⟨Ω,Ω⟩]
   .simp only[b2];omega
  .have:i=t.length:=Ω
   rw[this,List.drop_of_length_le Ω,List.drop_of_length_le Ω] at f;unfold kU;rw[f];rfl
theorem IW {A:x1} {e:Nat} {a b:Λ} (h1:bX w 1 z e (ints .i64 a)) (B:bX w 1 A j (ints .i64 b)):
  ai x7 yV [z,A] w λv w'=>v= .bool (decide (a=b))/\Ext w w':=by
 have Q:a.length=e:=by simpa using h1.1
 have R:b.length=j:=by simpa using B.1
 have C:=h1.le;obtain⟨_,S,V,W,X,rfl,Y,Z,H,I⟩:=h1;obtain⟨_,aa,ab,ac,ad,rfl,ae,af,K,L⟩:=B;refine aw func42 ?_;simp only[h5 am.u,bL,aj];refine⟨λE=>⟨?_,Ext.refl _⟩,λG=>?_⟩
 .rw[decide_eq_false];rintro rfl;omega
 .have G:e=j:=Ω
  refine⟨λt4 p J=>Ext w J/\ ∃i:Nat,p=Δ i/\i<=e/\a.take i=b.take i,λ_ p _=>e-(b2 p).toNat,⟨Ext.refl _,0,rfl,X3 _,rfl⟩,?_⟩;rintro t4 _ J ⟨f,i,rfl,hi,q⟩;simp only[aR,aj,eo];refine⟨λr U M _ _=>?_,λag=>⟨?_,f⟩⟩
  .have r:i<e:=Ω
   have f:=f.trans M;obtain⟨x,s⟩:=aI (l:=a) (i:=i) Ω;obtain⟨y,h⟩:=aI (l:=b) (i:=i) Ω;have N:=iE f (I i _ (kS s));have O:=iE f (L i _ (kS h));rw[fx am.u ah.i r H,U9,aB Ψ N,fx am.u ah.i (G▸r) K,U9,aB Ψ O];simp only[bL,aj,aP];refine⟨λE=>⟨?_,f⟩,λak=>⟨⟨f,i+1,?_,Ω,vc q s h Ω⟩,?_⟩⟩
   .rw[decide_eq_false];rintro rfl;rw[s] at h;cases h;exact E rfl
   .rw[wrap_i64 Ω (by simp only[maxLen] at C;omega)];rfl
   .rw[wrap_i64 Ω (by simp only[maxLen] at C;omega)];simp only[b2];omega
  .have P:i=e:=Ω
   subst P;rw[decide_eq_true];rw[o9 Ω,o9 Ω] at q;exact q
theorem IX {s:x1} {a:Λ} (h1:bX w 1 s n (ints .i64 a)) (B:n<=1000000):
  ai x7 zc [s] w λv w'=>Ext w w'/\ ∃g,w.heap.size<=g/\bQ w' g ah 1 v n (ints .i64 a):=by
 have j:=h1;obtain⟨p,C,E,G,H,rfl,I,K,q,L⟩:=h1;refine aw func164 ?_;simp only[pS am.u,bY];refine⟨λf=>⟨Ext.refl _,w.heap.size,o4 _,?_⟩,λ_=>?_⟩
 .have:n=0:=by
   rcases S4 n with h|h
   .exact h
   .rw[q h] at f;cases f
  subst this;have:ints .i64 a=[]:=b9 (by simpa using p);rw[this];exact bQ.nil _ _ _ _
 .refine jj am.u ah.i Ω (cs:=#[]) Ψ ?_;intro g J M e x;refine lR (g:=g) am.u am.u ah.i rfl (bQ.full x rfl Ω) (j.ext e) (pT _ _) Ω (by simp only[maxLen];omega) ?_;intro N y U O z A;refine⟨e.then A (by rintro r P rfl;omega),y,?_,?_⟩
  .have:=e.size;omega
  .simpa using z
theorem IY {A:x1} {e:Nat} {a b:Λ} (h1:bX w 1 z e (ints .i64 a)) (B:bX w 1 A j (ints .i64 b)):
  ai x7 yS [z,A] w λv w'=>v= .bool (decide (a=b))/\Ext w w':=by
 have Q:a.length=e:=by simpa using h1.1
 have R:b.length=j:=by simpa using B.1
 have C:=h1.le;obtain⟨_,S,V,W,X,rfl,Y,Z,H,I⟩:=h1;obtain⟨_,aa,ab,ac,ad,rfl,ae,af,K,L⟩:=B;refine aw func27 ?_;simp only[h5 ao.u,bL,aj];refine⟨λE=>⟨?_,Ext.refl _⟩,λG=>?_⟩
 .rw[decide_eq_false];rintro rfl;omega
 .have G:e=j:=Ω
  refine⟨λt4 p J=>Ext w J/\ ∃i:Nat,p=Δ i/\i<=e/\a.take i=b.take i,λ_ p _=>e-(b2 p).toNat,⟨Ext.refl _,0,rfl,X3 _,rfl⟩,?_⟩;rintro t4 _ J ⟨f,i,rfl,hi,q⟩;simp only[aR,aj,eo];refine⟨λr U M _ _=>?_,λag=>⟨?_,f⟩⟩
  .have r:i<e:=Ω
   have f:=f.trans M;obtain⟨x,s⟩:=aI (l:=a) (i:=i) Ω;obtain⟨y,h⟩:=aI (l:=b) (i:=i) Ω;have N:=iE f (I i _ (kS s));have O:=iE f (L i _ (kS h));rw[fx ao.u al.i r H,U9,aB Ψ N,fx ao.u al.i (G▸r) K,U9,aB Ψ O];simp only[bL,aj,aP];refine⟨λE=>⟨?_,f⟩,λah=>⟨⟨f,i+1,?_,Ω,vc q s h Ω⟩,?_⟩⟩
   .rw[decide_eq_false];rintro rfl;rw[s] at h;cases h;exact E rfl
   .rw[wrap_i64 Ω (by simp only[maxLen] at C;omega)];rfl
   .rw[wrap_i64 Ω (by simp only[maxLen] at C;omega)];simp only[b2];omega
  .have P:i=e:=Ω
   subst P;rw[decide_eq_true];rw[o9 Ω,o9 Ω] at q;exact q
theorem IZ {s:x1} {a:Λ} (h1:bX w 1 s n (ints .i64 a)) (B:n<=1000000):
  ai x7 zd [s] w λv w'=>Ext w w'/\ ∃g,w.heap.size<=g/\bQ w' g al 1 v n (ints .i64 a):=by
 have j:=h1;obtain⟨p,C,E,G,H,rfl,I,K,q,L⟩:=h1;refine aw func169 ?_;simp only[pS ao.u,bY];refine⟨λf=>⟨Ext.refl _,w.heap.size,o4 _,?_⟩,λ_=>?_⟩
 .have:n=0:=by
   rcases S4 n with h|h
   .exact h
   .rw[q h] at f;cases f
  subst this;have:ints .i64 a=[]:=b9 (by simpa using p);rw[this];exact bQ.nil _ _ _ _
 .refine jj ao.u al.i Ω (cs:=#[]) Ψ ?_;intro g J M e x;refine lR (g:=g) ao.u ao.u al.i rfl (bQ.full x rfl Ω) (j.ext e) (pT _ _) Ω (by simp only[maxLen];omega) ?_;intro N y U O z A;refine⟨e.then A (by rintro r P rfl;omega),y,?_,?_⟩
  .have:=e.size;omega
  .simpa using z
theorem I0 {e:x1} {a b:Λ} (h1:aH .i64 w e a) (h:aH .i64 w f b):
  ai x7 yV [e,f] w λv w'=>v= .bool (decide (a=b))/\Ext w w':=IW h1 h
theorem kV {s:x1} {a:Λ} (h1:aH .i64 w s a) (e:a.length<=1000000):
  ai x7 zc [s] w λv w'=>Ext w w'/\ ∃g,w.heap.size<=g/\ap .i64 ah w' g v a:=IX h1 e
theorem vf {e:x1} {a b:Λ} (h1:aH .i64 w e a) (h:aH .i64 w f b):
  ai x7 yS [e,f] w λv w'=>v= .bool (decide (a=b))/\Ext w w':=IY h1 h
theorem vg {s:x1} {a:Λ} (h1:aH .i64 w s a) (e:a.length<=1000000):
  ai x7 zd [s] w λv w'=>Ext w w'/\ ∃g,w.heap.size<=g/\ap .i64 al w' g v a:=IZ h1 e
theorem I1 {n:Int} (h:aH .i64 w sv l) (I:b5 l) (x:0<=n) (X:n<aL l):
  ai x7 Hs [.agg #[sv],Δ n] w λv w'=>Ext w w'/\ ∃aM g,v= .tuple #[aM,Δ 0]/\w.heap.size<=g/\ap .i64 ah w' g aM (cL l n):=by
 have Y:=I.1;have Z:=prod_bound I;refine aw func136 ?_;refine bm λg w0 aa y a=>?_;have ac:=h.cells;simp only[cm,aR,aj];refine⟨λad=>Ω,λ_=>?_⟩;rw[bD bw.p bw.i rfl a.range];refine (oF (h.ext y) I).mono ?_;rintro _ J _ ⟨rfl,f⟩;simp only[cY,aj];refine⟨λae=>Ω,λ_=>?_⟩;have j:=y.trans f;rw[aA bw.p 0 (a.ext f) rfl,aX am.u (h.ext j)];refine kh am.u ah.i Ω Ω ?_;intro E U af z L;simp only[h5 am.u];have M:=j.trans z;have s0:=y.size;have ag:=f.size;have ak:=a.lt;refine⟨λt q=>Ext w q/\Ext w0 q/\ ∃i:Nat,t=Δ i/\i<=l.length/\ab q E ah (ints .i64 ((cL l n).take i++p9 (l.length-i) 0)),λt _=>l.length-(b2 t).toNat,
  ⟨M,f.trans z,0,rfl,X3 _,by simpa using L⟩,?_⟩
 rintro _ q ⟨A,B,i,rfl,hi,G⟩;simp only[aR,aj];refine⟨λC=>?_,λal=>?_⟩
 .have C:i<l.length:=Ω
  rw[bD bw.p bw.i rfl (a.ext B).range];refine (IV (h.ext A) I C).mono ?_;rintro _ an _ ⟨rfl,N⟩;simp only[eo];intro ao O _ _;have s:=N.trans O;have H:=A.trans s;obtain⟨k,hk⟩:∃k,l[i]? =σ k:=⟨l[i],x6 Ω⟩;have aq:=I.2 k (x5 hk);have au:=prod_bound (I.drop (i+1));have P:0<=n / aL (l.drop (i+1)):=Int.ediv_nonneg x Ω;have av:n / aL (l.drop (i+1))<=n:=Int.ediv_le_self _ x;rw[rZ Ω,Int.tdiv_eq_ediv_of_nonneg x,wrap_i64 Ω Ω,
   aA bw.p 0 ((a.ext B).ext s) rfl,bd am.u ah.i Ψ (h.ext H) hk,
   pR Ω,Int.tmod_eq_emod_of_nonneg P,fx am.u ah.i C (λ_=>rfl),U9]
  refine bo ah.i rfl rfl (G.ext s) (by simp[jl];omega) ?_;intro ax K ay Q;simp only[aP];rw[wrap_i64 Ω Ω];have az:=z.size;have aB:=j.size;refine⟨⟨H.then K (by rintro r R rfl;omega),(B.trans s).then K (by rintro r R rfl;omega),i+1,rfl,Ω,?_⟩,?_⟩
  .have S:=zK (n:=n) hk;have e:(ints .i64 ((cL l n).take i++p9 (l.length-i) 0)).set (0+i) (Δ (n / aL (l.drop (i+1)) % k))=ints .i64 ((cL l n).take (i+1)++p9 (l.length-(i+1)) 0):=by
    have V:((cL l n).take i).length=i:=by rw[j5,jl];omega
    rw[X5,ints,<-U3];congr 1;rw[List.set_append,if_neg Ω,V,U1,show l.length-i=(l.length-(i+1))+1 by omega,List.replicate_succ,List.set_cons_zero,u9,S];simp
   rw[<-e];exact Q
  .simp only[b2];omega
 .have W:i=l.length:=Ω
  subst W;refine⟨A,_,E,rfl,by have:=j.size;omega,ap.of (n:=l.length) (bQ.full ?_ (by simp[ints,jl]) (by simp[maxLen];omega))⟩;have e:(cL l n).take l.length++p9 (l.length-l.length) 0=cL l n:=by rw[U1,o9 (by rw[jl];omega)];simp
  rw[<-e];exact G
def ic (x:Int):Prop:=1<=x/\x<=32
instance (x:Int):Decidable (ic x):=by unfold ic;infer_instance
theorem I2 {x:Int}:ai x7 rT [Δ x] w λv w'=>v= .bool (decide (¬ic x))/\Ext w w':=by
 refine aw func241 ?_;simp only[cm,aR,bT,aj];refine⟨λh=>⟨?_,Ext.refl _⟩,λh=>⟨?_,Ext.refl _⟩⟩
 .rw[decide_eq_true];intro a;have:=a.1;omega
 .congr 1;have:(32<x)=(¬ic x):=propext ⟨λe a=>by have:=a.2;omega,λe=>by
   by_cases f:32<x
   .exact f
   .exact absurd ⟨Ω,Ω⟩ e⟩
  simp only[this]
theorem I3 (h:aH .i64 w sv l):
  ai x7 zl [sv,.func (.func rT) #[] #[]] w λv w'=>Ext w w'/\ ∃n:Int,v=Δ n/\((0<=n)=¬∀x∈l,ic x):=by
 have z:=h.le;refine aw func221 ?_;rw[aX am.u h];refine⟨λ_ t J=>Ext w J/\ ∃i:Nat,t=Δ i/\i<=l.length/\ ∀x∈l.take i,ic x,λ_ t _=>l.length-(b2 t).toNat,⟨Ext.refl _,0,rfl,X3 _,Ξ⟩,?_⟩;rintro _ _ J ⟨e,i,rfl,hi,f⟩;simp only[aR,aj];refine⟨λA=>?_,λB=>⟨e,-1,rfl,?_⟩⟩
 .obtain⟨x,j⟩:=aI (l:=l) (i:=i) Ω;rw[bd am.u ah.i Ψ (h.ext e) j];show ai x7 rT [Δ x] J _;refine I2.mono ?_;rintro _ U _ ⟨rfl,p⟩;simp only[aj,aP];refine⟨λq=>⟨e.trans p,i,rfl,?_⟩,λr=>?_⟩
  .exact propext ⟨λ_ s=>q (s x (x5 j)),λ_=>Ω⟩
  .rw[wrap_i64 Ω Ω];refine⟨⟨e.trans p,i+1,rfl,Ω,λy a=>?_⟩,?_⟩
   .rw[u9,j] at a;rcases l7.1 a with a|a
    .exact f y a
    .simp at a;subst a;exact Y3.1 r
   .simp only[b2];omega
 .have:i=l.length:=Ω
  rw[this,o5] at f;exact propext ⟨λh=>Ω,λh=>absurd f h⟩
theorem I4 (h:aH .i64 w sv l):
  ai x7 uX [sv,.func (.func rT) #[] #[]] w λv w'=>v= .bool (decide (¬∀x∈l,ic x))/\Ext w w':=by
 refine aw func186 ?_;refine (I3 h).mono ?_;rintro _ J _ ⟨a,n,rfl,e⟩;simp only[cY];exact⟨by congr 1;simp only[e],a⟩
def I5 (w:x3) (l:Λ) (v:x1) (w':x3):Prop:=
 Ext w w'/\
   (¬b5 l->v= .tuple #[.agg #[.slice ν 0 0],Δ 1])/\
   (b5 l->4096<aL l->v= .tuple #[.agg #[.slice ν 0 0],Δ 5])/\
   (b5 l->aL l<=4096-> ∃g aM,v= .tuple #[.agg #[aM],Δ 0]/\w.heap.size<=g/\ap .i64 ah w' g aM l)
theorem I6 (h:aH .i64 w sv l):ai x7 Ie [sv] w (I5 w l):=by
 refine aw func211 ?_;refine bB bw.i λZ J ax a q=>?_;have ay:=q.lt;refine aU (λv U=>Ext w U/\Ext J U/\ ∃c:Bool,v= .bool c/\((c=true)=¬b5 l)) ?_ ?_
 .rintro _ U ⟨s,x,c,rfl,H⟩;simp only[bY];refine⟨λaa=>?_,λac=>?_⟩
  .have K:¬b5 l:=by rw[<-H];exact aa
   rw[dp (cs:=#[.slice ν 0 0]) Ψ];refine b3 (vs:=[.slice ν 0 0]) bw.i rfl rfl (by simp;rfl) (q.ext x) ?_;intro az ad aA af;rw[fz bw.p bw.i rfl af.range];exact⟨s.then ad (by rintro r y rfl;omega),λ_=>rfl,λh=>absurd h K,λh=>absurd h K⟩
  .have e:b5 l:=by
    have L:¬(c=true):=by simp[ac]
    rw[H] at L;exact Classical.not_not.1 L
   have aB:=e.1;refine (kV (h.ext s) Ω).mono ?_;rintro aM M _ ⟨z,N,aC,hm⟩;have O:=hm.ls.cells;rw[dp (cs:=#[aM]) (by obtain⟨_,_,_,_,_,rfl,_⟩:=hm.ls;kernel_rfl)];refine bB bw.i λgs aD aE A ag=>?_;refine b3 (vs:=[aM]) bw.i rfl rfl (by intro u hu;simp at hu;subst hu;exact O.2) ag ?_;intro B P aF Q;rw[bD bw.p bw.i rfl Q.range];have aG:=z.size;have aI:=A.size;have aJ:=x.size;have aK:ae (λr=>r=gs) M B:=(A.V _).trans P;have C:Ext M B:=A.then P (by rintro r y rfl;omega);have ak:=(s.trans z).trans C;have R:ap .i64 ah B N aM l:=hm.ext C;refine (oF R.ls e).mono ?_;rintro _ al _ ⟨rfl,f⟩;have S:=ak.trans f;have W:ab al Z bw [.slice ν 0 0]:=q.ext (((x.trans z).trans C).trans f);simp only[bT,aj];refine⟨λan=>?_,λao=>?_⟩
   .rw[dp (cs:=#[.slice ν 0 0]) Ψ];refine b3 (vs:=[.slice ν 0 0]) bw.i rfl rfl (by simp;rfl) W ?_;intro aq j au E;rw[fz bw.p bw.i rfl E.range];exact⟨S.then j (by rintro r y rfl;omega),λh=>absurd e h,λ_ _=>rfl,λ_ h=>Ω⟩
   .rw[bD bw.p bw.i rfl (Q.ext f).range];refine b3 (vs:=[aM]) bw.i rfl rfl (by intro u hu;simp at hu;subst hu;exact O.2) W ?_;intro aq j au E;rw[fz bw.p bw.i rfl E.range];have aL:=a.size;exact⟨S.then j (by rintro r y rfl;omega),λh=>absurd e h,λ_ h=>Ω,λ_ _=>⟨N,aM,rfl,Ω,(R.ext f).V j Ω⟩⟩
 .intro av X;rw[aX am.u (h.ext a)];simp only[bT,aj];refine⟨λan=>X _ _ ⟨a,Ext.refl _,true,rfl,?_⟩,λao=>?_⟩
  .exact propext ⟨λ_ I=>by have:=I.1;omega,λ_=>rfl⟩
  .refine (I4 (h.ext a)).mono ?_;rintro _ U _ ⟨rfl,Y⟩;refine X _ _ ⟨a.trans Y,Y,_,rfl,?_⟩;rw[decide_eq_true_eq];exact propext ⟨λG I=>G I.2,λG I=>G ⟨Ω,I⟩⟩
theorem vh {P:W3} (f:0<=a) (h1:a<4294967296):
  aa P (aJ .and t cx cy (.int .u64 a) (.int .u64 4294967295)) w K=K (.int .u64 a):=aa.of λw' _=>by
 obtain⟨n,rfl⟩:=V7 f;have q:n<4294967296:=Ω
 have e:(U5 64 (n:Int) &&& U5 64 4294967295).toNat=n:=by
  rw[BitVec.toNat_and,BitVec.toNat_ofInt,BitVec.toNat_ofInt];have h:((n:Int) % ((2 ^ 64:Nat):Int)).toNat=n:=Ω
  have j:((4294967295:Int) % ((2 ^ 64:Nat):Int)).toNat=2 ^ 32-1:=Φ
  rw[h,j,Nat.and_two_pow_sub_one_eq_mod];omega
 have p:(U5 U2.bits (n:Int) &&& U5 U2.bits 4294967295).toNat=n:=e;simp only[aJ,eqGuard,binOp,Op.intBits,p];rw[wrap_u64 Ω Ω];rfl
theorem pU {P:W3} (f:0<=a) (h1:a<4294967296):
  aa P (aJ .shr t cx cy (.int .u64 a) (.int .u64 32)) w K=K (.int .u64 0):=aa.of λw' _=>by
 have e:a.fdiv (2 ^ min 32 U2.bits)=0:=by
  have:(2:Int) ^ min 32 U2.bits=4294967296:=rfl;rw[this,Int.fdiv_eq_ediv_of_nonneg _ Ω];omega
 simp[aJ,eqGuard,binOp,Op.shift,e]
theorem I7 {x:Int} (f:0<=x/\x<65536) (e:0<=y/\y<65536):
  ai x7 Iu [.int .u64 x,.int .u64 y] w λv w'=>v= .tuple #[.int .u64 0,.int .u64 (x*y)]/\Ext w w':=by
 have j:0<=x*y/\x*y<4294967296:=⟨Int.mul_nonneg f.1 e.1,by
  have:x*y<=65535*65535:=Int.mul_le_mul Ω Ω e.1 Ω;omega⟩
 refine aw func242 ?_;refine ai.mono (K:=λv w'=>v= .tuple #[.int .u64 0,.int .u64 (x*y)]/\Ext w w') ?_ ?_
 .refine aw func257 ?_;rw[vh Ω Ω,pU Ω Ω,vh Ω Ω,pU Ω Ω];simp only[hP,Int.zero_mul,Int.mul_zero];rw[wrap_u64 (x:=x*y) Ω Ω,show U2.wrap 0=0 from rfl,pU (a:=x*y) Ω Ω];simp only[aP,Int.add_zero];rw[show U2.wrap 0=0 from rfl,vh Ω Ω,pU Ω Ω];simp only[hP,aP,Int.zero_mul,Int.mul_zero,Int.add_zero,show U2.wrap 0=0 from rfl];rw[pU Ω Ω];simp only[hP,aP,Int.add_zero,show U2.wrap 0=0 from rfl];exact⟨trivial,Ext.refl _⟩
 .rintro _ J _ ⟨rfl,h⟩;rw[bx,bz];exact⟨rfl,h⟩
theorem zM {eY:x1} {c:Int} (h:aH .i64 w eY [c]) (Y:n<65536):
  ai x7 If [eY,Δ n] w λv w'=>Ext w w'/\ ∃g,w.heap.size<=g/\ap .i64 al w' g v (p9 n c):=by
 refine aw func212 ?_;refine dm (λJ=>w=J) ?_ ?_
 .rintro _ rfl;rw[aX ao.u h,fj ah.u oB.u,fj ah.u oB.u,wrap_u64 Ξ Ξ,wrap_u64 Ω Ω];refine (I7 (x:=([c].length:Int)) Ξ Ω).mono ?_;rintro _ U _ ⟨rfl,z⟩;rw[bx,bz];have G:(([c].length:Int)*n)=(n:Int):=Ξ
  rw[G];refine dm (λa=>U=a) ?_ ?_
  .rintro _ rfl;rw[fj oB.u ah.u,wrap_i64 Ω Ω];refine kh ao.u al.i Ω Ω ?_;intro g Z aa H I;have A:=z.trans H;have ac:=z.size;refine zz ao.u al.i I (o:=0) (λ_=>rfl) Ξ (h.ext A) (pT _ _) ?_;intro ad K ae B;have L:=A.then K (by rintro r M rfl;omega);have st:over (ints .i64 (p9 n 0)) 0 ((ints .i64 [c]).take n)=ints .i64 (p9 (min 1 n) c++p9 (n-min 1 n) 0):=by
    rcases S4 n with rfl|e
    .simp[over]
    .rw[o9 Θ,mu Θ];have:min 1 n=1:=Ω
     simp[this,ints]
   rw[st] at B;refine⟨λt f=>Ext w f/\ ∃i:Nat,t=Δ i/\i<=n/\(0<n->0<i)/\ab f g al (ints .i64 (p9 i c++p9 (n-i) 0)),λt _=>n-(b2 t).toNat,
    ⟨L,min 1 n,Ξ,Ω,Ω,B⟩,?_⟩
   rintro _ f ⟨p,i,rfl,hi,af,q⟩;simp only[h5 ao.u,aR,aj,eo];refine⟨λN O s _ _=>?_,λag=>?_⟩
   .have N:i<n:=Ω
    have C:=q.ext s;rw[iG ao.u al.i (l:=i) (h:=n) (m:=n) r0 kg gg Ω Ω Ω,
     iG ao.u al.i (l:=0) (h:=i) (m:=n) kf r1 gg Ω Ω Ω]
    have P:bX O 1 (.slice (σ ⟨g,0,ν⟩) n n) n (ints .i64 (p9 i c++p9 (n-i) 0)):=(bQ.full C (by simp<;>omega) (by simp[maxLen]<;>omega)).sl;have e:=P.part (l:=0) (h:=i) (m:=n) Ω Ω Ω Ω;have Q:((ints .i64 (p9 i c++p9 (n-i) 0)).drop (0*1)).take ((i-0)*1)=ints .i64 (p9 i c):=by
     simp[ints]
    rw[Q] at e;refine zz ao.u al.i C (o:=i) (λ_=>?_) (by simp<;>omega) e (pT _ _) ?_
    .rw[if_neg Ω];simp[T5]
    .intro ak R am E;have an:=p.size;have aq:=s.size;have S:over (ints .i64 (p9 i c++p9 (n-i) 0)) i ((ints .i64 (p9 i c)).take (n-i))=ints .i64 (p9 (i+min i (n-i)) c++p9 (n-(i+min i (n-i))) 0):=by
      apply Y2;intro j;rw[oD _ _ _ (by simp[ints]<;>omega)];simp only[ints,j6,List.map_replicate,List.getElem?_append,List.getElem?_take,List.getElem?_replicate,j5,List.length_replicate]
      repeat' split
      all_goals first|rfl|omega
     rw[S] at E;have V:min (i-0) (n-i)=min i (n-i):=Ω
     simp only[aP,V];have W:X2.wrap ((i:Int)+((min i (n-i):Nat):Int))=((i+min i (n-i):Nat):Int):=by rw[wrap_i64 Ω Ω];omega
     rw[W];refine⟨⟨(p.trans s).then R (by rintro r M rfl;omega),_,rfl,Ω,Ω,E⟩,?_⟩;simp only[b2,r8];omega
   .have:i=n:=Ω
    subst this;rw[U1,List.replicate_zero,X9] at q;exact⟨p,g,Ω,ap.of (n:=i) (bQ.full q Ξ (by simp[maxLen];omega))⟩
  .intro av y;refine aU (λv a=>v= .bool false/\U=a) ?_ ?_
   .rintro _ _ ⟨rfl,rfl⟩;rw[aY];exact y _ rfl
   .intro au X;simp only[bT,aj];refine⟨λh=>Ω,λ_=>X _ _ ⟨?_,rfl⟩⟩;rw[decide_eq_false];omega
 .intro av y;simp only[aR,aj];exact⟨λh=>Ω,λ_=>y _ rfl⟩
def leads (v:x1) (r:Nat):Prop:=∃a n c,v= .slice (σ a) n c/\a.block=r
theorem bP {g:Nat} (h:ap k e w g v l) {r:Nat} (f:leads v r):r=g/\g<w.heap.size:=by
 obtain⟨a,n,c,rfl,rfl⟩:=f;obtain⟨_,⟨h,_⟩|⟨cap,cs,h,j,_⟩⟩:=h
 .cases h
 .cases h;exact⟨rfl,j.lt⟩
theorem bn {g:Nat} (h:ap k e w g v l) (a:ae S w w') (f:∀r,leads v r->¬S r):ap k e w' g v l:=by
 refine⟨h.1,h.2.imp id λ⟨cap,cs,h1,j,p⟩=>⟨cap,cs,h1,j.V a (f g ⟨_,_,_,h1,rfl⟩),p⟩⟩
def dh (w:x3) (g a:Nat) (sv:x1) (ad:Λ) (k:Int) (cs:Λ):Prop:=
 (∃aZ gs,ab w g cX [sv,Δ k,aZ]/\ap .i64 ah w gs sv ad/\ap .i64 al w a aZ cs)/\(g≠a/\¬leads sv a/\aL ad<=4096)/\b5 ad/\cs.length=(aL ad).toNat
theorem dh.ext {g e:Nat} {k:Int} {cs:Λ} (h:dh w g e sv ad k cs) (a:Ext w w'):dh w' g e sv ad k cs:=by
 obtain⟨⟨aZ,gs,h1,f,j⟩,p⟩:=h;exact⟨⟨aZ,gs,h1.ext a,f.ext a,j.ext a⟩,p⟩
def zN (w:x3) (l:Λ) (k a:Int) (v:x1) (w':x3):Prop:=
 Ext w w'/\
  (¬b5 l->v= .tuple #[.pointer ν,Δ 1])/\
  (b5 l->4096<aL l->v= .tuple #[.pointer ν,Δ 5])/\
  (b5 l->aL l<=4096->¬cw a k->v= .tuple #[.pointer ν,Δ 3])/\
  (b5 l->aL l<=4096->cw a k-> ∃g e sv,v= .tuple #[Γ g,Δ 0]/\w.heap.size<=g/\w.heap.size<=e/\(∀r,leads sv r->w.heap.size<=r)/\
   dh w' g e sv l k (p9 (aL l).toNat a))
theorem vi {k A:Int} (h:aH .i64 w sv l):ai x7 HN [sv,Δ k,Δ A] w (zN w l k A):=by
 refine aw func166 ?_;refine (I6 h).mono ?_;rintro v J _ ⟨L,Y,Z,ab⟩;obtain⟨aM,e,rfl,ac,he⟩:∃ (aM:x1) (e:Int),v= .tuple #[.agg #[aM],Δ e]/\aM.oneCell'=true/\
   ((e=1/\¬b5 l)\/(e=5/\b5 l/\4096<aL l)\/(e=0/\b5 l/\aL l<=4096/\ ∃g,w.heap.size<=g/\ap .i64 ah J g aM l)):=by
  by_cases I:b5 l
  .by_cases z:aL l<=4096
   .obtain⟨g,aM,rfl,h1,M⟩:=ab I z;exact⟨aM,0,rfl,M.ls.cells.2,.inr (.inr ⟨rfl,I,z,g,h1,M⟩)⟩
   .exact⟨_,_,Z I Ω,rfl,.inr (.inl ⟨rfl,I,Ω⟩)⟩
  .exact⟨_,_,Y I,rfl,.inl ⟨rfl,I⟩⟩
 rw[bx,bz];refine bB bw.i λaO U aP ad ae=>?_;refine b3 (vs:=[aM]) bw.i rfl rfl (by intro u hu;simp at hu;subst hu;exact ac) ae ?_;intro af ag aQ ak;have N:Ext J af:=ad.then ag (by rintro r j rfl;omega);have O:=L.trans N;simp only[bL,aj];refine⟨λam=>⟨O,?_⟩,λaR=>?_⟩
 .rcases he with⟨rfl,B⟩|⟨rfl,I,z⟩|⟨rfl,_⟩
  .exact⟨λ_=>rfl,λh=>absurd h B,λh=>absurd h B,λh=>absurd h B⟩
  .exact⟨λh=>absurd I h,λ_ _=>rfl,λ_ h=>Ω,λ_ h=>Ω⟩
  .exact absurd rfl am
 .obtain⟨rfl,I,z,gs,aS,hm⟩:e=0/\b5 l/\aL l<=4096/\ ∃g,w.heap.size<=g/\ap .i64 ah J g aM l:=by
   rcases he with⟨rfl,B⟩|⟨rfl,I,z⟩|h
   .omega
   .omega
   .exact h
  have aT:=prod_bound I;refine jG.mono ?_;rintro _ aU _ ⟨rfl,E⟩;have P:=O.trans E;simp only[bG,bY];refine⟨λaq=>⟨P,λh=>absurd I h,λ_ h=>Ω,λ_ _ _=>rfl,λ_ _ h=>by simp[h] at aq⟩,λau=>?_⟩;have av:cw A k:=by simpa using au
  simp only[cm,eo];intro Q G _ _;have ay:=P.trans G;have C:=(N.trans E).trans G;have R:=(ak.ext E).ext G;rw[bD bw.p bw.i rfl R.range,bD bw.p bw.i rfl R.range];have aV:=L.size;have aW:=C.size;have S:((aL l).toNat:Int)=aL l:=Ω
  have V:∀ {x:x3} {s:x1} {y:Nat},Ext Q x->Q.heap.size<=y->ap .i64 al x y s (p9 (aL l).toNat A)->
    aa x7 (Instr.build cX #[(0,.agg #[aM]),(1,Δ k),(2,s)]) x λaz=>ax x7 (Instr.box cX az) x λaA W=>zN w l k A (.tuple #[aA,Δ 0]) W:=by
   intro x s y q X j;rw[dp (cs:=#[aM,Δ k,s]) (by
    obtain⟨_,_,_,_,_,rfl,_⟩:=j.ls;obtain⟨_,_,_,_,_,rfl,_⟩:=hm.ls;kernel_rfl)]
   refine bm λg W aX H aB=>?_;have aY:=q.size;have aC:leads s y:=by
    obtain⟨aZ,⟨_,aD⟩|⟨cap,cs,rfl,_⟩⟩:=j
    .simp at aD;omega
    .exact⟨_,_,_,rfl,rfl⟩
   have a1:=(bP j aC).2;refine⟨(ay.trans q).trans H,λh=>absurd I h,λ_ h=>Ω,λ_ _ h=>absurd av h,λ_ _ _=>⟨g,y,aM,rfl,Ω,Ω,λr aE=>?_,⟨s,gs,aB,((hm.ext C).ext q).ext H,j.ext H⟩,⟨Ω,λaF=>?_,z⟩,I,Ξ⟩⟩
   .have:=(bP hm aE).1;omega
   .have:=bP hm aF;omega
  constructor
  .refine ep ao.u al.i rfl λeY an aG aI a K=>⟨.inl a,?_⟩;refine (oF ((hm.ext C).ext a).ls I).mono ?_;rintro _ aJ _ ⟨rfl,f⟩;refine⟨.inl (a.trans f),?_⟩;rw[<-S];refine (zM (K.ext f).ls Ω).mono ?_;rintro s x _ ⟨q,y,X,j⟩;have aK:=a.size;have aN:=f.size;exact⟨.inl ((a.trans f).trans q),V ((a.trans f).trans q) Ω j⟩
  .refine (oF (hm.ext C).ls I).mono ?_;rintro _ aG _ ⟨rfl,a⟩;refine⟨.inl a,?_⟩;refine ep ao.u al.i rfl λeY an aJ aI f K=>⟨.inl (a.trans f),?_⟩;rw[<-S];refine (zM K.ls Ω).mono ?_;rintro s x _ ⟨q,y,X,j⟩;have aK:=a.size;have aN:=f.size;exact⟨.inl ((a.trans f).trans q),V ((a.trans f).trans q) Ω j⟩
theorem nA {g:Nat} {a:List x1} {o:Nat} (h:ab w g e cs) (f:∀j v,a[j]? =σ v->cs[o+j]? =σ v):w.rangeAt g o a:=λj v p=>h.cell (f j v p)
theorem zO {g f:Nat} {t:Λ} {k:Int} {cs:Λ} (h:dh w g f sv ad k cs) (q:aH .i64 w aM t):
  ai x7 Ij [Γ g,aM] w λv w'=>v=kU ad t/\Ext w w':=by
 obtain⟨⟨aZ,gs,r,hm,s⟩,_,I,_⟩:=h;refine aw func217 ?_;rw[dn eS.u];simp only[Z5,aY];rw[bZ,aQ cX.p rfl,bD (cs:=[sv]) bw.p bw.i rfl (nA r (by
  intro j v a
  match j,a with
  |0,a=>exact a))]
 refine (zL hm.ls q I).mono ?_;rintro _ J _ ⟨rfl,e⟩;unfold kU;cases cF ad t 0 with
 |none=>rw[bx,bz];exact⟨rfl,e⟩
 |some n=>rw[bx,bz];exact⟨rfl,e⟩
def oG (ad t cs:Λ):x1:=match cF ad t 0 with
 |some n=>.tuple #[Δ (cs.getD n.toNat 0),Δ 0]
 |none=>.tuple #[Δ 0,Δ 3]
theorem zP {t cs:Λ} {n:Int} (I:b5 ad) (a:cs.length=(aL ad).toNat) (h:cF ad t 0=σ n):n=(n.toNat:Int)/\n.toNat<cs.length:=by
 have:=nz I.2 h;simp only[Int.zero_mul,Int.zero_add,Int.one_mul] at this;omega
theorem vj {g f:Nat} {t:Λ} {k:Int} {cs:Λ} (h:dh w g f sv ad k cs) (j:aH .i64 w aM t):
  ai x7 Ia [Γ g,aM] w λv w'=>v=oG ad t cs/\Ext w w':=by
 refine aw func202 ?_;refine (zO h j).mono ?_;rintro _ J _ ⟨rfl,a⟩;obtain⟨⟨aZ,gs,q,hm,r⟩,_,I,s⟩:=h.ext a;unfold kU oG;cases hi:cF ad t 0 with
 |none=>
  rw[bx,bz];simp only[bL,aj];exact⟨λ_=>⟨trivial,a⟩,λh=>by simp at h⟩
 |some n=>
  obtain⟨x,e⟩:=zP I s hi;rw[bx,bz];simp only[bL,aj];refine⟨λh=>absurd rfl h,λ_=>?_⟩;rw[aO cX.p 2 q rfl,
   fy x ao.u al.i Ψ r.ls (x6 e)]
  refine⟨?_,a⟩;rw[u4,x6 e];rfl
def sa (ad t:Λ) (k c:Int) (cs:Λ):Λ:=match cF ad t 0 with
 |some n=>if cw c k then cs.set n.toNat c else cs
 |none=>cs
def zQ (ad t:Λ) (k c:Int):Int:=match cF ad t 0 with
 |some _=>if cw c k then 0 else 3
 |none=>3
theorem I8 {g f:Nat} {t:Λ} {k c:Int} {cs:Λ} (h:dh w g f sv ad k cs) (C:aH .i64 w aM t):
  ai x7 HP [Γ g,aM,Δ c] w λv w'=>v=Δ (zQ ad t k c)/\ae (λr=>r=f) w w'/\dh w' g f sv ad k (sa ad t k c cs):=by
 refine aw func168 ?_;refine (zO h C).mono ?_;rintro _ J _ ⟨rfl,a⟩;have h1:=h.ext a;obtain⟨⟨aZ,gs,e,hm,j⟩,_,I,q⟩:=h1;unfold kU zQ sa;cases hi:cF ad t 0 with
 |none=>
  rw[bx,bz];simp only[bL,aj];exact⟨λ_=>⟨trivial,a.V _,h.ext a⟩,λh=>by simp at h⟩
 |some n=>
  obtain⟨P,Q⟩:=zP I q hi;rw[bx,bz];simp only[bL,aj];refine⟨λh=>absurd rfl h,λ_=>?_⟩;rw[aO cX.p 1 e rfl];refine jG.mono ?_;rintro _ U _ ⟨rfl,s⟩;have y:=(h.ext a).ext s;by_cases z:cw c k
  .simp only[z,decide_true,bG,Y4,aY,if_true];obtain⟨⟨aZ,gs,e,hm,j⟩,⟨E,A⟩,I,q⟩:=y;have R:=j;obtain⟨S,⟨rfl,W⟩|⟨cap,full,rfl,G,H,K,L,B⟩⟩:=j
   .omega
   .rw[aO cX.p 2 e rfl,
     zv (i:=n) ao.u al.i Ω Ω (λ_=>rfl)]
    refine bo al.i rfl rfl G Ω ?_;intro X x Y M;refine⟨trivial,((a.trans s).V _).trans x,⟨_,gs,e.V x Ω,bn hm x (λr N O=>A.1 (O▸N)),?_⟩,⟨E,A⟩,I,by simp[q]⟩;refine⟨Ξ,.inr ⟨cap,full.set (0+n.toNat*1) (Δ c),?_,M,by simpa using H,K,by simpa using L,?_⟩⟩
    .simp
    .simp only[Z2,X5,U9] at B ⊢;rw[List.take_set,B,ints,ints,U3]
  .simp only[z,decide_false,bG,W5,bS,if_false];exact⟨trivial,(a.trans s).V _,y⟩
def cz (b:Int):Bool:=decide (b=32\/b=9\/b=10\/b=13)
def bN (b:Int):Bool:=decide (33<=b/\b<=126)
def nB:Nat->Λ->List (Λ)×Bool
 |0,_=>([],true)
 |n+1,p=>
  match p.dropWhile cz with
  |[]=>([],true)
  |b::q=>
   if bN b then
    match (b::q).dropWhile bN with
    |[]=>([(b::q).takeWhile bN],true)
    |c::r=>if cz c then (((b::q).takeWhile bN)::(nB n (c::r)).1,(nB n (c::r)).2) else ([],false)
   else ([],false)
def lex (p:Λ):List (Λ)×Bool:=nB (p.length+1) p
theorem oH (f:Int->Bool):∀ (l:Λ),(l.dropWhile f).length<=l.length
 |[]=>o4 _
 |x::l=>by
  rw[List.dropWhile_cons];split
  .exact Y5 (oH f l) (Nat.le_succ _)
  .exact o4 _
theorem sb {f:Int->Bool} {x:Int} (h:f x=true):((x::l).dropWhile f).length<=l.length:=by
 rw[List.dropWhile_cons,if_pos h];exact oH f l
theorem zR:∀ {n m:Nat} {p:Λ},p.length<n->p.length<m->nB n p=nB m p
 |n+1,m+1,p,j,hm=>by
  unfold nB;have h1:=oH cz p;cases f:p.dropWhile cz with
  |nil=>rfl
  |cons b q=>
   rw[f] at h1;simp only;by_cases a:bN b=true
   .rw[if_pos a,if_pos a];have e:=sb (l:=q) a;cases h:(b::q).dropWhile bN with
    |nil=>rfl
    |cons c r=>
     rw[h] at e;simp only[Z0] at h1 e;simp only;rw[zR (n:=n) (m:=m) (p:=c::r) (by rw[Z0];omega) (by rw[Z0];omega)]
   .rw[if_neg a,if_neg a]
theorem kk (p:Λ):lex p=match p.dropWhile cz with
  |[]=>([],true)
  |b::q=>
   if bN b then
    match (b::q).dropWhile bN with
    |[]=>([(b::q).takeWhile bN],true)
    |c::r=>if cz c then (((b::q).takeWhile bN)::(lex (c::r)).1,(lex (c::r)).2) else ([],false)
   else ([],false):=by
 unfold lex
 conv=>lhs;unfold nB
 have h1:=oH cz p;cases f:p.dropWhile cz with
 |nil=>rfl
 |cons b q=>
  rw[f] at h1;simp only;by_cases a:bN b=true
  .rw[if_pos a,if_pos a];have e:=sb (l:=q) a;cases h:(b::q).dropWhile bN with
   |nil=>rfl
   |cons c r=>
    rw[h] at e;simp only[Z0] at h1 e;simp only;rw[zR (n:=p.length) (m:=(c::r).length+1) (p:=c::r) (by rw[Z0];omega) Ω]
  .rw[if_neg a,if_neg a]
theorem pV:∀ (n:Nat) (p:Λ),p.length<=n->(lex p).1.length<=p.length
 |n,p,s=>by
  rw[kk];have h1:=oH cz p;cases h:p.dropWhile cz with
  |nil=>simp
  |cons b q=>
   rw[h] at h1;simp only;by_cases a:bN b=true
   .rw[if_pos a];have e:=sb (l:=q) a;cases j:(b::q).dropWhile bN with
    |nil=>simp only[Z0,List.length_nil] at h1 ⊢;omega
    |cons c r=>
     rw[j] at e;simp only[Z0] at h1 e;simp only;by_cases f:cz c=true
     .rw[if_pos f]
      match n with
      |0=>omega
      |n+1=>
       have:=pV n (c::r) (by rw[Z0];omega);simp only[Z0] at this ⊢;omega
     .rw[if_neg f];simp
   .rw[if_neg a];simp
theorem sd:∀ (n:Nat) (p:Λ),p.length<=n-> ∀w∈(lex p).1,w≠[]/\(∀b∈w,bN b=true)/\w.length<=p.length
 |n,p,B,w,hw=>by
  rw[kk] at hw;have h1:=oH cz p;cases e:p.dropWhile cz with
  |nil=>rw[e] at hw;simp at hw
  |cons b q=>
   rw[e] at h1 hw;simp only at hw;have z:(b::q).length<=p.length:=h1;by_cases a:bN b=true
   .rw[if_pos a] at hw;have f:=sb (l:=q) a;have j:(b::q).takeWhile bN≠[]/\(∀x∈(b::q).takeWhile bN,bN x=true)/\((b::q).takeWhile bN).length<=p.length:=
     ⟨by rw[List.takeWhile_cons,if_pos a];simp,λx A=>List.all_takeWhile (l:=b::q) (p:=bN) |> List.all_eq_true.1 |> λh=>h x A,Y5 (List.takeWhile_sublist _).length_le z⟩
    cases s:(b::q).dropWhile bN with
    |nil=>
     rw[s] at hw;simp only[l9] at hw;subst hw;exact j
    |cons c r=>
     rw[s] at f hw;simp only[Z0] at h1 f;simp only at hw;by_cases y:cz c=true
     .rw[if_pos y] at hw;rcases W6.1 hw with rfl|hw
      .exact j
      .match n with
       |0=>omega
       |n+1=>
        have:=sd n (c::r) (by rw[Z0];omega) w hw;exact⟨this.1,this.2.1,Y5 this.2.2 (by rw[Z0];omega)⟩
     .rw[if_neg y] at hw;simp at hw
   .rw[if_neg a] at hw;simp at hw
def aq:Int:=4611686018427387904
def gi (b:Int):Bool:=decide (48<=b/\b<=57)
def eZ (n b:Int):Int:=min aq (10*n+(b-48))
def kl:Λ->Option Int
 |[]=>ν
 |l=>if l.all gi then σ (l.foldl eZ 0) else ν
def gj:Λ->Option Int
 |45::l=>(kl l).map λn=>-n
 |l=>kl l
theorem I9 {n b:Int} (e:0<=n) (a:gi b=true):0<=eZ n b/\eZ n b<=aq:=by
 have a:=of_decide_eq_true a;unfold eZ aq;omega
theorem se:∀ {l:Λ} {n:Int},l.all gi=true->0<=n/\n<=aq->0<=l.foldl eZ n/\l.foldl eZ n<=aq
 |[],n,_,a=>a
 |b::l,n,h,a=>by
  rw[List.all_cons,U4] at h;exact se (l:=l) h.2 (I9 a.1 h.1)
structure aD where
 toks:List (Λ)
 told:Int
 big:Bool
 shared:List (Λ×List (Λ×Int))
deriving DecidableEq
def dS (s:aD):Option (Λ×aD):=match s.toks with
 |[]=>ν
 |w::l=>σ (w,{s with toks:=l})
def bf (lo hi:Int) (s:aD):Option (Int×aD):=match dS s with
 |none=>ν
 |some (w,s)=>match gj w with
  |none=>ν
  |some n=>if lo<=n/\n<=hi then σ (n,s) else ν
def bb (b:Bool) (s:aD):aD:={s with big:=s.big||b}
def cQ {α:Type} (f:List α->aD->Option (α×aD)):Nat->List α->aD->Option (List α×aD)
 |0,acc,s=>σ (acc,s)
 |n+1,acc,s=>match f acc s with
  |none=>ν
  |some (a,s)=>cQ f n (acc++[a]) s
def e0 (n:Int) (a:Nat) (s:aD):Option (Λ×aD):=cQ (λacc s=>match bf 0 (n-1) s with
 |none=>ν
 |some (v,s)=>if v∈acc then ν else σ (v,s)) a [] s
def iI:Λ->Λ->aD->Option (Λ×aD)
 |[],acc,s=>σ (acc,s)
 |k::l,acc,s=>match bf 0 (k-1) s with
  |none=>ν
  |some (v,s)=>iI l (acc++[v]) s
def dT (sizes:Λ) (acc:List (Λ×Int)) (s:aD):Option ((Λ×Int)×aD):=match iI sizes [] s with
 |none=>ν
 |some (t,s)=>match bf 0 aq s with
  |none=>ν
  |some (c,s)=>if t∈acc.map (·.1) then ν else σ ((t,c),s)
def dU (sizes:Λ) (s:aD):Option (List (Λ×Int)×aD):=match bf (-aq) aq s with
 |none=>ν
 |some (n,s)=>
  if n<0 then match s.shared[(-n-1).toNat]? with
   |none=>ν
   |some (z,l)=>if z=sizes then σ (l,s) else ν
  else cQ (dT sizes) n.toNat [] (bb (decide (16384<min (s.told+n) aq)) {s with told:=min (s.told+n) aq})
def dv (sizes:Λ):Bool:=decide (4096<aL (sizes.map λk=>min k 4097))
structure cv where
 scope:Λ
 sizes:Λ
 other:Int
 lines:List (Λ×Int)
deriving DecidableEq
def dc (all:Λ) (s:aD):Option (cv×aD):=match bf (-aq) aq s with
 |none=>ν
 |some (a,s)=>match e0 all.length a.natAbs s with
  |none=>ν
  |some (scope,s)=>
   let sizes:=scope.map λv=>all.getD v.toNat 0
   match bf 0 aq (bb (decide (6<a.natAbs)||dv sizes) s) with
   |none=>ν
   |some (other,s)=>match dU sizes s with
    |none=>ν
    |some (lines,s)=>σ (⟨scope,sizes,other,lines⟩,if a<0 then {s with shared:=s.shared++[(sizes,lines)]} else s)
def fO (most:Int) (_:Λ) (s:aD):Option (Int×aD):=match bf 1 most s with
 |none=>ν
 |some (z,s)=>σ (z,bb (decide (32<z)) s)
structure b6 where
 name:Λ
 k:Int
 sizes:Λ
 funs:List cv
deriving DecidableEq
def hR (s:aD):Option (b6×aD):=match dS s with
 |none=>ν
 |some (name,s)=>match bf 1 aq (bb (decide (64<name.length)) s) with
  |none=>ν
  |some (n,s)=>match bf 1 aq (bb (decide (64<n)) s) with
   |none=>ν
   |some (most,s)=>match bf 0 aq s with
    |none=>ν
    |some (a,s)=>match bf 1 aq (bb (decide (256<a)) s) with
     |none=>ν
     |some (k,s)=>match cQ (fO most) n.toNat [] (bb (decide (2147483648<k)) s) with
      |none=>ν
      |some (sizes,s)=>match cQ (λ_ s=>dc sizes s) a.toNat [] s with
       |none=>ν
       |some (funs,s)=>σ (⟨name,k,sizes,funs⟩,s)
def gk (p:Λ):Option b6:=if 65536<p.length then ν else match hR ⟨(lex p).1,0,false,[]⟩ with
 |none=>ν
 |some (f,s)=>if s.toks=[]/\(lex p).2=true/\s.big=false then σ f else ν
def my (n:Int) (a:Bool) (v:Int):Prop:=0<=n/\n<=4611686018427387909/\(a=true->v=aq)/\(a=false->v=min aq n)
theorem Ja {n b v:Int} {a:Bool} (h:my n a v) (q:48<=b/\b<=57):
  my (if a=true\/461168601842738790<n then n else 10*n+(b-48)) (a||decide (461168601842738790<n)) (eZ v b):=by
 obtain⟨h1,f,j,p⟩:=h;unfold eZ my aq at*;cases a with
 |true=>
  have:=j rfl;rw[if_pos (.inl rfl)];exact⟨h1,f,λ_=>Ω,λh=>by cases h⟩
 |false=>
  have:=p rfl;by_cases e:461168601842738790<n
  .rw[if_pos (.inr e),decide_eq_true e];exact⟨h1,f,λ_=>Ω,λh=>by cases h⟩
  .rw[if_neg (by simp[e]),decide_eq_false e];exact⟨Ω,Ω,(λh=>by cases h),λ_=>Ω⟩
theorem Jb:my 0 false 0:=by unfold my aq;exact⟨Ω,Ω,(λh=>by cases h),λ_=>Ω⟩
theorem Jc {n v:Int} {a:Bool} (h:my n a v):v=if a=true\/4611686018427387904<n then 4611686018427387904 else n:=by
 obtain⟨h1,p,f,j⟩:=h;unfold aq at*;cases a with
 |true=>rw[if_pos (.inl rfl)];exact f rfl
 |false=>
  have:=j rfl;by_cases e:4611686018427387904<n
  .rw[if_pos (.inr e)];omega
  .rw[if_neg (by simp[e])];omega
structure Cell where
 v:Int
 st:Nat
structure kW where
 i:Nat
 c:Cell
structure sf where
 olds:Nat
 cells:Nat
 st:Nat
structure aC where
 cells:List Cell
 olds:List kW
 marks:List sf
 iJ:Nat
def aC.bK (t:aC):Λ:=t.cells.map (·.v)
def aC.set (t:aC) (i:Nat) (x:Int):aC:=match t.cells[i]? with
 |none=>t
 |some c=>match t.marks.getLast? with
  |none=>{t with cells:=t.cells.set i ⟨x,c.st⟩}
  |some m=>if c.st<m.st/\i<m.cells then {t with olds:=t.olds++[⟨i,c⟩],cells:=t.cells.set i ⟨x,m.st⟩} else {t with cells:=t.cells.set i ⟨x,c.st⟩}
def aC.grow (t:aC) (n:Nat):aC:={t with cells:=t.cells++p9 n ⟨0,0⟩}
def back (os:List kW) (cs:List Cell):List Cell:=os.foldr (λo cs=>cs.set o.i o.c) cs
theorem pW:∀ (os:List kW) (cs:List Cell),(back os cs).length=cs.length
 |[],_=>rfl
 |o::os,cs=>by
  have:=pW os cs;show ((back os cs).set o.i o.c).length=_;rw[Z2,this]
theorem back_append (a b:List kW) (cs:List Cell):back (a++b) cs=back a (back b cs):=by unfold back;rw[List.foldr_append]
theorem vk:∀ {os:List kW} {cs:List Cell} {n:Nat},(back os cs).take n=back (os.filter λo=>decide (o.i<n)) (cs.take n)
 |[],cs,n=>rfl
 |o::os,cs,n=>by
  show ((back os cs).set o.i o.c).take n=_;by_cases h:o.i<n
  .rw[List.filter_cons_of_pos (by simpa using h),List.take_set,vk];rfl
  .rw[List.filter_cons_of_neg (by simpa using h),List.take_set_of_le Ω,vk]
theorem zS {os:List kW} {cs:List Cell} (h:∀o∈os,o.i<n):(back os cs).take n=back os (cs.take n):=by
 rw[vk,List.filter_eq_self.2 λo a=>by simpa using h o a]
theorem zT:∀ {os:List kW} {cs a:List Cell} {i:Nat},cs.length=a.length->(∃o∈os,o.i=i)->(back os cs)[i]? =(back os a)[i]?
 |[],_,_,_,_,⟨_,h,_⟩=>by cases h
 |o::os,cs,a,i,f,hm=>by
  show ((back os cs).set o.i o.c)[i]? =((back os a).set o.i o.c)[i]?;rw[X1,X1];by_cases h:o.i=i
  .rw[if_pos h,if_pos h,pW,pW,f]
  .rw[if_neg h,if_neg h];obtain⟨x,e,he⟩:=hm;rcases W6.1 e with rfl|e
   .exact absurd he h
   .exact zT f ⟨x,e,he⟩
theorem zU:∀ {os:List kW} {cs a:List Cell} {i:Nat},cs[i]? =a[i]? ->cs.length=a.length->(back os cs)[i]? =(back os a)[i]?
 |[],_,_,_,h,_=>h
 |o::os,cs,a,i,h,e=>by
  show ((back os cs).set o.i o.c)[i]? =((back os a).set o.i o.c)[i]?;rw[X1,X1,pW,pW,e,zU h e]
def er:aC->List aC->Prop
 |t,[]=>t.marks=[]/\t.olds=[]/\ ∀c∈t.cells,c.st<=t.iJ
 |t,s::h=>er s h/\(∀c∈t.cells,c.st<=t.iJ)/\ ∃m new,t.marks=s.marks++[m]/\m.olds=s.olds.length/\m.cells=s.cells.length/\t.olds=s.olds++new/\m.cells<=t.cells.length/\(back new t.cells).take m.cells=s.cells/\
   (∀c∈s.cells,c.st<m.st)/\(∀c∈t.cells,c.st<=m.st)/\(∀ (i:Nat) c,i<m.cells->t.cells[i]? =σ c->c.st=m.st-> ∃o∈new,o.i=i)/\(∀o∈new,o.i<m.cells)/\m.st<=t.iJ/\s.iJ<=t.iJ
theorem er.grow {h:List aC} {t:aC} (hk:er t h):er (t.grow n) h:=by
 cases h with
 |nil=>
  refine⟨hk.1,hk.2.1,λc a=>?_⟩;rcases l7.1 a with a|a
  .exact hk.2.2 c a
  .rw[(List.mem_replicate.1 a).2];exact X3 _
 |cons s h=>
  obtain⟨h1,j,m,new,p,q,a3,a4,a5,r,w,x,a9,e,y,z⟩:=hk;have f:∀ {b:Nat},(∀c∈t.cells,c.st<=b)-> ∀c∈(t.grow n).cells,c.st<=b:=λA c a=>by
   rcases l7.1 a with a|a
   .exact A c a
   .rw[(List.mem_replicate.1 a).2];exact X3 _
  refine⟨h1,f j,m,new,p,q,a3,a4,by show m.cells<=(t.cells++_).length;rw[p8];omega,?_,w,f x,λi c hi a he=>?_,e,y,z⟩
  .show (back new (t.cells++_)).take m.cells=_;rw[zS e,List.take_append_of_le_length a5,<-zS e];exact r
  .have a:(t.cells++p9 n ⟨0,0⟩)[i]? =σ c:=a;rw[Z8 Ω] at a;exact a9 i c hi a he
theorem Jd {s:aC} {m:sf} {l:List sf} (h:l=s.marks++[m]):l.getLast? =σ m:=by rw[h,List.getLast?_concat]
theorem er.set {h:List aC} {t:aC} {i:Nat} {x:Int} (hk:er t h):er (t.set i x) h:=by
 unfold aC.set;cases q:t.cells[i]? with
 |none=>exact hk
 |some c=>
  have F:=(x4.1 q).1;have y:=x5 q;have r:∀ {b st:Nat},(∀c∈t.cells,c.st<=b)->st<=b-> ∀d∈t.cells.set i ⟨x,st⟩,d.st<=b:=λM B d a=>by
   rcases X6 a with a|rfl
   .exact M d a
   .exact B
  cases h with
  |nil=>
   obtain⟨h1,w,G⟩:=hk;simp only[h1,List.getLast?_nil];exact⟨rfl,w,r G (G c y)⟩
  |cons s h=>
   obtain⟨h1,w,m,new,C,H,a3,a4,a5,I,J,z,a9,K,E,L⟩:=hk;simp only[Jd C];by_cases A:c.st<m.st/\i<m.cells
   .rw[if_pos A];refine⟨h1,r w E,m,new++[⟨i,c⟩],C,H,a3,by show t.olds++_=_;rw[a4,c9],by show m.cells<=(t.cells.set i _).length;rw[Z2];exact a5,?_,J,r z (o4 _),λj d e a he=>?_,λo p=>?_,E,L⟩
    .show (back (new++[⟨i,c⟩]) (t.cells.set i _)).take m.cells=_;rw[back_append];have:back [⟨i,c⟩] (t.cells.set i ⟨x,m.st⟩)=t.cells:=by
      show (t.cells.set i _).set i c=_;rw[List.set_set];refine Y2 λj=>?_;rw[X1];by_cases e:i=j
      .subst e;rw[if_pos rfl,if_pos F,q]
      .rw[if_neg e]
     rw[this];exact I
    .have a:(t.cells.set i ⟨x,m.st⟩)[j]? =σ d:=a;by_cases f:i=j
     .exact⟨⟨i,c⟩,Ξ,f⟩
     .rw[X1,if_neg f] at a;obtain⟨o,p,he⟩:=a9 j d e a he;exact⟨o,List.mem_append_left _ p,he⟩
    .rcases l7.1 p with p|p
     .exact K o p
     .rw[l9.1 p];exact A.2
   .rw[if_neg A];refine⟨h1,r w (w c y),m,new,C,H,a3,a4,by show m.cells<=(t.cells.set i _).length;rw[Z2];exact a5,?_,J,r z (z c y),λj d e a he=>?_,K,E,L⟩
    .rw[<-I];show (back new (t.cells.set i _)).take m.cells=_;refine Y2 λj=>?_;by_cases e:j<m.cells
     .rw[Y8 e,Y8 e];by_cases f:i=j
      .subst f;have B:c.st=m.st:=by
        have:=z c y;have:¬c.st<m.st:=λaz=>A ⟨az,e⟩;omega
       exact zT (by rw[Z2]) (a9 i c e q B)
      .exact zU (by rw[X1,if_neg f]) (by rw[Z2])
     .rw[Z3 (by rw[j5];omega),Z3 (by rw[j5];omega)]
    .have a:(t.cells.set i ⟨x,c.st⟩)[j]? =σ d:=a;by_cases f:i=j
     .subst f;rw[X1,if_pos rfl,if_pos F] at a;cases a;exact a9 i c e q he
     .rw[X1,if_neg f] at a;exact a9 j d e a he
theorem aC.pX {t:aC} {i:Nat} {x:Int}:(t.set i x).bK=t.bK.set i x:=by
 unfold aC.set aC.bK;cases a:t.cells[i]? with
 |none=>rw[List.set_eq_of_length_le (by rw[u7];exact List.getElem?_eq_none_iff.1 a)]
 |some c=>
  simp only;cases t.marks.getLast? with
  |none=>simp only;rw[U3]
  |some m=>simp only;split<;>rw[U3]
theorem aC.Je {t:aC}:(t.grow n).bK=t.bK++p9 n 0:=by
 unfold aC.grow aC.bK;rw[j6,List.map_replicate]
end Go.Proofs.YtjjhhcfgfdepdaaGreatDoor
