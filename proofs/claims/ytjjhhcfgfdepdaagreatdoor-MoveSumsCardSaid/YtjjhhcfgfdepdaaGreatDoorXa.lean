/- own texts, made small by a tool (wip/ holds them as they were written): no statement of the seat. -/
import Derived.RangeFuncNested
import Derived.RangeFuncLeaves
import Derived.OrdersIn
import Derived.KernelRfl
import Derived.Deep.Upon
import Derived.RangeFuncBound
import Derived.Deep.MidRow
import Derived.Laws.Cover3
import Derived.Laws.Pointers
import Derived.Laws.StructEq
import Derived.Laws.Tables
import Derived.Below
import Derived.Laws.MakeOwn
import Derived.Lib.Overlaps
import Derived.Lib.AppendZerosOnto
import Derived.Lib.SliceRun
import Derived.OpenShut
import Derived.Lib.ConvBytes
import Derived.Laws.BytesArg
import Derived.Laws.Concat
import Derived.MapKept
import Derived.Carry
import Derived.WideKeyArr
import Derived.WideKeyMaps
import Derived.Laws.IdiomRangeMap
import Derived.Shelf.SlSortCmp.NoneTotal
import Derived.Shelf.SlSortCmp.WholeK
import Derived.Ground.SlsfProg
import Derived.WideKeyEntry
import Derived.WalkKit
import Derived.Test.YtjjhhcfgfdepdaaGreatDoorProg
import Derived.Test.YtjjhhcfgfdepdaaGreatDoorChecked
set_option linter.unusedVariables false
set_option linter.unusedSimpArgs false
set_option linter.unnecessarySimpa false
open Array renaming getElem?_eq_some_iff→j0,getElem?_toList→S9
open BitVec renaming ofInt→T1
open Bool renaming not_true→Y5,not_false→V0,and_eq_true→T0,or_eq_false_iff→S7
open Decidable renaming not_not→Y7
open Go renaming Value→x1,World→x3,TypeId→r9,IntKind→o6,Builtin→Z3,Program→W9,Oper→T6,Operand→S5,FuncId→Q0
open Go.Addr renaming add_mid→S2
open Go.Builtin renaming append_→b9,len_→V3
open Go.Instr renaming loadAt→u5,fieldAt→u6,storeAt→o5,indexAt→c8,extract→Z8,buildSlice→Y4,sliceAt→U2,alloc→S0
open Go.IntKind renaming i64→X7,u64→U8
open Go.Proofs.Tryz renaming prog→x7
open Go.Result renaming andThen→W8
open Go.Sem renaming run_bind→W6,run_pure→V4
open Go.Sort renaming Holds→S6
open Go.Value renaming int→V5
open Go.World renaming putObj_heap_other→Q1
open Int renaming toNat_natCast→r8,eq_ofNat_of_zero_le→U5
open List renaming getElem?_eq_some_iff→x4,mem_of_getElem?→x5,getElem?_eq_getElem→x6,getElem?_map→x8,getD_eq_getElem?_getD→u4,length_map→u7,take_add_one→u9,length_append→p8,replicate→p9,take_length→o7,take_of_length_le→o9,mem_singleton→n9,mem_map→l7,mem_append→l9,length_take→j5,map_append→j6,getElem?_set_self→j9,append_assoc→c9,length_cons→b8,eq_nil_of_length_eq_zero→Z0,getElem?_eq_none→Z4,length_set→Z5,getElem?_set_ne→Y0,ext_getElem?→Y6,getElem?_append_left→Y8,getElem?_append_right→X1,getElem?_take_of_lt→X4,getElem?_set→X6,mem_or_eq_of_mem_set→W3,drop_eq_getElem_cons→W5,append_nil→W7,mem_cons→V1,length_eq_one_iff→V2,range→V6,map_cons→V7,map_set→U9,set_append_right→T8,mem_of_mem_take→T9,getElem?_eq_none_iff→S4,getElem_mem→Q4
open Nat renaming le_refl→o4,le_trans→X0,mul_le_mul_right→X5,zero_le→X8,zero_add→W0,add_mul→U4,sub_self→U7,mul_one→T5,beq→S1,add_assoc→R7,lt_of_lt_of_le→Q2,eq_zero_or_pos→Q3
open Ne renaming symm→S8
open Option renaming toList_some→o8,map_some→Z6,isNone_some→Z7,getD_some→V8,map→U6
open Option.some renaming injEq→Y3
open Prod.mk renaming injEq→T2
set_option maxHeartbeats 16000000
open Option renaming some→σ,none→ν
abbrev Λ:=List Int
namespace Go
theorem Ω{p:Prop}(h:p:=by omega):p:=h
theorem Ψ{p:Prop}(h:p:=by kernel_rfl):p:=h
theorem Φ{p:Prop}(h:p:=by decide):p:=h
theorem Ξ{p:Prop}(h:p:=by simp):p:=h
theorem Θ{p:Prop}(h:p:=by simp;omega):p:=h
abbrev Γ(n:Nat):Value:=.pointer (some ⟨n,0,none⟩)
abbrev Δ:Int→Value:=Value.int .i64
end Go
variable {a y:Int}{c w w':x3}{S:Nat->Prop}{N h j m n:Nat}{aL f sv v z:x1}{args cs vs xs:List x1}{K:x1->Prop}{ac l:Λ}{D:List Nat}{k:o6}{e t:r9}{cx cy:Bool}
namespace Go.Vc
open Go Go.RowKit
def fs:Obj->Bool
 | .loop _=>false
 | .deferred _=>false
 | .mapIter ..=>false
 |_=>true
def book:Obj->Bool
 | .loop _=>true
 | .deferred _=>true
 |_=>false
theorem xD {o:Obj} (h:book o=true):fs o=false:=by cases o<;>first|rfl|cases h
def rj:Obj->Bool
 | .mapIter ..=>true
 |_=>false
theorem E5 {o:Obj} (h:rj o=true):fs o=false:=by cases o<;>first|rfl|cases h
structure Ext (w w':x3):Prop where
 size:w.heap.size<=w'.heap.size
 aV:∀ (r:Nat) (o:Obj),w.heap[r]? =σ o->fs o=true->w'.heap[r]? =σ o
theorem Ext.refl (w:x3):Ext w w:=⟨o4 _,λ_ _ h _=>h⟩
theorem Ext.trans {a b:x3} (h:Ext a b) (k:Ext b c):Ext a c:=
 ⟨X0 h.size k.size,λr o e I=>k.aV r o (h.aV r o e I) I⟩
structure ae (S:Nat->Prop) (w w':x3):Prop where
 size:w.heap.size<=w'.heap.size
 aV:∀ (r:Nat) (o:Obj),w.heap[r]? =σ o->fs o=true->¬S r->w'.heap[r]? =σ o
theorem Ext.U (S:Nat->Prop) (h:Ext w w'):ae S w w':=⟨h.size,λr o a I _=>h.aV r o a I⟩
theorem ae.ext (h:ae S w w') (e:∀r,r<w.heap.size->¬S r):Ext w w':=
 ⟨h.size,λr o a I=>h.aV r o a I (e r (j0.1 a).1)⟩
theorem ae.refl (S:Nat->Prop) (w:x3):ae S w w:=⟨o4 _,λ_ _ h _ _=>h⟩
theorem ae.trans {a b:x3} (h:ae S a b) (k:ae S b c):ae S a c:=
 ⟨X0 h.size k.size,λr o f I e=>k.aV r o (h.aV r o f I e) I e⟩
theorem ae.mono {T:Nat->Prop} {a b:x3} (h:ae S a b) (f:∀r,r<a.heap.size->S r->T r):ae T a b:=
 ⟨h.size,λr o e I j=>h.aV r o e I λp=>j (f r (j0.1 e).1 p)⟩
theorem Ext.then {a b:x3} (h:Ext a b) (k:ae S b c) (f:∀r,r<a.heap.size->¬S r):Ext a c:=
 ⟨X0 h.size k.size,λr o e I=>k.aV r o (h.aV r o e I) I (f r (j0.1 e).1)⟩
def jy (w w':x3):Prop:=w'.tape=w.tape/\w.drawn<=w'.drawn
theorem jy.ka (h:w'.tape=w.tape:=by rfl) (k:w'.drawn=w.drawn:=by rfl):jy w w':=⟨h,Nat.le_of_eq k.symm⟩
theorem jy.trans {a b:x3} (k:jy b c) (h:jy a b):jy a c:=⟨k.1.trans h.1,X0 h.2 k.2⟩
structure cM (w w':x3):Prop where
 os:w'.os=w.os
 tape:jy w w'
 output:w'.output=w.output
 size:w.heap.size<=w'.heap.size
 aV:∀ (r:Nat) (o:Obj),w.heap[r]? =σ o->fs o=false->w'.heap[r]? =σ o
structure cB (n:Nat) (w w':x3):Prop where
 os:w'.os=w.os
 tape:jy w w'
 output:w'.output=w.output
 size:w.heap.size<=w'.heap.size
 aV:∀ (r:Nat) (o:Obj),w.heap[r]? =σ o->book o=true->w'.heap[r]? =σ o
 old:∀ (r:Nat) (o:Obj),r<n->w.heap[r]? =σ o->fs o=false->w'.heap[r]? =σ o
theorem cM.b (h:cM w w'):cB n w w':=⟨h.os,h.tape,h.output,h.size,λr o a I=>h.aV r o a (xD I),λr o _ a I=>h.aV r o a I⟩
theorem cB.refl (n:Nat) (w:x3):cB n w w:=⟨rfl,.ka,rfl,o4 _,λ_ _ h _=>h,λ_ _ _ h _=>h⟩
theorem cB.trans {a b:x3} (h:cB n a b) (k:cB n b c):cB n a c:=
 ⟨k.os.trans h.os,k.tape.trans h.tape,k.output.trans h.output,X0 h.size k.size,λr o e I=>k.aV r o (h.aV r o e I) I,λr o f e I=>k.old r o f (h.old r o f e I) I⟩
theorem cB.cq (h:cB n w w') (e:w.heap.size<=n):cM w w':=
 ⟨h.os,h.tape,h.output,h.size,λr o a I=>h.old r o (Q2 (j0.1 a).1 e) a I⟩
structure ft (n:Nat) (w w':x3):Prop where
 os:w'.os=w.os
 tape:jy w w'
 output:w'.output=w.output
 size:w.heap.size<=w'.heap.size
 old:∀ (r:Nat) (o:Obj),r<n->w.heap[r]? =σ o->fs o=false->w'.heap[r]? =σ o
theorem cB.o (h:cB n w w'):ft n w w':=⟨h.os,h.tape,h.output,h.size,h.old⟩
theorem cM.o (h:cM w w'):ft n w w':=⟨h.os,h.tape,h.output,h.size,λr o _ a I=>h.aV r o a I⟩
theorem ft.mono (h:ft n w w') (hm:m<=n):ft m w w':=⟨h.os,h.tape,h.output,h.size,λr o a=>h.old r o (Q2 a hm)⟩
theorem cB.xE {a b:x3} (h:cB n a b) (k:ft m b c) (hm:a.heap.size<=m):cB n a c:=
 ⟨k.os.trans h.os,k.tape.trans h.tape,k.output.trans h.output,X0 h.size k.size,
  λr o e I=>k.old r o (Q2 (j0.1 e).1 hm) (h.aV r o e I) (xD I),
  λr o f e I=>k.old r o (Q2 (j0.1 e).1 hm) (h.old r o f e I) I⟩
def eU (w w':x3):Prop:=∀ (r:Nat) (o:Obj),w.heap[r]? =σ o->rj o=true->w'.heap[r]? =σ o
theorem eU.refl (w:x3):eU w w:=λ_ _ h _=>h
theorem eU.trans {a b:x3} (h:eU a b) (k:eU b c):eU a c:=λr o e I=>k r o (h r o e I) I
theorem cM.kb (h:cM w w'):eU w w':=λr o a I=>h.aV r o a (E5 I)
abbrev fu:=Bool×Nat
theorem cM.refl (w:x3):cM w w:=⟨rfl,.ka,rfl,o4 _,λ_ _ h _=>h⟩
theorem cM.trans {a b:x3} (h:cM a b) (k:cM b c):cM a c:=
 ⟨k.os.trans h.os,k.tape.trans h.tape,k.output.trans h.output,X0 h.size k.size,λr o e I=>k.aV r o (h.aV r o e I) I⟩
theorem rk (w:x3) (n:Nat):Ext w {w with drawn:=n}:=⟨o4 _,λ_ _ h _=>h⟩
theorem pz (w:x3) (n:Nat) (h:w.drawn<=n):cM w {w with drawn:=n}:=⟨rfl,⟨rfl,h⟩,rfl,o4 _,λ_ _ h _=>h⟩
theorem pA (w:x3) (o:Obj):Ext w {w with heap:=w.heap.push o}:=
 ⟨Ξ,λr o' h _=>by
  have a:=(j0.1 h).1;simp only[Array.getElem?_push];rw[if_neg Ω];exact h⟩
theorem pB (w:x3) (o:Obj):cM w {w with heap:=w.heap.push o}:=
 ⟨rfl,.ka,rfl,Ξ,λr o' h _=>by
  have a:=(j0.1 h).1;simp only[Array.getElem?_push];rw[if_neg Ω];exact h⟩
inductive ev where
 |v (x:x1)
 |b (c:Bool)
 |u
def ev.val:ev->x1
 | .v x=>x
 | .b c=>.bool c
 | .u=>undef
def ev.ofConst:x1->ev
 | .bool c=>.b c
 |x=>.v x
theorem ev.E6 (x:x1):(ev.ofConst x).val=x:=by cases x<;>rfl
abbrev Env:=List (Nat×ev)
def look:Env->Nat->Option ev
 |[],_=>ν
 |(s,x)::r,t=>bif S1 s t then σ x else look r t
def eF (e:Env):S5->Option ev
 | .tmp t=>look e t
 | .const x=>σ (ev.ofConst x)
 | .global g=>σ (.v (Γ g))
 | .func f=>σ (.v (.func (.func f) #[] #[]))
def cV (e:Env) (x:S5):x1:=
 match eF e x with
 |some y=>y.val
 |none=>undef
def known (e:Env):List S5->Bool
 |[]=>true
 |x::r=>(eF e x).isSome&&known e r
def S6 (N:Nat) (e:Env) (a:Act):Prop:=
 a.tmps.size=N/\ ∀t x,look e t=σ x->a.tmps.getD t undef=x.val
theorem S6.eF {e:Env} {a:Act} (h:S6 N e a) {x:S5} {y:ev} (j:Vc.eF e x=σ y):a.eval x=y.val:=by
 cases x with
 |tmp t=>exact h.2 t y j
 |const v=>simp[Vc.eF] at j;subst j;simp[Act.eval,ev.E6]
 |global g=>simp[Vc.eF] at j;subst j;rfl
 |func f=>simp[Vc.eF] at j;subst j;rfl
theorem S6.eval {e:Env} {a:Act} (h:S6 N e a) {x:S5} (j:(Vc.eF e x).isSome=true):a.eval x=cV e x:=by
 obtain⟨y,f⟩:=Option.isSome_iff_exists.1 j;rw[h.eF f];simp[cV,f]
theorem ue {e:Env}:∀ {l:List S5},known e l=true-> ∀x∈l,(eF e x).isSome=true
 |[],_,_,a=>by cases a
 |y::r,h,x,a=>by
  simp only[known,T0] at h;cases a with
  |head=>exact h.1
  |tail _ a=>exact ue h.2 x a
def dW (e:Env) (d:Option Tmp) (x:ev):Env:=
 match d with
 |some t=>(t,x)::e
 |none=>e
def jz (N:Nat) (d:Option Tmp):Bool:=
 match d with
 |some t=>Nat.blt t N
 |none=>true
theorem S6.put {e:Env} {a:Act} (h:S6 N e a) {d:Option Tmp} (p:jz N d=true) {x:ev} (q:x.val=v):
  S6 N (dW e d x) (a.put d v):=by
 cases d with
 |none=>exact h
 |some t=>
  have r:t<N:=by simpa[jz,Nat.blt_eq] using p
  refine⟨by simp[Act.put,h.1],λs y I=>?_⟩;simp only[dW,look] at I;cases f:S1 t s with
  |true=>
   have j:t=s:=Nat.eq_of_beq_eq_true f;subst j;simp only[f,cond_true,Y3] at I;subst I;simp[Act.put,h.1,r,q]
  |false=>
   have j:t≠s:=Nat.ne_of_beq_eq_false f;simp only[f,cond_false] at I;have:=h.2 s y I;simp only[Act.put,Array.getD_eq_getD_getElem?] at this ⊢;rw[Array.getElem?_setIfInBounds_ne j];exact this
def et (r:Option Nat):Fence:={Fence.wide with round:=r}
theorem uf (r:Option Nat) (n:Nat):(et r).depth.isSome=true->1<=n:=λh=>by simp[et,Fence.wide] at h
theorem xF {r:Option Nat} {P:W9} {f:Q0} {args:Array x1} {R:Ending->x3->Prop}
  (h:Calls P f args w R):CallsIn (et r) n P f args w R:=by
 have:=(callsIn_wide (n:=n)).2 h;exact this
section
variable (P:W9)
def av {α:Type} (s:Sem α) (w:x3) (K:α->x3->Prop):Prop:=∃v w',s.run P w= .ok v w'/\cM w w'/\K v w'
def rl {α:Type} (free:fu) (s:Sem α) (w:x3) (K:α->x3->Prop):Prop:=∃v w',s.run P w= .ok v w'/\(free.1=false->cB free.2 w w')/\K v w'
def Split (x:x1) (A B:Prop):Prop:=∃c,x= .bool c/\(c=true->A)/\(c=false->B)
def aY:Bool->S5
 |true=>.const (.bool true)
 |false=>.tmp 0
def oj:S5->Bool
 | .const _=>true
 |_=>false
theorem E7 (op:BinOp) (t:r9) (x y:S5) (a b:x1):eqGuard op t x y a b=eqGuard op t (aY (oj x)) (aY (oj y)) a b:=by
 cases x<;>cases y<;>rfl
def aJ (op:BinOp) (t:r9) (cx cy:Bool) (a b:x1):Sem x1:=do eqGuard op t (aY cx) (aY cy) a b;binOp op t a b
def rm (s:Sem Next):Sem x1:=do
 match <-s with
 | .value v=>pure v
 |_=>stuck "no value"
def bN (x:x1):Sem x1:=rm (execOp (λ_=>x) {dst:=ν,op:=.nilCheck (.tmp 0),type:=0,pos:= "",after:=#[],guard:=ν})
def bD (a:S5->x1):List S5->List x1
 |[]=>[]
 |x::r=>a x::bD a r
theorem rn (a:S5->x1):∀l,bD a l=l.map a
 |[]=>rfl
 |x::r=>by simp[bD,rn a r]
theorem ug (a:S5->x1) (l:Array S5):(bD a l.toList).toArray=l.map a:=by
 apply Array.toList_inj.1;simp[rn]
def partsOf (a:S5->x1):List (Nat×S5)->List (Nat×x1)
 |[]=>[]
 |x::r=>(x.1,a x.2)::partsOf a r
theorem xG (a:S5->x1):∀l,partsOf a l=l.map λ(i,x)=>(i,a x)
 |[]=>rfl
 |x::r=>by simp[partsOf,xG a r]
theorem E8 (a:S5->x1) (l:Array (Nat×S5)):(partsOf a l.toList).toArray=l.map λ(i,x)=>(i,a x):=by
 apply Array.toList_inj.1;simp[xG]
def opsOf:Op->List S5
 | .alloc _| .ready _| .waits _=>[]
 | .move x| .assign x| .box _ x| .load _ x| .nilCheck x| .unOp _ _ x| .convert _ _ x| .sliceToArrayPointer _ x| .makeInterface _ x
 | .makeChan _ x| .fieldAddr _ x _| .field _ x _| .range _ x| .next x _| .entry x| .typeAssert x _ _ _| .extract x _| .panic x| .recv _ x _=>[x]
 | .pick c a b=>[c,a,b]
 | .build _ e| .buildSlice _ _ e=>e.toList.map (·.2)
 | .store _ a v| .binOp _ _ a v _| .makeSlice _ a v| .indexAddr _ a v| .index _ a v| .lookup _ a v _| .mapEntry _ a v| .send a v=>[a,v]
 | .makeFunc _ first j=>first.toList++j.toList
 | .makeMap _ r=>match r with
  |some x=>[x]
  |none=>[]
 | .slice _ x l h m=>x::((match l with
  |some y=>[y]
  |none=>[])++((match h with
  |some y=>[y]
  |none=>[])++(match m with
  |some y=>[y]
  |none=>[])))
 | .mapUpdate _ m k v| .entryStore _ m k v| .insert _ m k v=>[m,k,v]
 | .call c=>match c.callee with
  | .value f=>f::c.args.toList
  | .invoke r _=>r::c.args.toList
  | .builtin _=>c.args.toList
 | .go _| .defer _| .select ..=>[]
theorem E9 {op:Op} (h1:∀c,op≠ .go c) (e:∀c,op≠ .defer c) (f:∀cs b,op≠ .select cs b):∀x∈op.operands,x∈opsOf op:=by
 intro x a;cases op<;>simp only[Op.operands,opsOf] at a ⊢<;>try (first|(simp at a;done)|(simp at a ⊢;exact a))
 case go c=>exact absurd rfl (h1 c)
 case defer c=>exact absurd rfl (e c)
 case select cs b=>exact absurd rfl (f cs b)
 case makeMap t r=>cases r<;>simp at a ⊢<;>exact a
 case slice t y l h m=>cases l<;>cases h<;>cases m<;>simpa[or_assoc] using a
 case call c=>cases j:c.callee<;>simpa[Call.operands,j] using a
def pC (e:S5->x1):Op->Option (Sem x1)
 | .pick c a b=>σ (do pure (if <-asBool (e c) then e a else e b))
 | .alloc j=>σ (S0 j true (.tuple #[]))
 | .box j x=>σ (Instr.box j (e x))
 | .build t parts=>σ (Instr.build t (partsOf e parts.toList).toArray)
 | .buildSlice t len parts=>σ (Y4 t len (partsOf e parts.toList).toArray)
 | .load t a=>σ (u5 t (e a))
 | .nilCheck x=>σ (bN (e x))
 | .binOp op gG x y _=>σ (aJ op gG (oj x) (oj y) (e x) (e y))
 | .unOp op _ x=>σ (Op.unary op (e x))
 | .convert src dst x=>σ (convert src dst (e x))
 | .makeInterface gG x=>σ (Instr.makeInterface gG (e x))
 | .makeFunc fn first p=>σ (Instr.makeFunc fn (bD e first.toList).toArray (bD e p.toList).toArray)
 | .makeMap t r=>σ (Instr.makeMap t (r.map e))
 | .makeSlice t l c=>σ (Instr.makeSlice t (e l) (e c))
 | .slice t x lo hi mx=>σ (U2 t (e x) (lo.map e) (hi.map e) (mx.map e))
 | .fieldAddr s x f=>σ (u6 s (e x) f)
 | .field gG x f=>σ (Instr.field gG (e x) f)
 | .indexAddr t x h=>σ (c8 t (e x) (e h))
 | .index gG x h=>σ (Instr.index gG (e x) (e h))
 | .lookup gG x h ok=>σ (Instr.lookup gG (e x) (e h) ok)
 | .mapEntry t m k=>σ (Instr.mapEntry t (e m) (e k))
 | .range gG x=>σ (Instr.range gG (e x))
 | .entry q=>σ (Instr.entry (e q))
 | .typeAssert x gG w ok=>σ (Instr.typeAssert (e x) gG w ok)
 | .extract t h=>σ (Z8 (e t) h)
 |_=>ν
def uh (e:S5->x1):Op->Option (Sem Unit)
 | .store t a x=>σ (o5 t (e a) (e x))
 | .mapUpdate t m k x=>σ (Instr.mapUpdate t (e m) (e k) (e x))
 | .insert t m k x=>σ (Instr.mapUpdate t (e m) (e k) (e x))
 | .entryStore t m s x=>σ (Instr.entryStore t (e m) (e s) (e x))
 |_=>ν
def ol (b:Z3) (ats:Array r9) (a:r9) (args:Array x1):Option (Sem x1):=
 match b with
 | .append=>σ (b9 ats a args)
 | .cap=>σ (Z3.cap_ ats a args)
 | .clear=>σ (Z3.clear_ ats a args)
 | .copy=>σ (Z3.copy_ ats a args)
 | .delete=>σ (Z3.delete_ ats a args)
 | .len=>σ (V3 ats a args)
 | .max=>σ (Z3.max_ ats a args)
 | .min=>σ (Z3.min_ ats a args)
 |_=>ν
theorem Fa {s:Sem Next} (h:(rm s).run P w= .ok v w'):s.run P w= .ok (.value v) w':=by
 unfold rm at h;rw[W6] at h;cases I:s.run P w with
 |halt x J=>rw[I] at h;simp[W8] at h
 |ok x J=>
  rw[I] at h;cases x<;>simp_all [W8,stuck,V4]
theorem Fb (x:x1) (b:Bool) (t:r9):Instr.next x b 0=Instr.next x b t:=rfl
theorem ui {f:S5->x1} {o:T6} {s:Sem x1} (h:pC f o.op=σ s) (a:s.run P w= .ok v w'):
  (execOp f o).run P w= .ok (.value v) w':=by
 cases e:o.op with
 |nilCheck x=>
  rw[e] at h;cases h;have:=Fa P a;unfold execOp at this ⊢;simpa[e] using this
 |pick c x y=>
  rw[e] at h;cases h;unfold execOp;simp only[e,W6,V4] at a ⊢;cases j:(asBool (f c)).run P w with
  |halt x J=>rw[j] at a;simp[W8] at a
  |ok x J=>rw[j] at a;simp only[W8,Result.ok.injEq] at a ⊢;simp[a]
 |binOp op gG x y p=>
  rw[e] at h;cases h;unfold execOp;simp only[e];unfold aJ at a;rw[<-E7] at a;simp only[W6,V4] at a ⊢;rw[a];rfl
 |_=>
  rw[e] at h
  first
   |(cases h;done)
   |(cases h;simp only[ug,E8] at a;unfold execOp;simp only[e,W6,a,W8,V4])
   |(cases h;unfold execOp;simp only[e,W6,a,W8,V4])
theorem Fc {a:S5->x1} {o:T6} {s:Sem Unit} (h:uh a o.op=σ s) {v:Unit} (f:s.run P w= .ok v w'):
  (execOp a o).run P w= .ok .skip w':=by
 cases e:o.op with
 |_=>
  rw[e] at h
  first
   |(cases h;done)
   |(cases h;unfold execOp;simp only[e,W6,f,W8,V4])
def Enters (f:Q0):Prop:=∀args w,(callFunc f args).run P w= .ok (.enter f args) w
inductive ai (f:Q0) (args:List x1) (w:x3) (K:x1->x3->Prop):Prop
 |code (h1:Enters P f) (h2:Calls P f args.toArray w λe w'=>∃v,e= .returned v/\cM w w'/\K v w')
 |ext (v:x1) (w':x3) (h1:(callFunc f args.toArray).run P w= .ok (.value v) w') (h2:cM w w') (h3:K v w')
inductive gH (f:Q0) (args:List x1) (w:x3) (K:x1->x3->Prop):Prop
 |code (h1:Enters P f) (h2:Calls P f args.toArray w λe w'=>∃v,e= .returned v/\K v w')
 |ext (v:x1) (w':x3) (h1:(callFunc f args.toArray).run P w= .ok (.value v) w') (h3:K v w')
theorem gH.calls {f:Q0} {K:x1->x3->Prop} (h:gH P f args w K) (a:Enters P f):Calls P f args.toArray w λe w'=>∃v,e= .returned v/\K v w':=by
 cases h with
 |code _ h=>exact h
 |ext v w' h1=>rw[a] at h1;cases h1
def hL (l:Nat) (args:List x1) (w:x3) (K:x1->x3->Prop):Prop:=
 YieldAt Fence.wide 0 P l args.toArray w λe w'=>∃v,e= .returned v/\K v w'
theorem hL.mono {P:W9} {l:Nat} {K a:x1->x3->Prop} (h:hL P l args w K) (e:∀v w',K v w'->a v w'):hL P l args w a:=by
 obtain⟨fn,tmps,f,body,j,p⟩:=h;exact⟨fn,tmps,f,body,j,RoundIn.mono p λ_ w' ⟨v,h1,q⟩=>⟨v,h1,e v w' q⟩⟩
def rp (free:Bool) (f:x1) (args:List x1) (w:x3) (K:x1->x3->Prop):Prop:=
 match f with
 | .func (.func g) first cap=>bif free then gH P g (first.toList++args++cap.toList) w K else ai P g (first.toList++args++cap.toList) w K
 | .func (.yield l) first _=>bif free then free=true/\hL P l (first.toList++args) w K else hL P l (first.toList++args) w λv w'=>cM w w'/\K v w'
 |_=>False
def V (s:Sem x1) (w:x3) (K:x1->Prop):Prop:=∃v,(∀w',Ext w w'->s.run P w'= .ok v w')/\K v
def Fe:List (Nat×Nat):=[(9,22),(22,22)]
def Ff (s d:Nat):Bool:=Fe.any λp=>S1 p.1 s&&S1 p.2 d
def i9 (o:T6):Bool:=
 match o.op with
 | .convert s d _=>!Ff s d
 | .move _| .assign _| .pick .. | .load .. | .nilCheck _| .binOp .. | .unOp .. | .makeInterface .. | .makeFunc .. | .slice .. | .fieldAddr .. | .field ..
 | .indexAddr .. | .index .. | .lookup .. | .extract .. | .build .. | .typeAssert ..=>true
 | .call c=>
  match c.callee with
  | .builtin .len| .builtin .cap| .builtin .min| .builtin .max=>true
  |_=>false
 |_=>false
def b4 (s:Sem x1) (v:x1) (w':x3):Prop:=∀a,Ext w' a->s.run P a= .ok v a
def ly (o:T6) (e:Env) (w:x3) (K:Env->(x3->Prop)->Prop):Prop:=
 bif known e (opsOf o.op) then
  match o.op with
  | .move x| .assign x=>
   match eF e x with
   |some y=>K (dW e o.dst y) (λ_=>True)
   |none=>False
  | .pick c a b=>
   match eF e c with
   |some (.b true)=>(match eF e a with|some y=>K (dW e o.dst y) (λ_=>True)|none=>False)
   |some (.b false)=>(match eF e b with|some y=>K (dW e o.dst y) (λ_=>True)|none=>False)
   |some (.v x)=>Split x (K (dW e o.dst (.v (cV e a))) (λ_=>True)) (K (dW e o.dst (.v (cV e b))) (λ_=>True))
   |some .u=>False
   |none=>False
  | .call c=>
   match c.callee with
   | .builtin b=>
    match ol b c.argTypes o.type (bD (cV e) c.args.toList).toArray with
    |some s=>V P s w λv=>K (dW e o.dst (.v v)) (b4 P s v)
    |none=>False
   |_=>False
  |op=>
   match pC (cV e) op with
   |some s=>V P s w λv=>K (dW e o.dst (.v v)) (b4 P s v)
   |none=>False
 else False
def uj (free:fu) (o:T6) (e:Env) (w:x3) (K:Env->x3->Prop):Prop:=
 bif known e (opsOf o.op) then
  match o.op with
  | .call c=>
   match c.callee with
   | .builtin b=>
    match ol b c.argTypes o.type (bD (cV e) c.args.toList).toArray with
    |some s=>av P s w λv w'=>K (dW e o.dst (.v v)) w'
    |none=>False
   | .value (.func f)=>
    bif free.1 then gH P f (bD (cV e) c.args.toList) w λv w'=>K (dW e o.dst (.v v)) w'
    else ai P f (bD (cV e) c.args.toList) w λv w'=>K (dW e o.dst (.v v)) w'
   | .value x=>rp P free.1 (cV e x) (bD (cV e) c.args.toList) w λv w'=>K (dW e o.dst (.v v)) w'
   | .invoke _ _=>False
  | .next x str=>rl P free (Instr.next (cV e x) str 0) w λv w'=>K (dW e o.dst (.v v)) w'
  |op=>
   match pC (cV e) op with
   |some s=>av P s w λv w'=>K (dW e o.dst (.v v)) w'
   |none=>
    match uh (cV e) op with
    |some s=>av P s w λ_ w'=>K (dW e o.dst (.v undef)) w'
    |none=>False
 else False
def om (free:fu) (o:T6) (e:Env) (w:x3) (K:Env->x3->Prop):Prop:=
 bif i9 o then ly P o e w (λa _=>K a w) else uj P free o e w K
theorem Enters.of {f:Q0} {fn:Func} {c:Code} (a:P.funcs[f]? =σ fn) (e:fn.body=σ c) (h:(fn.name == "runtime.NumGoroutine")=false):Enters P f:=by
 intro args w;have j:fn.name≠ "runtime.NumGoroutine":=by simpa using h
 unfold callFunc;simp[W6,program,Sem.run,W8,a,j,e,V4]
variable {P}
variable {N:Nat} {r:Option Nat} {o:T6} {e:Env} {a:Act} {w:x3}
theorem kc (f:S6 N e a) (hk:known e (opsOf o.op)=true) (I:∀cs b,o.op≠ .select cs b) (h:∀c,o.op≠ .go c:=by simp_all) (j:∀c,o.op≠ .defer c:=by simp_all):
  execOp a.eval o=execOp (cV e) o:=
 execOp_congr o I λx p=>f.eval (ue hk x (E9 h j I x p))
theorem pD {next:Act->x3->Prop} {Q:Exit->Act->x3->Prop} (j:S6 N e a) (hk:known e (opsOf o.op)=true) (I:∀cs b,o.op≠ .select cs b)
  (f:∀c,o.op≠ .defer c) {v:x1} {w':x3} (p:(execOp (cV e) o).run P w= .ok (.value v) w') (h:next (a.put o.dst v) w') (q:∀c,o.op≠ .go c:=by simp_all):o.wpIn (et r) 0 P a w next Q:=by
 refine⟨λ_ _=>trivial,?_⟩;rw[T6.semAt_eq _ _ _ f,kc j hk I q f,p,T6.uponIn_value];exact h
theorem Fg {next:Act->x3->Prop} {Q:Exit->Act->x3->Prop} (j:S6 N e a) (hk:known e (opsOf o.op)=true) (I:∀cs b,o.op≠ .select cs b)
  (f:∀c,o.op≠ .defer c) {w':x3} (p:(execOp (cV e) o).run P w= .ok .skip w') (h:next (a.put o.dst undef) w') (q:∀c,o.op≠ .go c:=by simp_all):o.wpIn (et r) 0 P a w next Q:=by
 refine⟨λ_ _=>trivial,?_⟩;rw[T6.semAt_eq _ _ _ f,kc j hk I q f,p,T6.uponIn_skip];exact h
def fe (N:Nat) (free:fu) (K:Env->x3->Prop) (o:T6) (a:Act) (w:x3) (a':Act) (w':x3):Prop:=
 ∃e v,K e w'/\S6 N e a'/\a'=a.put o.dst v/\(free.1=false->cB free.2 w w')
theorem fe.of {free:fu} {K:Env->x3->Prop} {x:ev} (f:K (dW e o.dst x) w') (h:S6 N e a) (j:jz N o.dst=true) (p:x.val=v)
  (q:free.1=false->cB free.2 w w'):fe N free K o a w (a.put o.dst v) w':=⟨_,v,f,h.put j p,rfl,q⟩
theorem xH {free:fu} {K:Env->x3->Prop} {Q:Exit->Act->x3->Prop} {f:Q0} {args:Array x1} (p:S6 N e a) (q:jz N o.dst=true)
  (h:Calls P f args w λj w'=>∃v,j= .returned v/\(free.1=false->cB free.2 w w')/\K (dW e o.dst (.v v)) w'):
  o.uponIn (et r) 0 P a (fe N free K o a w) Q (.ok (.enter f args) w):=by
 rw[T6.uponIn_enter];refine⟨uf _ _,CallsIn.mono (xF h) ?_⟩;rintro j w' ⟨v,rfl,s,x⟩;exact fe.of x p q rfl s
theorem lz {x:S5} {y:ev} (h:eF e x=σ y):cV e x=y.val:=by simp[cV,h]
theorem xI {l:List S5} {x:S5} (hk:known e l=true) (a:x∈l):∃y,eF e x=σ y:=Option.isSome_iff_exists.1 (ue hk x a)
theorem xJ {K:Env->(x3->Prop)->Prop} (h:ly P o e w K) (A:S6 N e a) (L:jz N o.dst=true):
  ∃v,∃st:x3->Prop,(∀w',Ext w w'->(execOp a.eval o).run P w'= .ok (.value v) w')/\(∃B,K B st/\S6 N B (a.put o.dst v))/\(∀c,o.op≠ .defer c)/\
   (∀w',st w'-> ∀j,Ext w' j->(execOp a.eval o).run P j= .ok (.value v) j):=by
 unfold ly at h;cases hk:known e (opsOf o.op) with
 |false=>rw[hk] at h;exact h.elim
 |true=>
  rw[hk] at h;simp only[cond_true] at h;have put:∀ {x:ev} {v:x1} {st:x3->Prop},K (dW e o.dst x) st->x.val=v-> ∃B,K B st/\S6 N B (a.put o.dst v):=λh1 C=>⟨_,h1,A.put L C⟩;cases f:o.op with
  |move x=>
   rw[f] at h;simp only at h;cases q:eF e x with
   |none=>rw[q] at h;exact h.elim
   |some y=>
    rw[q] at h;have all:∀w':x3,(execOp a.eval o).run P w'= .ok (.value y.val) w':=λw'=>by
     rw[kc A hk (by simp[f])];unfold execOp;simp only[f,V4,lz q]
    exact⟨y.val,_,λw' _=>all w',put h rfl,Ξ,λ_ _ j _=>all j⟩
  |assign x=>
   rw[f] at h;simp only at h;cases q:eF e x with
   |none=>rw[q] at h;exact h.elim
   |some y=>
    rw[q] at h;have all:∀w':x3,(execOp a.eval o).run P w'= .ok (.value y.val) w':=λw'=>by
     rw[kc A hk (by simp[f])];unfold execOp;simp only[f,V4,lz q]
    exact⟨y.val,_,λw' _=>all w',put h rfl,Ξ,λ_ _ j _=>all j⟩
  |pick c x y=>
   rw[f] at h;simp only at h;have F:=hk;rw[f] at F;obtain⟨R,q⟩:=xI F (x:=x) (by simp[opsOf]);obtain⟨S,J⟩:=xI F (x:=y) (by simp[opsOf]);have E:∀ (t:Bool) (w':x3),cV e c= .bool t->(execOp a.eval o).run P w'= .ok (.value (if t=true then cV e x else cV e y)) w':=by
    intro t w' G;rw[kc A hk (by simp[f])];unfold execOp;simp[f,G,asBool,V4]
   cases p:eF e c with
   |none=>rw[p] at h;exact h.elim
   |some M=>
    rw[p] at h;cases M with
    |b t=>
     cases t with
     |true=>
      simp only[q] at h;exact⟨_,_,λw' _=>E true w' (lz p),put h (by simp[lz q]),Ξ,λ_ _ w' _=>E true w' (lz p)⟩
     |false=>
      simp only[J] at h;exact⟨_,_,λw' _=>E false w' (lz p),put h (by simp[lz J]),Ξ,λ_ _ w' _=>E false w' (lz p)⟩
    |v z=>
     obtain⟨t,O,G,Q⟩:=h;have r:=λw'=>E t w' (by rw[lz p];exact O);cases t with
     |true=>exact⟨_,_,λw' _=>r w',put (G rfl) rfl,Ξ,λ_ _ w' _=>r w'⟩
     |false=>exact⟨_,_,λw' _=>r w',put (Q rfl) rfl,Ξ,λ_ _ w' _=>r w'⟩
    |u=>exact h.elim
  |call c=>
   rw[f] at h;simp only at h;cases p:c.callee with
   |builtin b=>
    rw[p] at h;simp only at h;rw[ug] at h;cases I:ol b c.argTypes o.type (c.args.map (cV e)) with
    |none=>rw[I] at h;exact h.elim
    |some s=>
     rw[I] at h;obtain⟨v,r,H⟩:=h;have all:∀w':x3,s.run P w'= .ok v w'->(execOp a.eval o).run P w'= .ok (.value v) w':=λw' r=>by
      rw[kc A hk (by simp[f])];unfold execOp;cases b<;>simp only[ol] at I<;>first|(cases I;done)|(cases I;simp[f,p,resolve,invoke,builtin,r,W8])
     exact⟨v,_,λw' hw=>all w' (r w' hw),put H rfl,Ξ,λw' h1 j C=>all j (h1 j C)⟩
   |value x=>rw[p] at h;exact h.elim
   |invoke x m=>rw[p] at h;exact h.elim
  |_=>
   rw[f] at h
   first
    |(simp only[pC] at h;done)
    |(obtain⟨v,r,H⟩:=h
      refine⟨v,_,λw' hw=>?_,put H rfl,Ξ,λw' h1 j C=>?_⟩
      .rw[kc A hk (by simp[f])];exact ui P (by rw[f];rfl) (r w' hw)
      .rw[kc A hk (by simp[f])];exact ui P (by rw[f];rfl) (h1 j C))
theorem Fh {free:fu} {K:Env->x3->Prop} {Q:Exit->Act->x3->Prop} (h:uj P free o e w K) (p:S6 N e a) (C:jz N o.dst=true):
  o.wpIn (et r) 0 P a w (fe N free K o a w) Q:=by
 unfold uj at h;cases hk:known e (opsOf o.op) with
 |false=>rw[hk] at h;exact h.elim
 |true=>
  rw[hk] at h;simp only[cond_true] at h;cases j:o.op with
  |call c=>
   rw[j] at h;simp only at h;cases E:c.callee with
   |builtin b=>
    rw[E] at h;simp only at h;rw[ug] at h;cases I:ol b c.argTypes o.type (c.args.map (cV e)) with
    |none=>rw[I] at h;exact h.elim
    |some s=>
     rw[I] at h;obtain⟨v,w',q,A,B⟩:=h;refine pD p hk (by simp[j]) (by simp[j]) (v:=v) (w':=w') ?_ (fe.of B p C rfl λ_=>A.b);unfold execOp;cases b<;>simp only[ol] at I<;>first|(cases I;done)|(cases I;simp[j,E,resolve,invoke,builtin,q,W8])
   |value x=>
    rw[E] at h;have step:∀ (d:Deferred) (y:x1),cV e x=y->Deferred.ofValue y (c.args.map (cV e))=pure d->
      (invoke d.target d.args).run P w=(execOp (cV e) o).run P w:=by
     intro d y z S;unfold execOp;simp only[j,E,resolve,z,S,W6,V4,W8]
    have H:∀ (g:Q0) (first cap:Array x1),cV e x= .func (.func g) first cap->
      (execOp (cV e) o).run P w=(callFunc g (first.toList++bD (cV e) c.args.toList++cap.toList).toArray).run P w:=by
     intro g first cap z
     rw[<-step {target:=.fn (.func g) cap,args:=first++c.args.map (cV e)} _ z rfl];simp only[invoke];have J:first++c.args.map (cV e)++cap=(first.toList++bD (cV e) c.args.toList++cap.toList).toArray:=by apply Array.toList_inj.1;simp[rn]
     rw[J]
    have enter:∀ (g:Q0) (first cap:Array x1),cV e x= .func (.func g) first cap->Enters P g->
      (execOp (cV e) o).run P w= .ok (.enter g (first.toList++bD (cV e) c.args.toList++cap.toList).toArray) w:=by
     intro g first cap z F
     rw[H g first cap z,F]
    have go:∀ (g:Q0) (first cap:Array x1),cV e x= .func (.func g) first cap->
      (bif free.1 then gH P g (first.toList++bD (cV e) c.args.toList++cap.toList) w λv w'=>K (dW e o.dst (.v v)) w'
       else ai P g (first.toList++bD (cV e) c.args.toList++cap.toList) w λv w'=>K (dW e o.dst (.v v)) w')->
      o.wpIn (et r) 0 P a w (fe N free K o a w) Q:=by
     intro g first cap z h
     obtain⟨fr,T⟩:=free;cases fr with
     |true=>
      rcases h with⟨F,L⟩|⟨v,w',q,B⟩
      .refine⟨λ_ _=>trivial,?_⟩;rw[T6.semAt_eq _ _ _ (by simp[j]),kc p hk (by simp[j])];rw[enter g first cap z F];exact xH p C (L.mono λG w' ⟨v,h1,M⟩=>⟨v,h1,(λh=>by cases h),M⟩)
      .rw[<-H g first cap z] at q;exact pD p hk (by simp[j]) (by simp[j]) q (fe.of B p C rfl λh=>by cases h)
     |false=>
      rcases h with⟨F,L⟩|⟨v,w',q,A,B⟩
      .refine⟨λ_ _=>trivial,?_⟩;rw[T6.semAt_eq _ _ _ (by simp[j]),kc p hk (by simp[j])];rw[enter g first cap z F];exact xH p C (L.mono λG w' ⟨v,h1,A,M⟩=>⟨v,h1,λ_=>A.b,M⟩)
      .rw[<-H g first cap z] at q;exact pD p hk (by simp[j]) (by simp[j]) q (fe.of B p C rfl λ_=>A.b)
    have O:rp P free.1 (cV e x) (bD (cV e) c.args.toList) w (λv w'=>K (dW e o.dst (.v v)) w')->
      o.wpIn (et r) 0 P a w (fe N free K o a w) Q:=by
     intro h;unfold rp at h;split at h
     .rename_i g first cap z
      exact go g first cap z h
     .rename_i l first cap z
      obtain⟨fn,tmps,R,body,U,V⟩:hL P l (first.toList++bD (cV e) c.args.toList) w λv w'=>(free.1=false->cB free.2 w w')/\K (dW e o.dst (.v v)) w':=by
       obtain⟨fr,T⟩:=free;cases fr with
       |true=>exact hL.mono h.2 λv w' hk=>⟨(λh=>by cases h),hk⟩
       |false=>exact hL.mono h λv w' hk=>⟨λ_=>hk.1.b,hk.2⟩
      refine⟨λ_ _=>trivial,?_⟩;rw[T6.semAt_eq _ _ _ (by simp[j]),kc p hk (by simp[j])];have:(execOp (cV e) o).run P w= .ok (.round l fn tmps R body) w:=by
       rw[<-step {target:=.fn (.yield l) cap,args:=first++c.args.map (cV e)} _ z rfl,<-U];have J:(first.toList++bD (cV e) c.args.toList).toArray=first++c.args.map (cV e):=by apply Array.toList_inj.1;simp[rn]
       rw[J];rfl
      rw[this,T6.uponIn_round];refine⟨uf _ _,?_⟩;have W:RoundIn (et r) (0-1) P l fn tmps R body w λG w'=>∃v,G= .returned v/\(free.1=false->cB free.2 w w')/\K (dW e o.dst (.v v)) w':=V;refine RoundIn.mono W ?_;rintro G w' ⟨v,rfl,A,B⟩;exact fe.of B p C rfl A
     .exact h.elim
    cases x with
    |func f=>exact go f #[] #[] rfl (by simpa using h)
    |tmp t=>exact O h
    |const v=>exact O h
    |global g=>exact O h
   |invoke x m=>rw[E] at h;exact h.elim
  |next x str=>
   rw[j] at h;obtain⟨v,w',q,A,B⟩:=h;refine pD p hk (by simp[j]) (by simp[j]) (v:=v) (w':=w') ?_ (fe.of B p C rfl A);rw[Fb _ _ o.type] at q;unfold execOp;simp only[j,W6,q,W8,V4]
  |_=>
   rw[j] at h
   first
    |(simp only[pC,uh] at h;done)
    |(obtain⟨v,w',q,A,B⟩:=h
      exact pD p hk (by simp[j]) (by simp[j]) (ui P (by rw[j];rfl) q) (fe.of B p C rfl λ_=>A.b))
    |(obtain⟨v,w',q,A,B⟩:=h
      exact Fg p hk (by simp[j]) (by simp[j]) (Fc P (by rw[j];rfl) q) (fe.of B p C rfl λ_=>A.b))
theorem rq {free:fu} {K:Env->x3->Prop} {Q:Exit->Act->x3->Prop} (h:om P free o e w K) (j:S6 N e a) (p:jz N o.dst=true):
  o.wpIn (et r) 0 P a w (fe N free K o a w) Q:=by
 unfold om at h;cases q:i9 o with
 |false=>rw[q] at h;exact Fh h j p
 |true=>
  rw[q] at h;have h:ly P o e w (λf _=>K f w):=h;obtain⟨v,st,s,⟨f,x,y⟩,z,_⟩:=xJ h j p;refine⟨λ_ _=>trivial,?_⟩;rw[T6.semAt_eq _ _ _ z,s w (Ext.refl _),T6.uponIn_value];exact⟨f,v,x,y,rfl,λ_=>cB.refl _ _⟩
end
section
variable {P:W9}
def Still {α:Type} (P:W9) (s:Sem α):Prop:=∀w v J,s.run P w= .ok v J->J=w/\ ∀w',s.run P w'= .ok v w'
theorem Still.pure {α:Type} (a:α):Still P (Pure.pure a:Sem α):=λw v J h=>by
 rw[V4] at h;cases h;exact⟨rfl,λw'=>by rw[V4]⟩
theorem Still.bind {α β:Type} {s:Sem α} {f:α->Sem β} (I:Still P s) (j:∀a,Still P (f a)):Still P (s >>= f):=λw v J h=>by
 rw[W6] at h;cases e:s.run P w with
 |halt x w2=>rw[e] at h;simp[W8] at h
 |ok a w2=>
  rw[e] at h;obtain⟨rfl,p⟩:=I w a w2 e;obtain⟨rfl,q⟩:=j a _ v J h;exact⟨rfl,λw'=>by rw[W6,p w'];exact q w'⟩
theorem Still.never {α:Type} {s:Sem α} (h:∀w v J,s.run P w≠ .ok v J):Still P s:=λw v J h'=>absurd h' (h w v J)
theorem Still.stuck {α:Type} (m:String):Still P (stuck m:Sem α):=.never λw v J h=>by simp[Go.stuck] at h
theorem Still.unsupported {α:Type} (m):Still P (unsupported m:Sem α):=.never λw v J h=>by simp[Go.unsupported] at h
theorem Still.program:Still P program:=λw v J h=>by cases h;exact⟨rfl,λ_=>rfl⟩
theorem Still.underlying (t:r9):Still P (underlying t):=Still.bind .program λp=>by
 cases p.underlying t with
 |some d=>exact Still.pure d
 |none=>exact Still.stuck _
theorem Still.typeInfo (t:r9):Still P (typeInfo t):=Still.bind .program λp=>by
 cases p.info? t with
 |some d=>exact Still.pure d
 |none=>exact Still.stuck _
theorem Still.sizeOf (t:r9):Still P (sizeOf t):=Still.bind (.typeInfo t) λ_=>Still.pure _
theorem Still.boundsPanic {α:Type} (k:o6) (x y:Int) (c:BoundsCode):Still P (boundsPanic k x y c:Sem α):=.never λw v J h=>by
 have e:∀ (s:Sem Bool) (w:x3) (v:α) (J:x3),(s >>= λb=>(runtimePanic (.bounds (X7.wrap x) y b c):Sem α)).run P w≠ .ok v J:=by
  intro s w v J h;rw[W6] at h;cases f:s.run P w with
  |halt x w2=>rw[f] at h;simp[W8] at h
  |ok a w2=>rw[f] at h;simp[W8,Go.runtimePanic,Go.goPanic] at h
 unfold Go.boundsPanic at h;dsimp only at h;split at h
 .exact e _ _ _ _ h
 .exact e _ _ _ _ h
theorem Still.asIntOf (v:x1):Still P (asIntOf v):=by
 unfold Go.asIntOf;split
 .exact Still.pure _
 .exact Still.unsupported _
 .exact Still.stuck _
theorem Still.sureAddr (v:x1):Still P (Instr.sureAddr v):=by
 unfold Instr.sureAddr;split
 .exact Still.pure _
 .exact Still.stuck _
theorem Still.extract (v:x1) (i:Nat):Still P (Z8 v i):=by
 unfold Z8;split
 .split
  .exact Still.pure _
  .exact Still.stuck _
 .exact Still.stuck _
theorem Still.indexAt (t:r9) (x i:x1):Still P (c8 t x i):=by
 have tail:∀ (t:r9) (k:o6) (i:Int) (base:Option Addr) (len:Nat) (e:r9),Still P (do
   let f:=len<=1&&(match <-Go.underlying t with| .array ..=>true|_=>false)
   match base with
   |some a=>
    if 0<=i/\i<len then Pure.pure (x1.pointer (σ (a.add (i.toNat*(<-Go.sizeOf e)))))
    else if f then Go.unsupported (.noEntry "op/indexAddr.an index out of range at an array of length 0 or 1 (ledger 616)")
    else Go.boundsPanic k i len .index
   |none=>Go.boundsPanic k i 0 .index):=by
  intro t k i base len e;refine .bind (.underlying t) λd=>?_;cases base with
  |none=>exact Still.boundsPanic _ _ _ _
  |some a=>
   dsimp only;split
   .exact .bind (.sizeOf e) λ_=>.pure _
   .split<;>split<;>first|exact Still.unsupported _|exact Still.boundsPanic _ _ _ _
 unfold c8;refine .bind (.asIntOf i) λh=>?_;refine .bind (.underlying t) λd=>?_;split
 .refine .bind (.sureAddr _) λb=>?_;refine .bind (.pure _) λy=>?_;exact tail _ _ _ _ _ _
 .refine .bind (.pure _) λy=>?_;exact tail _ _ _ _ _ _
 .refine .bind (.stuck _) λy=>?_;exact tail _ _ _ _ _ _
end
section
variable (P:W9)
def rr (free:fu) (ops:Array T6) (o:T6) (e:Env) (w:x3) (K:Env->x3->Prop):Prop:=
 match o.guard with
 |none=>om P free o e w K
 |some (j,b)=>
  match (ops[j]?).bind (·.dst) with
  |none=>False
  |some s=>
   match look e s with
   |some (.b c)=>bif xor c b then K (dW e o.dst .u) w else om P free o e w K
   |some (.v x)=>
    Split x (bif b then om P free o ((s,.b true)::e) w K else K (dW ((s,.b true)::e) o.dst .u) w)
     (bif b then K (dW ((s,.b false)::e) o.dst .u) w else om P free o ((s,.b false)::e) w K)
   |some .u=>K (dW e o.dst .u) w
   |none=>False
def oo (free:fu) (ops:Array T6):List T6->Env->x3->(Env->x3->Prop)->Prop
 |[],e,w,K=>K e w
 |o::l,e,w,K=>rr P free ops o e w λa w'=>oo free ops l a w' K
def uk (ops:Array T6) (o:T6) (e:Env) (w:x3) (K:Env->(x3->Prop)->Prop):Prop:=
 match o.guard with
 |none=>ly P o e w K
 |some (j,b)=>
  match (ops[j]?).bind (·.dst) with
  |none=>False
  |some s=>
   match look e s with
   |some (.b c)=>bif xor c b then K (dW e o.dst .u) (λ_=>True) else ly P o e w K
   |some (.v x)=>
    Split x (bif b then ly P o ((s,.b true)::e) w K else K (dW ((s,.b true)::e) o.dst .u) (λ_=>True))
     (bif b then K (dW ((s,.b false)::e) o.dst .u) (λ_=>True) else ly P o ((s,.b false)::e) w K)
   |some .u=>K (dW e o.dst .u) (λ_=>True)
   |none=>False
def lA (o:T6):Bool:=
 match o.op with
 | .move _| .assign _| .extract .. | .indexAddr ..=>true
 |_=>false
def l6 (ops:Array T6):List Nat->Option Nat
 |[]=>ν
 |i::r=>match ops[i]? with
  |some o=>bif i9 o then σ i else l6 ops r
  |none=>l6 ops r
def ul (p:Nat->Prop):List Nat->Prop
 |[]=>True
 |[i]=>p i
 |i::r=>p i/\ul p r
def kJ (bs:Array Nat) (j k:Nat):Bool:=!(S1 k j)&&(!((bs.getD j 0).testBit k)&& !((bs.getD k 0).testBit j))
def pE (same:Bool) (q:Nat) (w:x3) (st:x3->Prop) (a:List (x3×List (Nat×(x3->Prop)))):List (x3×List (Nat×(x3->Prop))):=
 match same,a with
 |true,g::r=>(g.1,(q,st)::g.2)::r
 |_,a=>(w,[(q,st)])::a
def pF (bs:Array Nat) (j:Nat):List (Nat×(x3->Prop))->Bool
 |[]=>false
 |x::r=>kJ bs j x.1||pF bs j r
def oq (bs:Array Nat) (j:Nat) (w':x3):List (Nat×(x3->Prop))->Prop
 |[]=>True
 |x::r=>bif kJ bs j x.1 then x.2 w'/\oq bs j w' r else oq bs j w' r
def mZ (bs:Array Nat) (j:Nat) (w':x3) (C:Prop):List (x3×List (Nat×(x3->Prop)))->Prop
 |[]=>C
 |g::r=>bif pF bs j g.2 then (Ext g.1 w'\/oq bs j w' g.2)/\mZ bs j w' C r else mZ bs j w' C r
def l8 (free:fu) (ops:Array T6) (bs:Array Nat):Nat->Array Bool->Bool->List (x3×List (Nat×(x3->Prop)))->Env->x3->(Env->x3->Prop)->Prop
 |0,a,_,_,e,w,K=>match Region.ready .any ops a with|[]=>K e w|_=>False
 |fuel+1,a,same,f,e,w,K=>
  match Region.ready .any ops a with
  |[]=>K e w
  |i::r=>
   match l6 ops (i::r) with
   |some q=>
    bif Region.free .any ops a q then
     match ops[q]? with
     |some o=>uk P ops o e w λh st=>
       bif lA o then l8 free ops bs fuel (a.setIfInBounds q true) same f h w K
       else l8 free ops bs fuel (a.setIfInBounds q true) true (pE same q w st f) h w K
     |none=>False
    else False
   |none=>
    ul (λj=>match ops[j]? with
     |some o=>rr P free ops o e w λh w'=>mZ bs j w' (l8 free ops bs fuel (a.setIfInBounds j true) false f h w' K) f
     |none=>False) (i::r)
def um (free:fu) (ops:Array T6) (e:Env) (w:x3) (K:Env->x3->Prop):Prop:=
 bif Region.noSelect ops then l8 P free ops (Region.before ops) ops.size (Array.replicate ops.size false) false [] e w K else False
end
section
variable {P:W9} {N:Nat} {r:Option Nat} {free:fu} {ops:Array T6}
theorem Fi {e:Env} {a:Act} (p:S6 N e a) {s:Nat} {c:Bool} (q:(ops[j]?).bind (·.dst)=σ s) {x:ev} (I:look e s=σ x) (r:x.val= .bool c):
  yielded ops a.tmps j=σ c:=by
 have h:=p.2 s x I;rw[r] at h;have w:a.tmps[s]? =σ (.bool c):=by
  rw[Array.getD_eq_getD_getElem?] at h;cases f:a.tmps[s]? with
  |none=>rw[f] at h;simp[undef] at h
  |some y=>rw[f] at h;simpa using h
 simp[yielded,q,w]
theorem rt {e:Env} {a:Act} (f:S6 N e a) {o:T6} {s:Nat} {b c:Bool} (h:o.guard=σ (j,b)) (p:(ops[j]?).bind (·.dst)=σ s) {x:ev}
  (I:look e s=σ x) (q:x.val= .bool c):Region.wanted o (yielded ops a.tmps)= !(xor c b):=by
 simp only[Region.wanted,h,Fi f p I q];cases c<;>cases b<;>rfl
theorem xK {e:Env} {a:Act} (p:S6 N e a) {o:T6} {s:Nat} {b:Bool} (q:o.guard=σ (j,b)) (r:(ops[j]?).bind (·.dst)=σ s)
  (I:look e s=σ .u):Region.wanted o (yielded ops a.tmps)=false:=by
 have h:=p.2 s .u I;have w:yielded ops a.tmps j=ν:=by
  rw[Array.getD_eq_getD_getElem?] at h;unfold yielded;rw[r];cases f:a.tmps[s]? with
  |none=>simp[f]
  |some y=>
   rw[f] at h;simp only[V8,ev.val] at h;subst h;simp[f,undef]
 simp[Region.wanted,q,w]
theorem S6.lit {e:Env} {a:Act} (h:S6 N e a) {s:Nat} {x:ev} {c:Bool} (I:look e s=σ x) (p:x.val= .bool c):S6 N ((s,.b c)::e) a:=by
 refine⟨h.1,λt y f=>?_⟩;simp only[look] at f;cases j:S1 s t with
 |true=>
  have:s=t:=Nat.eq_of_beq_eq_true j;subst this;simp only[j,cond_true,Y3] at f;subst f;rw[h.2 s x I,p];rfl
 |false=>simp only[j,cond_false] at f;exact h.2 t y f
theorem xL {o:T6} {e:Env} {a:Act} {K:Env->x3->Prop} {Q:Exit->Act->x3->Prop} (h:rr P free ops o e w K) (f:S6 N e a) (p:jz N o.dst=true):
  (Region.wanted o (yielded ops a.tmps)=true/\o.wpIn (et r) 0 P a w (fe N free K o a w) Q)\/
  (Region.wanted o (yielded ops a.tmps)=false/\fe N free K o a w (a.put o.dst undef) w):=by
 unfold rr at h;cases q:o.guard with
 |none=>rw[q] at h;exact .inl ⟨by simp[Region.wanted,q],rq h f p⟩
 |some F=>
  obtain⟨j,b⟩:=F;rw[q] at h;simp only at h;cases z:(ops[j]?).bind (·.dst) with
  |none=>rw[z] at h;exact h.elim
  |some s=>
   rw[z] at h;simp only at h;cases I:look e s with
   |none=>rw[I] at h;exact h.elim
   |some x=>
    rw[I] at h;cases x with
    |b c=>
     simp only at h;have hw:=rt f q z I (c:=c) rfl;cases E:xor c b with
     |true=>
      rw[E] at h hw;exact .inr ⟨hw,fe.of h f p rfl λ_=>cB.refl _ _⟩
     |false=>
      rw[E] at h hw;exact .inl ⟨hw,rq h f p⟩
    |v y=>
     simp only at h;obtain⟨c,rfl,A,B⟩:=h;have hw:=rt f q z I (c:=c) rfl;have C:=f.lit I (c:=c) rfl;cases c with
     |true=>
      have A:=A rfl;cases b with
      |true=>exact .inl ⟨hw,rq A C p⟩
      |false=>exact .inr ⟨hw,fe.of A C p rfl λ_=>cB.refl _ _⟩
     |false=>
      have B:=B rfl;cases b with
      |true=>exact .inr ⟨hw,fe.of B C p rfl λ_=>cB.refl _ _⟩
      |false=>exact .inl ⟨hw,rq B C p⟩
    |u=>exact .inr ⟨xK f q z I,fe.of h f p rfl λ_=>cB.refl _ _⟩
def gI (D:List Nat) (a a':Act):Prop:=a'.defers=a.defers/\ ∀t,t∉D->a'.tmps.getD t undef=a.tmps.getD t undef
theorem gI.refl (D:List Nat) (a:Act):gI D a a:=⟨rfl,λ_ _=>rfl⟩
theorem gI.trans {a b c:Act} (h:gI D a b) (k:gI D b c):gI D a c:=⟨k.1.trans h.1,λt e=>(k.2 t e).trans (h.2 t e)⟩
theorem gI.put (a:Act) {d:Option Tmp} (v:x1) (e:∀t,d=σ t->t∈D):gI D a (a.put d v):=by
 cases d with
 |none=>exact gI.refl _ _
 |some s=>
  refine⟨rfl,λt f=>?_⟩;have j:s≠t:=λh=>f (h▸e s rfl);simp only[Act.put,Array.getD_eq_getD_getElem?];rw[Array.getElem?_setIfInBounds_ne j]
def ma (N:Nat) (free:fu) (K:Env->x3->Prop) (D:List Nat) (a:Act) (w:x3) (a':Act) (w':x3):Prop:=
 ∃e,K e w'/\S6 N e a'/\gI D a a'/\(free.1=false->cB free.2 w w')
theorem ma.step {K:Env->x3->Prop} {a e a':Act} {J:x3} (h:ma N free K D e J a' w') (hk:gI D a e) (j:free.1=false->cB free.2 w J):
  ma N free K D a w a' w':=by
 obtain⟨p,h1,q,r,s⟩:=h;exact⟨p,h1,q,hk.trans r,λf=>(j f).trans (s f)⟩
def m4 (N:Nat) (l:List T6):Bool:=l.all λo=>jz N o.dst
theorem Fj {K:Env->x3->Prop} {Q:Exit->Act->x3->Prop} (B:∀o∈ops.toList,∀t,o.dst=σ t->t∈D) (y:m4 N ops.toList=true):
  ∀ (l:List T6) (k:Nat) (e:Env) (a:Act) (w:x3),(∀j,l[j]? =ops[k+j]?)->oo P free ops l e w K->S6 N e a->
   (∀a' w',ma N free K D a w a' w'->Q .normal a' w')->wpOpsIn (et r) 0 P ops Q (List.range' k l.length) a w:=by
 intro l;induction l with
 |nil=>
  intro k e a w _ h f p;exact p a w ⟨e,h,f,gI.refl _ _,λ_=>cB.refl _ _⟩
 |cons o l C=>
  intro k e a w z h f p;have q:=z 0;simp only[List.getElem?_cons_zero,Nat.add_zero] at q;have A:o∈ops.toList:=by
   have:=q.symm;rw[<-S9] at this;exact x5 this
  have E:jz N o.dst=true:=by
   simp only[m4,List.all_eq_true] at y;exact y o A
  have F:∀j,l[j]? =ops[k+1+j]?:=λj=>by
   have:=z (j+1);rw[List.getElem?_cons_succ] at this;rw[this];congr 1;omega
  have next:∀s J,fe N free (λG w'=>oo P free ops l G w' K) o a w s J->wpOpsIn (et r) 0 P ops Q (List.range' (k+1) l.length) s J:=by
   rintro s J ⟨H,v,I,L,rfl,M⟩;refine C (k+1) H _ J F I L λa' w' O=>p a' w' (O.step (gI.put a v λt R=>B o A t R) M)
  simp only[oo] at h;show wpOpsIn (et r) 0 P ops Q (k::List.range' (k+1) l.length) a w;unfold wpOpsIn;rw[<-q];simp only;rcases xL (r:=r) (Q:=Q) h f E with⟨hw,x⟩|⟨hw,x⟩
  .rw[if_pos hw];exact T6.wpIn_mono next x
  .rw[hw];exact⟨λ_ _=>trivial,next _ _ x⟩
theorem Fk {K:Env->x3->Prop} {Q:Exit->Act->x3->Prop} {id:Nat} {e:Env} {a:Act} (f:∀o∈ops.toList,∀t,o.dst=σ t->t∈D)
  (p:m4 N ops.toList=true) (h:oo P free ops ops.toList e w K) (q:S6 N e a) (s:∀a' w',ma N free K D a w a' w'->Q .normal a' w'):
  (Code.region id ops false).wpIn (et r) 0 P Q a w:=by
 refine wpIn_region ?_;have:=Fj (r:=r) f p ops.toList 0 e a w (λj=>Ξ) h q s;rw[List.range_eq_range'];simpa using this
end
section
variable {P:W9} {N:Nat} {r:Option Nat} {free:fu} {ops:Array T6} {Q:Exit->Act->x3->Prop}
theorem Fl (e:Option Nat) (o:T6) (I:∀cs b,o.op≠ .select cs b) (a:Act) (d:Option Tmp) (v:x1) (h:∀t,d=σ t->t∉o.looksAt ops):
  o.semAt e (a.put d v).eval=o.semAt e a.eval:=by
 have he:=execOp_put o I a d v h;unfold T6.semAt;split
 .rename_i l c f;have:resolve (a.put d v).eval c o.type=resolve a.eval c o.type:=resolve_congr c o.type λx j=>Act.eval_put λt p q=>h t p (by
   subst q;refine List.mem_append_left _ (List.mem_filterMap.2 ⟨.tmp t,?_,rfl⟩);rw[f];simpa[Op.operands] using j)
  rw[this]
 .exact he
def mb (o:T6) (w0:x3) (st:x3->Prop) (w':x3):Prop:=lA o=true\/Ext w0 w'\/ ∃J,st J/\Ext J w'
theorem mb.ext {o:T6} {w0:x3} {st:x3->Prop} (h:mb o w0 st w) (k:Ext w w'):mb o w0 st w':=by
 rcases h with h|h|⟨J,h1,a⟩
 .exact .inl h
 .exact .inr (.inl (h.trans k))
 .exact .inr (.inr ⟨J,h1,a.trans k⟩)
theorem Fm {o:T6} (hm:lA o=true) {e:S5->x1} (h:(execOp e o).run P w= .ok (.value v) w):(execOp e o).run P w'= .ok (.value v) w':=by
 unfold lA at hm;split at hm
 .rename_i x a;unfold execOp at h ⊢;simp only[a,V4,Result.ok.injEq,and_true] at h ⊢;exact h
 .rename_i x a;unfold execOp at h ⊢;simp only[a,V4,Result.ok.injEq,and_true] at h ⊢;exact h
 .rename_i x i a;unfold execOp at h ⊢;simp only[a] at h ⊢;exact ((Still.bind (Still.extract _ _) λ_=>Still.pure _) _ _ _ h).2 _
 .rename_i t x i a;unfold execOp at h ⊢;simp only[a] at h ⊢;exact ((Still.bind (Still.indexAt _ _ _) λ_=>Still.pure _) _ _ _ h).2 _
 .cases hm
def h6 (P:W9) (ops:Array T6) (o:T6) (v:x1) (a:Act) (w0:x3->Prop):Prop:=
 (Region.wanted o (yielded ops a.tmps)=true/\(∀c,o.op≠ .defer c)/\ ∀w',w0 w'->(execOp a.eval o).run P w'= .ok (.value v) w')\/
 (Region.wanted o (yielded ops a.tmps)=false/\v=undef)
theorem h6.put {o e:T6} {a:Act} {w0:x3->Prop} (f:h6 P ops o v a w0) (I:∀cs b,o.op≠ .select cs b) (h:∀t,e.dst=σ t->t∉o.looksAt ops) (u:x1):
  h6 P ops o v (a.put e.dst u) w0:=by
 unfold h6 at*;rw[execOp_put o I a e.dst u h,wanted_put o a e.dst u h];exact f
theorem h6.go {i:Nat} {e:T6} {a:Act} {w0:x3->Prop} (hi:ops[i]? =σ e) (f:h6 P ops e v a w0) (hw:w0 w) {K:Act->x3->Prop} (h:K (a.put e.dst v) w):
  wpOpIn (et r) 0 P ops Q i K a w:=by
 unfold wpOpIn;simp only[hi];rcases f with⟨h1,j,p⟩|⟨h1,rfl⟩
 .rw[if_pos h1];refine⟨λ_ _=>trivial,?_⟩;rw[T6.semAt_eq _ _ _ j,p w hw,T6.uponIn_value];exact h
 .rw[h1];exact⟨λ_ _=>trivial,h⟩
theorem Fo {p s:T6} (B:ops[j]? =σ s) (C:p.apart ops s=true) (E:∀cs b,p.op≠ .select cs b) (F:∀cs b,s.op≠ .select cs b)
  (z:∀c a w,¬Q (.panic c) a w) {K:Act->x3->Prop} {a:Act} {w:x3} {w0:x3->Prop} (q:h6 P ops p v a w0) (h:wpOpIn (et r) 0 P ops Q j K (a.put p.dst v) w):
  wpOpIn (et r) 0 P ops Q j (λa' w'=>h6 P ops p v a' w0/\K (a'.put p.dst v) w') a w:=by
 obtain⟨h1,y,G⟩:=T6.apart_spec C;have aV:∀ (a:Act),h6 P ops p v a w0-> ∀u,h6 P ops p v (a.put s.dst u) w0:=λa q u=>q.put E G u;have H:∀d,h6 P ops p v {a with defers:=d::a.defers} w0:=λd=>q;unfold wpOpIn at*;simp only[B] at*;rw[wanted_put s a p.dst v h1] at h;split
 .rename_i hw;simp only[hw,if_true] at h;obtain⟨_,h⟩:=h;refine⟨λ_ _=>trivial,?_⟩;rw[Fl _ s F a p.dst v h1] at h;generalize (s.semAt (et r).round a.eval).run P w=res at*;cases res with
  |ok n w'=>
   cases n<;>simp only[T6.uponIn] at h ⊢
   case value u=>exact⟨aV a q u,by rw[<-Act.put_comm a v u y];exact h⟩
   case skip=>exact⟨aV a q _,by rw[<-Act.put_comm a v undef y];exact h⟩
   case defer d=>
    refine⟨aV _ (H d) _,?_⟩;rw[<-Act.put_comm _ v undef y,<-Act.put_defers];exact h
   case enter f args=>
    refine⟨h.1,CallsIn.mono h.2 λe A he=>?_⟩;cases e with
    |returned u=>exact⟨aV a q u,by rw[<-Act.put_comm a v u y];exact he⟩
    |panicked c=>exact absurd he (z _ _ _)
    |outgrown=>exact he
   case row row args=>exact⟨h.1,RowsIn.mono h.2 λu A he=>⟨aV a q u,by rw[<-Act.put_comm a v u y];exact he⟩⟩
   case round l f tmps I body=>
    refine⟨h.1,RoundIn.mono h.2 λe A he=>?_⟩;cases e with
    |returned u=>exact⟨aV a q u,by rw[<-Act.put_comm a v u y];exact he⟩
    |panicked c=>exact absurd he (z _ _ _)
    |outgrown=>exact he
  |halt x w'=>
   cases x<;>simp only[T6.uponIn] at h ⊢
   case panic u=>exact absurd h (z _ _ _)
 .rename_i hw;simp only[hw] at h;exact⟨λ_ _=>trivial,aV a q _,by rw[<-Act.put_comm a v undef y];exact h.2⟩
def lB (ops:Array T6) (bs:Array Nat):Bool:=
 (V6 ops.size).all λj=>(V6 ops.size).all λk=>!((bs.getD j 0).testBit k)||
  (match ops[j]? with
   |some o=>o.after.any λe=>Region.binds .any e&&Nat.blt e.on j&&(S1 e.on k||(bs.getD e.on 0).testBit k)
   |none=>false)
def Down (ops:Array T6) (a:Array Bool):Prop:=
 ∀ (x:Nat) (o:T6),ops[x]? =σ o->a.getD x false=true-> ∀e∈o.after,Region.binds .any e=true->a.getD e.on false=true
theorem xM {bs:Array Nat} (f:lB ops bs=true) {k:Nat} (q:j<ops.size) (hk:k<ops.size) (h:(bs.getD j 0).testBit k=true):
  ∃o,ops[j]? =σ o/\ ∃e∈o.after,Region.binds .any e=true/\e.on<j/\(e.on=k\/(bs.getD e.on 0).testBit k=true):=by
 simp only[lB,List.all_eq_true,List.mem_range] at f;have:=f j q k hk;rw[h] at this;simp only[Y5,Bool.false_or] at this;cases p:ops[j]? with
 |none=>rw[p] at this;cases this
 |some o=>
  rw[p] at this;obtain⟨e,he,a⟩:=Array.any_eq_true'.1 this;simp only[T0,Nat.blt_eq,Bool.or_eq_true] at a;exact⟨o,rfl,e,he,a.1.1,a.1.2,a.2.imp (λh=>Nat.eq_of_beq_eq_true h) id⟩
theorem Fp {bs:Array Nat} {a:Array Bool} (p:lB ops bs=true) (q:Down ops a):∀ (j k:Nat),j<ops.size->k<ops.size->a.getD j false=true->
  (bs.getD j 0).testBit k=true->a.getD k false=true:=by
 intro j;induction j using Nat.strongRecOn with
 |_ j r=>
  intro k s hk w h;obtain⟨o,x,e,he,y,z,h⟩:=xM p s hk h;have f:=q j o x w e he y;rcases h with rfl|h
  .exact f
  .exact r e.on z k Ω hk f h
theorem xN {bs:Array Nat} {a:Array Bool} (f:lB ops bs=true) (s:Down ops a) {k:Nat} (hk:k<ops.size) (w:j∈Region.ready .any ops a)
  (h:(bs.getD j 0).testBit k=true):a.getD k false=true:=by
 obtain⟨_,o,p,x⟩:=mem_ready.1 w;have y:=(j0.1 p).1;obtain⟨o',q,e,he,z,A,h⟩:=xM f y hk h;rw[p] at q;cases q;have r:=x e he z;rcases h with rfl|h
 .exact r
 .exact Fp f s e.on k Ω hk r h
theorem Down.set {a:Array Bool} (r:Down ops a) {i:Nat} (s:i∈Region.ready .any ops a):Down ops (a.setIfInBounds i true):=by
 intro x o f h e he j;by_cases p:x=i
 .subst p;obtain⟨_,o',q,w⟩:=mem_ready.1 s;rw[f] at q;cases q;exact getD_set_true (w e he j)
 .rw[getD_set_ne false (S8 p)] at h;exact getD_set_true (r x o f h e he j)
theorem uo {a:Array Bool} {k:Nat} (h:a.getD k true=false):a.getD k false=false:=by
 rcases Nat.lt_or_ge k a.size with h'|h'
 .simpa[h'] using h
 .simp[Array.getElem?_eq_none h'] at h
def mc (ops:Array T6) (i:Nat):Bool:=match ops[i]? with
 |some o=>i9 o
 |none=>false
def md (bs:Array Nat) (a:List (x3×List (Nat×(x3->Prop)))) (j:Nat) (w':x3):Prop:=∀g∈a,∀x∈g.2,kJ bs j x.1=true->Ext g.1 w'\/x.2 w'
theorem uq {bs:Array Nat} {j:Nat} {w':x3}:∀ {l:List (Nat×(x3->Prop))},oq bs j w' l-> ∀x∈l,kJ bs j x.1=true->x.2 w'
 |[],_,_,h,_=>by cases h
 |y::l,h,x,a,hu=>by
  unfold oq at h;cases e:kJ bs j y.1 with
  |true=>
   rw[e] at h;cases a with
   |head=>exact h.1
   |tail _ a=>exact uq h.2 x a hu
  |false=>
   rw[e] at h;cases a with
   |head=>rw[e] at hu;cases hu
   |tail _ a=>exact uq (show oq bs j w' l from h) x a hu
theorem xO {bs:Array Nat} {j:Nat}:∀ {l:List (Nat×(x3->Prop))},pF bs j l=false-> ∀x∈l,kJ bs j x.1=false
 |[],_,_,h=>by cases h
 |y::l,h,x,a=>by
  simp only[pF,S7] at h;cases a with
  |head=>exact h.1
  |tail _ a=>exact xO h.2 x a
theorem ur {bs:Array Nat} {j:Nat} {w':x3} {C:Prop}:∀ {s:List (x3×List (Nat×(x3->Prop)))},mZ bs j w' C s->C/\md bs s j w'
 |[],h=>⟨h,λg w=>by cases w⟩
 |g::r,h=>by
  unfold mZ at h;cases hu:pF bs j g.2 with
  |true=>
   rw[hu] at h;obtain⟨h1,p⟩:=ur h.2;refine⟨h1,λq a x f e=>?_⟩;cases a with
   |head=>exact h.1.imp id λh=>uq h x f e
   |tail _ a=>exact p q a x f e
  |false=>
   rw[hu] at h;obtain⟨h1,p⟩:=ur (show mZ bs j w' C r from h);refine⟨h1,λq a x f e=>?_⟩;cases a with
   |head=>rw[xO hu x f] at e;cases e
   |tail _ a=>exact p q a x f e
def uu (ops:Array T6) (bs:Array Nat) (a:List (x3×List (Nat×(x3->Prop)))) (j:Nat) (w w':x3):Prop:=(mc ops j=true->Ext w w')/\(mc ops j=false->md bs a j w')
def iA (r:Option Nat) (P:W9) (ops:Array T6) (bs:Array Nat) (Q:Exit->Act->x3->Prop):Nat->Array Bool->List (x3×List (Nat×(x3->Prop)))->Act->x3->Prop
 |0,e,_,a,w=>Region.ready .any ops e=[]/\Q .normal a w
 |fuel+1,e,f,a,w=>(Region.ready .any ops e=[]->Q .normal a w)/\
  ∀i∈Region.ready .any ops e,wpOpIn (et r) 0 P ops Q i (λa' w'=>uu ops bs f i w w'/\iA r P ops bs Q fuel (e.setIfInBounds i true) f a' w') a w
theorem iA.any {bs:Array Nat}:∀ (fuel:Nat) (e:Array Bool) (f:List (x3×List (Nat×(x3->Prop)))) (a:Act) (w:x3),iA r P ops bs Q fuel e f a w->wpAnyIn (et r) 0 P .any ops Q fuel e a w
 |0,_,_,_,_,h=>h
 |fuel+1,_,_,_,_,h=>⟨h.1,λi hi=>wpOpIn_mono (λa' w' h'=>iA.any fuel _ _ a' w' h'.2) (h.2 i hi)⟩
theorem Fq {bs:Array Nat} {a:Array Bool} (e:lB ops bs=true) (f:Down ops a) {i:Nat} {r:T6} (hi:ops[i]? =σ r)
  (p:i∈Region.ready .any ops a) (q:j∈Region.ready .any ops a) (s:j≠i):kJ bs j i=true:=by
 have w:=(j0.1 hi).1;obtain⟨x,B,y,_⟩:=mem_ready.1 q;have z:=(j0.1 y).1;have A:=(mem_ready.1 p).1;simp only[kJ,T0,Bool.not_eq_true'];refine⟨?_,?_,?_⟩
 .cases h:S1 i j with
  |true=>exact absurd (Nat.eq_of_beq_eq_true h).symm s
  |false=>rfl
 .cases h:(bs.getD j 0).testBit i with
  |true=>have:=xN e f w q h;rw[uo A] at this;cases this
  |false=>rfl
 .cases h:(bs.getD i 0).testBit j with
  |true=>have:=xN e f z p h;rw[uo x] at this;cases this
  |false=>rfl
theorem iA.take {bs:Array Nat} (S:lB ops bs=true) (T:Region.noSelect ops=true) (U:∀c a w,¬Q (.panic c) a w) {i:Nat} {p:T6} (hi:ops[i]? =σ p) (V:i9 p=true)
  {w0:x3} {A ev':List (x3×List (Nat×(x3->Prop)))} (G:∀j w',md bs ev' j w'->md bs A j w') {st:x3->Prop} (W:lA p=false-> ∀j w',kJ bs j i=true->md bs ev' j w'->Ext w0 w'\/st w'):
  ∀ (fuel:Nat) (f:Array Bool) (a:Act) (w:x3),Down ops f->
   (∀j y,ops[j]? =σ y->j≠i->f.getD j true=false->(∀e∈y.after,Region.binds .any e=true->e.on≠i)->p.apart ops y=true)->
   i∈Region.ready .any ops f->h6 P ops p v a (mb p w0 st)->mb p w0 st w->
   iA r P ops bs Q fuel (f.setIfInBounds i true) ev' (a.put p.dst v) w->iA r P ops bs Q (fuel+1) f A a w:=by
 have I:=Region.noSelect_spec T;have X:mc ops i=true:=by simp[mc,hi,V]
 have hM:∀ (fuel:Nat) (f:Array Bool) (a:Act) (w:x3),iA r P ops bs Q fuel f ev' a w->iA r P ops bs Q fuel f A a w:=by
  intro fuel;induction fuel with
  |zero=>intro f a w h;exact h
  |succ fuel C=>intro f a w h;exact⟨h.1,λj s=>wpOpIn_mono (λa' w' h'=>⟨⟨h'.1.1,λE=>G _ _ (h'.1.2 E)⟩,C _ a' w' h'.2⟩) (h.2 j s)⟩
 have J:∀w,uu ops bs A i w w:=λw=>⟨λ_=>Ext.refl _,λh=>by rw[X] at h;cases h⟩;intro fuel;induction fuel with
 |zero=>
  intro f a w _ _ x B hw H;refine⟨λh=>(by rw[h] at x;cases x),λj s=>?_⟩;by_cases q:j=i
  .subst q;exact B.go hi hw ⟨J w,hM _ _ _ _ H⟩
  .have:=ready_mono s q;rw[H.1] at this;cases this
 |succ fuel C=>
  intro f a w K L x B hw H;refine⟨λh=>(by rw[h] at x;cases x),λj s=>?_⟩;by_cases q:j=i
  .subst q;exact B.go hi hw ⟨J w,hM _ _ _ _ H⟩
  .have h1:=H.2 j (ready_mono s q);have hu:=Fq S K hi x s q;obtain⟨M,y,F,Y⟩:=mem_ready.1 s;have Z:∀e∈y.after,Region.binds .any e=true->e.on≠i:=λe he aa ab=>by
    have h1:=Y e he aa;rw[ab,uo (mem_ready.1 x).1] at h1;cases h1
   have ac:=Fo F (L j y F q M Z) (λcs b=>I i p cs b hi) (λcs b=>I j y cs b F) U B h1;have ad:∀k ok,ops[k]? =σ ok->k≠i->(f.setIfInBounds j true).getD k true=false->
     (∀e∈ok.after,Region.binds .any e=true->e.on≠i)->p.apart ops ok=true:=λk ok hk ae N af=>by
    refine L k ok hk ae ?_ af;by_cases O:j=k
    .subst O;exact M
    .rw[getD_set_ne true O] at N;exact N
   refine wpOpIn_mono (λa' w' z=>⟨⟨z.2.1.1,λE=>G _ _ (z.2.1.2 E)⟩,C (f.setIfInBounds j true) a' w' (K.set s) ad (ready_mono x (S8 q)) z.1 ?_ ?_⟩) ac
   .cases hm:lA p with
    |true=>exact .inl hm
    |false=>
     cases R:mc ops j with
     |true=>exact hw.ext (z.2.1.1 R)
     |false=>exact .inr ((W hm j w' hu (z.2.1.2 R)).imp id λh=>⟨w',h,Ext.refl _⟩)
   .rw[Array.setIfInBounds_comm _ _ q];exact z.2.2
theorem xP {p:Nat->Prop}:∀ {l:List Nat},ul p l-> ∀i∈l,p i
 |[],_,_,h=>by cases h
 |[i],h,j,a=>by cases a with
  |head=>exact h
  |tail _ h=>cases h
 |i::k::l,h,j,a=>by
  obtain⟨h1,e⟩:=h;cases a with
  |head=>exact h1
  |tail _ a=>exact xP e j a
theorem uv:∀ {l:List Nat} {q:Nat},l6 ops l=σ q->q∈l/\ ∃o,ops[q]? =σ o/\i9 o=true
 |[],q,h=>by cases h
 |i::l,q,h=>by
  simp only[l6] at h;cases a:ops[i]? with
  |none=>rw[a] at h;obtain⟨h1,e⟩:=uv h;exact⟨.tail _ h1,e⟩
  |some o=>
   rw[a] at h;simp only at h;cases f:i9 o with
   |true=>rw[f] at h;simp only[cond_true,Y3] at h;subst h;exact⟨.head _,o,a,f⟩
   |false=>rw[f] at h;obtain⟨h1,e⟩:=uv h;exact⟨.tail _ h1,e⟩
theorem Fr {o:T6} {e:Env} {a:Act} {K:Env->(x3->Prop)->Prop} (h:uk P ops o e w K) (f:S6 N e a) (F:jz N o.dst=true):
  ∃v st,h6 P ops o v a (mb o w st)/\ ∃p,K p st/\S6 N p (a.put o.dst v):=by
 unfold uk at h;have z:∀ {e:Env},S6 N e a->ly P o e w K->Region.wanted o (yielded ops a.tmps)=true-> ∃v st,h6 P ops o v a (mb o w st)/\ ∃p,K p st/\S6 N p (a.put o.dst v):=λf h hw=>by
  obtain⟨v,st,h1,G,H,L⟩:=xJ h f F;exact⟨v,st,.inl ⟨hw,H,λw' A=>A.elim (λhm=>Fm hm (h1 w (Ext.refl w))) λh=>h.elim (h1 w') λ⟨J,M,O⟩=>L J M w' O⟩,G⟩
 have skip:∀ {e:Env},S6 N e a->K (dW e o.dst .u) (λ_=>True)->Region.wanted o (yielded ops a.tmps)=false-> ∃v st,h6 P ops o v a (mb o w st)/\ ∃p,K p st/\S6 N p (a.put o.dst v):=λf h hw=>
  ⟨undef,_,.inr ⟨hw,rfl⟩,_,h,f.put F rfl⟩
 cases q:o.guard with
 |none=>rw[q] at h;exact z f h (by simp[Region.wanted,q])
 |some Q=>
  obtain⟨j,b⟩:=Q;rw[q] at h;simp only at h;cases r:(ops[j]?).bind (·.dst) with
  |none=>rw[r] at h;exact h.elim
  |some s=>
   rw[r] at h;simp only at h;cases I:look e s with
   |none=>rw[I] at h;exact h.elim
   |some x=>
    rw[I] at h;cases x with
    |b c=>
     simp only at h;have hw:=rt f q r I (c:=c) rfl;cases A:xor c b with
     |true=>rw[A] at h hw;exact skip f h hw
     |false=>rw[A] at h hw;exact z f h hw
    |v y=>
     simp only at h;obtain⟨c,rfl,B,C⟩:=h;have hw:=rt f q r I (c:=c) rfl;have E:=f.lit I (c:=c) rfl;cases c with
     |true=>
      have B:=B rfl;cases b with
      |true=>exact z E B hw
      |false=>exact skip E B hw
     |false=>
      have C:=C rfl;cases b with
      |true=>exact skip E C hw
      |false=>exact z E C hw
    |u=>exact skip f h (xK f q r I)
theorem uw:∀ {l:List Nat},l6 ops l=ν-> ∀j∈l,mc ops j=false
 |[],_,_,h=>by cases h
 |i::l,h,j,a=>by
  simp only[l6] at h;cases e:ops[i]? with
  |none=>
   rw[e] at h;cases a with
   |head=>simp[mc,e]
   |tail _ a=>exact uw h j a
  |some o=>
   rw[e] at h;simp only at h;cases f:i9 o with
   |true=>rw[f] at h;cases h
   |false=>
    rw[f] at h;cases a with
    |head=>simp[mc,e,f]
    |tail _ a=>exact uw h j a
theorem Fs {bs:Array Nat} {same:Bool} {q:Nat} {st:x3->Prop} {a:List (x3×List (Nat×(x3->Prop)))} (I:same=true-> ∃ks r,a=(w,ks)::r):
  (∀j w',md bs (pE same q w st a) j w'->md bs a j w')/\(∀j w',kJ bs j q=true->md bs (pE same q w st a) j w'->Ext w w'\/st w')/\ ∃ks r,pE same q w st a=(w,ks)::r:=by
 cases same with
 |true=>
  obtain⟨ks,r,rfl⟩:=I rfl;refine⟨λj w' h g e x f hu=>?_,λj w' hu h=>h (w,(q,st)::ks) (.head _) (q,st) (.head _) hu,_,_,rfl⟩;cases e with
  |head=>exact h (w,(q,st)::ks) (.head _) x (.tail _ f) hu
  |tail _ e=>exact h g (.tail _ e) x f hu
 |false=>
  refine⟨λj w' h g e x f hu=>h g (.tail _ e) x f hu,λj w' hu h=>h (w,[(q,st)]) (.head _) (q,st) (.head _) hu,_,_,rfl⟩
theorem Ft {K:Env->x3->Prop} {bs:Array Nat} (V:lB ops bs=true) (W:Region.noSelect ops=true) (X:∀c a w,¬Q (.panic c) a w)
  (M:∀o∈ops.toList,∀t,o.dst=σ t->t∈D) (Y:m4 N ops.toList=true):
  ∀ (fuel:Nat) (p:Array Bool) (same:Bool) (s:List (x3×List (Nat×(x3->Prop)))) (e:Env) (a:Act) (w:x3),Down ops p->(same=true-> ∃ks r,s=(w,ks)::r)->
   l8 P free ops bs fuel p same s e w K->S6 N e a->
   (∀a' w',ma N free K D a w a' w'->Q .normal a' w')->iA r P ops bs Q fuel p s a w:=by
 have F:∀ {j:Nat} {o:T6},ops[j]? =σ o->o∈ops.toList:=λh=>by
  rw[<-S9] at h;exact x5 h
 have ok:∀ {j:Nat} {o:T6},ops[j]? =σ o->jz N o.dst=true:=λh=>by
  simp only[m4,List.all_eq_true] at Y;exact Y _ (F h)
 intro fuel;induction fuel with
 |zero=>
  intro p same s e a w A O h C B;unfold l8 at h;cases y:Region.ready .any ops p with
  |nil=>rw[y] at h;exact⟨y,B a w ⟨e,h,C,gI.refl _ _,λ_=>cB.refl _ _⟩⟩
  |cons i l=>rw[y] at h;exact h.elim
 |succ fuel R=>
  intro p same s e a w A O h C B;unfold l8 at h;cases y:Region.ready .any ops p with
  |nil=>
   rw[y] at h;refine⟨λ_=>B a w ⟨e,h,C,gI.refl _ _,λ_=>cB.refl _ _⟩,λi hi=>?_⟩;rw[y] at hi;cases hi
  |cons i l=>
   rw[y] at h;simp only at h;cases G:l6 ops (i::l) with
   |some q=>
    rw[G] at h;simp only at h;obtain⟨ae,o,f,Z⟩:=uv G;cases H:Region.free .any ops p q with
    |false=>rw[H] at h;exact h.elim
    |true=>
     rw[H,f] at h;simp only[cond_true] at h;obtain⟨v,st,aa,I,z,ab⟩:=Fr h C (ok f);have L:q∈Region.ready .any ops p:=by rw[y];exact ae
     cases hm:lA o with
     |true=>
      rw[hm] at z;refine iA.take V W X f Z (w0:=w) (ev':=s) (λ_ _ h=>h) (λh=>by rw[hm] at h;cases h) fuel p a w A (Region.free_spec f H) L aa (.inr (.inl (Ext.refl _))) ?_;exact R _ same s I _ w (A.set L) O z ab λa' w' x=>B a' w' (x.step (gI.put a v λt E=>M o (F f) t E) λ_=>cB.refl _ _)
     |false=>
      rw[hm] at z;obtain⟨h1,af,ag⟩:=Fs (bs:=bs) (q:=q) (st:=st) O;refine iA.take V W X f Z (w0:=w) (ev':=pE same q w st s) h1 (λ_=>af) fuel p a w A (Region.free_spec f H) L aa (.inr (.inl (Ext.refl _))) ?_;exact R _ true _ I _ w (A.set L) (λ_=>ag) z ab λa' w' x=>B a' w' (x.step (gI.put a v λt E=>M o (F f) t E) λ_=>cB.refl _ _)
   |none=>
    rw[G] at h;simp only at h;refine⟨(λac=>by rw[y] at ac;cases ac),λj ad=>?_⟩;have S:=ad;rw[y] at S;have ah:=uw G j S;have x:=xP h j S;cases f:ops[j]? with
    |none=>rw[f] at x;exact x.elim
    |some o=>
     rw[f] at x;simp only at x;unfold wpOpIn;simp only[f];have next:∀T J,fe N free (λI w'=>mZ bs j w' (l8 P free ops bs fuel (p.setIfInBounds j true) false s I w' K) s) o a w T J->
       uu ops bs s j w J/\iA r P ops bs Q fuel (p.setIfInBounds j true) s T J:=by
      rintro T J ⟨ai,v,z,aj,rfl,ak⟩;obtain⟨z,al⟩:=ur z;exact⟨⟨λh=>(by rw[ah] at h;cases h),λ_=>al⟩,
       R _ false s ai _ J (A.set ad) (λh=>by cases h) z aj λa' w' x=>B a' w' (x.step (gI.put a v λt E=>M o (F f) t E) ak)⟩
     rcases xL (r:=r) (Q:=Q) x C (ok f) with⟨hw,U⟩|⟨hw,U⟩
     .rw[if_pos hw];exact T6.wpIn_mono next U
     .rw[hw];exact⟨λ_ _=>trivial,next _ _ U⟩
theorem Fu (hm:P.follows .mixedOrders=true) {K:Env->x3->Prop} {id:Nat} {e:Env} {a:Act} (p:lB ops (Region.before ops)=true) (q:∀c a w,¬Q (.panic c) a w)
  (s:∀o∈ops.toList,∀t,o.dst=σ t->t∈D) (y:m4 N ops.toList=true)
  (h:∀w',Ext w w'->Ext w' w->cM w w'->um P free ops e w' K) (z:S6 N e a) (A:∀a' w',ma N free K D a w a' w'->Q .normal a' w'):
  (Code.region id ops true).wpIn (et r) 0 P Q a w:=by
 refine wpIn_region_any hm ?_;have h:=h {w with drawn:=w.drawn+1} (rk w _) ⟨o4 _,λ_ _ h _=>h⟩ (pz w _ (Nat.le_succ _));unfold um at h;cases f:Region.noSelect ops with
 |false=>rw[f] at h;exact h.elim
 |true=>
  rw[f] at h;refine iA.any _ _ _ _ _ (Ft p f q s y ops.size _ false [] e a _ ?_ (λh=>by cases h) h z λa' w' B=>A a' w' (B.step (gI.refl _ _) λ_=>(pz w _ (Nat.le_succ _)).b));intro x o _ j;rcases Nat.lt_or_ge x ops.size with h'|h'
  .simp[h'] at j
  .simp[h'] at j
end
def ja (t:Nat):List Nat->Bool
 |[]=>false
 |s::r=>bif S1 s t then true else ja t r
theorem ux {t:Nat}:∀ {l:List Nat},ja t l=true↔t∈l
 |[]=>by simp[ja]
 |s::r=>by
  simp only[ja];cases h:S1 s t with
  |true=>simp[Nat.eq_of_beq_eq_true h]
  |false=>
   have:=Nat.ne_of_beq_eq_false h;simp[ux (l:=r),S8 this]
def m8:List T6->List Nat
 |[]=>[]
 |o::l=>match o.dst with
  |some d=>d::m8 l
  |none=>m8 l
def tmpsOf:List S5->List Nat
 |[]=>[]
 | .tmp t::l=>t::tmpsOf l
 |_::l=>tmpsOf l
def Fv (ops:Array T6) (o:T6):List Nat:=
 match o.guard with
 |some (j,_)=>match (ops[j]?).bind (·.dst) with
  |some s=>[s]
  |none=>[]
 |none=>[]
def ru (D:List Nat):List Nat->List Nat
 |[]=>[]
 |t::r=>bif ja t D then ru D r else t::ru D r
def uy (D:List Nat):List Nat->List Nat
 |[]=>[]
 |t::r=>bif ja t D then t::uy D r else uy D r
def xQ (ops:Array T6):List T6->List Nat->List Nat
 |[],_=>[]
 |o::l,D=>ru D (tmpsOf (opsOf o.op)++Fv ops o)++xQ ops l (match o.dst with
  |some d=>d::D
  |none=>D)
def dz:Code->List Nat
 | .region _ ops _=>m8 ops.toList
 | .seq a b=>dz a++dz b
 | .cond _ a b=>dz a++dz b
 | .block _ c=>dz c
 | .loop c=>dz c
 | .scope c=>dz c
 |_=>[]
def jA (id:Nat):Code->Nat
 | .seq a b=>jA id a+jA id b
 | .cond _ a b=>jA id a+jA id b
 | .block _ c=>jA id c
 | .loop c=>jA id c
 | .scope c=>jA id c
 | .exit i=>bif S1 i id then 1 else 0
 | .rangeFunc _ _ _ b=>jA id b
 |_=>0
def Fw (ops:Array T6):Bool:=
 let bs:=Region.before ops;let a:=λ(i:Nat)=>match ops[i]? with|some o=>!(i9 o)|none=>false
 (V6 ops.size).any λj=>a j&&((V6 j).any λi=>a i&&(!((bs.getD j 0).testBit i)&& !((bs.getD i 0).testBit j)))
def kK:Code->Nat
 | .region _ ops e=>bif (e&&Fw ops)||ops.any (·.guard.isSome) then 2 else 1
 | .seq a b=>bif S1 (kK a) 0 then 0 else kK b
 | .cond _ a b=>kK a+kK b
 | .block id c=>kK c+jA id c
 | .loop _=>0
 | .scope c=>kK c
 | .exit _=>0
 | .goto _=>0
 | .ret=>0
 | .refuse _=>0
 |_=>1
def lC:Code->List Nat
 | .region _ ops _=>m8 ops.toList
 | .seq a b=>lC a++lC b
 | .cond _ a b=>bif S1 (kK a) 0 then lC b else bif S1 (kK b) 0 then lC a else uy (lC a) (lC b)
 | .block id c=>bif S1 (jA id c) 0 then lC c else[]
 | .scope c=>lC c
 |_=>[]
def reads:Code->List Nat
 | .region _ ops _=>xQ ops ops.toList []
 | .seq a b=>reads a++ru (lC a) (reads b)
 | .cond c a b=>tmpsOf [c]++(reads a++reads b)
 | .block _ c=>reads c
 | .loop c=>reads c
 | .scope c=>reads c
 | .rangeFunc f _ a b=>tmpsOf [f]++(reads a++reads b)
 |_=>[]
def kd:Code->Bool
 | .seq a b=>kd a||kd b
 | .cond _ a b=>kd a||kd b
 | .block _ c=>kd c
 | .loop c=>kd c
 | .scope c=>kd c
 | .rangeFunc ..=>true
 |_=>false
def wf (N:Nat):Code->Bool
 | .region _ ops e=>m4 N ops.toList&&(!e||lB ops (Region.before ops))
 | .seq a b=>wf N a&&wf N b
 | .cond _ a b=>wf N a&&wf N b
 | .block _ c=>wf N c
 | .loop c=>wf N c
 | .scope c=>wf N c
 | .rangeFunc _ f a b=>(f.toList.all λt=>Nat.blt t N)&&(wf N a&&wf N b)
 |_=>true
def m9:Nat->Type->Type
 |0,β=>β
 |n+1,β=>x1->m9 n β
def app {β:Type}:(n:Nat)->m9 n β->List x1->β
 |0,f,_=>f
 |n+1,f,[]=>app n (f undef) []
 |n+1,f,v::r=>app n (f v) r
def lam {β:Type}:(n:Nat)->(List x1->β)->m9 n β
 |0,f=>f []
 |n+1,f=>λv=>lam n λr=>f (v::r)
def rv:(n:Nat)->m9 n Prop->Prop
 |0,p=>p
 |n+1,p=>∀v,rv n (p v)
theorem rx {β:Type}:∀ (n:Nat) (f:List x1->β) (vs:List x1),vs.length=n->app n (lam n f) vs=f vs
 |0,f,[],_=>rfl
 |n+1,f,v::r,h=>by
  simp only[app,lam];exact rx n _ r (by simpa using h)
theorem ry:∀ (n:Nat) (p:m9 n Prop) (vs:List x1),rv n p->app n p vs
 |0,_,_,h=>h
 |n+1,_,[],h=>ry n _ [] (h undef)
 |n+1,_,v::r,h=>ry n _ r (h v)
def Fx (n:Nat) (vs:List x1) (w:x3) (B:List x1->x3->(List x1->x3->Prop)->Prop):Prop:=
 ∃ (a:m9 n (x3->Prop)) (e:m9 n (x3->Nat)),app n a vs w/\
  rv n (lam n λus=>∀w',app n a us w'->B us w' λf h=>app n a f h/\app n e f h<app n e us w')
def Fy (w:x3) (B:x3->(x3->Prop)->Prop):Prop:=
 ∃ (a:x3->Prop) (e:x3->Nat),a w/\ ∀w',a w'->B w' λf=>a f/\e f<e w'
def ci (a:x1) (w:x3) (B:x1->x3->(x1->x3->Prop)->Prop):Prop:=
 ∃ (e:x1->x3->Prop) (f:x1->x3->Nat),e a w/\ ∀a w',e a w'->B a w' λa' h=>e a' h/\f a' h<f a w'
def bY (a b:x1) (w:x3) (B:x1->x1->x3->(x1->x1->x3->Prop)->Prop):Prop:=
 ∃ (e:x1->x1->x3->Prop) (f:x1->x1->x3->Nat),e a b w/\ ∀a b w',e a b w'->B a b w' λa' h j=>e a' h j/\f a' h j<f a b w'
def ot (a b c:x1) (w:x3) (B:x1->x1->x1->x3->(x1->x1->x1->x3->Prop)->Prop):Prop:=
 ∃ (e:x1->x1->x1->x3->Prop) (f:x1->x1->x1->x3->Nat),e a b c w/\
  ∀a b c w',e a b c w'->B a b c w' λa' h j p=>e a' h j p/\f a' h j p<f a b c w'
def rz (a b c d:x1) (w:x3) (B:x1->x1->x1->x1->x3->(x1->x1->x1->x1->x3->Prop)->Prop):Prop:=
 ∃ (e:x1->x1->x1->x1->x3->Prop) (f:x1->x1->x1->x1->x3->Nat),e a b c d w/\
  ∀a b c d w',e a b c d w'->B a b c d w' λa' h j p q=>e a' h j p q/\f a' h j p q<f a b c d w'
def pG (a b c d e:x1) (w:x3) (B:x1->x1->x1->x1->x1->x3->(x1->x1->x1->x1->x1->x3->Prop)->Prop):Prop:=
 ∃ (f:x1->x1->x1->x1->x1->x3->Prop) (h:x1->x1->x1->x1->x1->x3->Nat),f a b c d e w/\ ∀a b c d e w',f a b c d e w'->B a b c d e w' λa' j p q r s=>f a' j p q r s/\h a' j p q r s<h a b c d e w'
def Fz (a b c d e f:x1) (w:x3) (B:x1->x1->x1->x1->x1->x1->x3->(x1->x1->x1->x1->x1->x1->x3->Prop)->Prop):Prop:=
 ∃ (h:x1->x1->x1->x1->x1->x1->x3->Prop) (j:x1->x1->x1->x1->x1->x1->x3->Nat),h a b c d e f w/\ ∀a b c d e f w',h a b c d e f w'->B a b c d e f w' λa' p q r s x y=>h a' p q r s x y/\j a' p q r s x y<j a b c d e f w'
def cr {α:Type} (au:α) (B:α->Prop):Prop:=B au
def uz (n:Nat) (w:x3) (K:x3->Prop):Prop:=∀w',Ext w w'->Ext w' w/\ft n w w'->K w'
def Over (n:Nat) (w:x3) (K:x3->Prop):Prop:=∀w',Ext w w'->Ext w' w/\ft n w w'->eU w w'->K w'
def ei (w:x3) (K:x3->Prop):Prop:=∀w',Ext w w'->Ext w' w->cM w w'->K w'
def ke (e:Env):List Nat->Option (List x1)
 |[]=>σ []
 |t::r=>match look e t with
  |some x=>match ke e r with
   |some vs=>σ (x.val::vs)
   |none=>ν
  |none=>ν
def jb:List Nat->List x1->Env->Env
 |t::r,v::vs,e=>(t,.v v)::jb r vs e
 |_,_,e=>e
def lD (D:List Nat):Env->Env
 |[]=>[]
 |(t,x)::r=>bif ja t D then lD D r else (t,x)::lD D r
def pH (N:Nat) (D R:List Nat):List Nat:=(V6 N).filter λt=>ja t D&&ja t R
def pI (N:Nat) (D R:List Nat) (e:Env):List Nat:=(V6 N).filter λt=>ja t D&&((look e t).isSome&&ja t R)
def jc:Code->Bool
 | .seq a b=>jc a||jc b
 | .cond _ a b=>jc a||jc b
 | .block _ c=>jc c
 | .loop c=>jc c
 | .scope c=>jc c
 | .rangeFunc _ _ a b=>jc a||jc b
 | .ret=>true
 |_=>false
def FA (i:Nat) (l:List Nat):List Nat:=bif ja i l then l else i::l
def rA:List Nat->List Nat->List Nat
 |[],l=>l
 |i::r,l=>FA i (rA r l)
def uA (i:Nat):List Nat->List Nat
 |[]=>[]
 |j::r=>bif S1 i j then uA i r else j::uA i r
def jB:Code->List Nat
 | .seq a b=>rA (jB a) (jB b)
 | .cond _ a b=>rA (jB a) (jB b)
 | .block id c=>uA id (jB c)
 | .loop c=>jB c
 | .scope c=>jB c
 | .rangeFunc _ _ a b=>rA (jB a) (jB b)
 | .exit i=>[i]
 |_=>[]
def na:List (Nat×(x3->Prop))->Nat->x3->Prop
 |[],_,_=>False
 |(j,k)::r,i,w=>(i=j/\k w)\/na r i w
def uB (K:Nat->x3->Prop):List Nat->List (Nat×(x3->Prop))
 |[]=>[]
 |i::r=>(i,λw=>K i w)::uB K r
theorem xR {K:Nat->x3->Prop}:∀ {l:List Nat} {i:Nat} {w:x3},na (uB K l) i w->K i w
 |[],_,_,h=>h.elim
 |j::r,i,w,h=>by
  rcases h with⟨rfl,h⟩|h
  .exact h
  .exact xR h
section
variable (P:W9)
def ou {a:Type} (G:Bool) (g:Q0) (cap:List x1) (p:a) (q:a->Prop) (r:a->List x1->a->x3->Prop) (h:x3->Prop):Prop:=
 Enters P g/\ ∀ (l:Nat) (au e:a->x3->Prop) (w:x3),
  (∀k J w2,Ext J w2->cB w.heap.size J w2->au k J->au k w2)->(∀k J w2,Ext J w2->cB w.heap.size J w2->e k J->e k w2)->
  (∀k j vs w',h w'->r k vs j w'->au k w'->hL P l vs w' λv f=>(v= .bool true/\h f/\au j f/\(G=true->cM w' f))\/(v= .bool false/\e k f))->
  h w->au p w->gH P g (.func (.yield l) #[] #[]::cap) w λ_ w'=>(∃k,q k/\au k w')\/ ∃k,e k w'
def uC (G:Bool) (g:Q0) (cap:List x1) (n:Nat) (h:Nat->List x1->x3->Prop) (f:x3->Prop):Prop:=
 Enters P g/\ ∀ (l:Nat) (au a:Nat->x3->Prop) (w:x3),
  (∀k J w2,Ext J w2->cB w.heap.size J w2->au k J->au k w2)->(∀k J w2,Ext J w2->cB w.heap.size J w2->a k J->a k w2)->
  (∀k vs w',k<n->f w'->h k vs w'->au k w'->hL P l vs w' λv e=>(v= .bool true/\f e/\au (k+1) e/\(G=true->cM w' e))\/(v= .bool false/\a k e))->
  f w->au 0 w->gH P g (.func (.yield l) #[] #[]::cap) w λ_ w'=>au n w'\/ ∃k,k<n/\a k w'
def pJ {e:Type} (o G:Bool) (g:Q0) (cap:List x1) (p:e) (q:e->Prop) (s:e->List x1->e->x3->Prop) (h:(Nat->Prop)->x3->Prop):Prop:=
 Enters P g/\ ∀ (l:Nat) (au f:(Nat->Prop)->e->x3->Prop) (w:x3),
  (∀D k J w2,ae (λr=>o=true/\w.heap.size<=r/\¬D r) J w2->ft w.heap.size J w2->au D k J->au D k w2)->
  (∀D k J w2,ae (λr=>o=true/\w.heap.size<=r/\¬D r) J w2->ft w.heap.size J w2->f D k J->f D k w2)->
  (∀D k j vs w',(∀r,D r->w.heap.size<=r/\r<w'.heap.size)->w.heap.size<=w'.heap.size->h D w'->s k vs j w'->au D k w'->hL P l vs w' λv a=>
   (v= .bool true/\(∃D',(∀r,D' r->D r\/w'.heap.size<=r/\r<a.heap.size)/\(∀r,D r->D' r)/\h D' a/\au D' j a)/\(G=true\/o=true->cM w' a)/\w'.heap.size<=a.heap.size/\(o=true->ae (λr=>r<w.heap.size\/D r) w' a))\/(o=false/\v= .bool false/\f D k a))->
  (h (λ_=>False) w)->au (λ_=>False) p w->gH P g (.func (.yield l) #[] #[]::cap) w λ_ w'=>(∃D k,q k/\au D k w')\/ ∃D k,f D k w'
abbrev ov (g:Q0) (cap:List x1) (n:Nat) (a:Nat->List x1->x3->Prop) (e:x3->Prop):Prop:=uC P false g cap n a e
def FB (z:x1) (q:Nat) (w:x3) (B:List x1->x3->(Exit->x3->Prop)->Prop) (A C:x3->Prop) (E:List (Nat×(x3->Prop))):Prop:=
 ∃ (h:Type) (o G:Bool) (g:Q0) (cap:Array x1) (x:h) (y:h->Prop) (s:h->List x1->h->x3->Prop) (e:(Nat->Prop)->x3->Prop) (f:(Nat->Prop)->h->x3->Prop) (j:(Nat->Prop)->h->Exit->x3->Prop),
  z= .func (.func g) #[] cap/\pJ P o G g cap.toList x y s e/\(∀k vs p w,s k vs p w->vs.length=q)/\
  (∀m w w',Ext w w'->e m w->e m w')/\(∀m k J w2,ae (λr=>o=true/\w.heap.size<=r/\¬m r) J w2->ft w.heap.size J w2->f m k J->f m k w2)/\(∀m k ex J w2,ae (λr=>o=true/\w.heap.size<=r/\¬m r) J w2->ft w.heap.size J w2->j m k ex J->j m k ex w2)/\
  e (λ_=>False) w/\f (λ_=>False) x w/\
  rv q (lam q λvs=>∀m k p w',(∀r,m r->w.heap.size<=r/\r<w'.heap.size)->w.heap.size<=w'.heap.size->e m w'->s k vs p w'->f m k w'->B vs w' λex a=>match ex with
   | .normal=>bif o then (∃cm,(∀r,cm r->m r\/w'.heap.size<=r/\r<a.heap.size)/\(∀r,m r->cm r)/\e cm a/\f cm p a)/\eU w' a/\ae (λr=>r<w.heap.size\/m r) w' a else e m a/\f m p a/\(G=true->eU w' a)
   |ex=>bif o then False else j m k ex a)/\
  (∀m k w',y k->f m k w'->A w')/\(∀m k w',j m k .ret w'->C w')/\(∀m k i w',j m k (.exit i) w'->na E i w')
def lE (z:x1) (w:x3) (B:x1->x3->(Exit->x3->Prop)->Prop) (A C:x3->Prop) (E:List (Nat×(x3->Prop))):Prop:=
 ∃ (j:Type) (o G:Bool) (g:Q0) (cap:Array x1) (x:j) (y:j->Prop) (s:j->List x1->j->x3->Prop) (f:(Nat->Prop)->x3->Prop) (h:(Nat->Prop)->j->x3->Prop) (p:(Nat->Prop)->j->Exit->x3->Prop),
  z= .func (.func g) #[] cap/\pJ P o G g cap.toList x y s f/\(∀k vs q w,s k vs q w->vs.length=1)/\
  (∀m w w',Ext w w'->f m w->f m w')/\(∀m k J w2,ae (λr=>o=true/\w.heap.size<=r/\¬m r) J w2->ft w.heap.size J w2->h m k J->h m k w2)/\(∀m k ex J w2,ae (λr=>o=true/\w.heap.size<=r/\¬m r) J w2->ft w.heap.size J w2->p m k ex J->p m k ex w2)/\
  f (λ_=>False) w/\h (λ_=>False) x w/\
  (∀a,∀m k q w',(∀r,m r->w.heap.size<=r/\r<w'.heap.size)->w.heap.size<=w'.heap.size->f m w'->s k [a] q w'->h m k w'->B a w' λex e=>match ex with
   | .normal=>bif o then (∃cm,(∀r,cm r->m r\/w'.heap.size<=r/\r<e.heap.size)/\(∀r,m r->cm r)/\f cm e/\h cm q e)/\eU w' e/\ae (λr=>r<w.heap.size\/m r) w' e else f m e/\h m q e/\(G=true->eU w' e)
   |ex=>bif o then False else p m k ex e)/\
  (∀m k w',y k->h m k w'->A w')/\(∀m k w',p m k .ret w'->C w')/\(∀m k i w',p m k (.exit i) w'->na E i w')
def nb (z:x1) (w:x3) (B:x1->x1->x3->(Exit->x3->Prop)->Prop) (A C:x3->Prop) (E:List (Nat×(x3->Prop))):Prop:=
 ∃ (j:Type) (o G:Bool) (g:Q0) (cap:Array x1) (x:j) (y:j->Prop) (s:j->List x1->j->x3->Prop) (f:(Nat->Prop)->x3->Prop) (h:(Nat->Prop)->j->x3->Prop) (p:(Nat->Prop)->j->Exit->x3->Prop),
  z= .func (.func g) #[] cap/\pJ P o G g cap.toList x y s f/\(∀k vs q w,s k vs q w->vs.length=2)/\
  (∀m w w',Ext w w'->f m w->f m w')/\(∀m k J w2,ae (λr=>o=true/\w.heap.size<=r/\¬m r) J w2->ft w.heap.size J w2->h m k J->h m k w2)/\(∀m k ex J w2,ae (λr=>o=true/\w.heap.size<=r/\¬m r) J w2->ft w.heap.size J w2->p m k ex J->p m k ex w2)/\
  f (λ_=>False) w/\h (λ_=>False) x w/\
  (∀a b,∀m k q w',(∀r,m r->w.heap.size<=r/\r<w'.heap.size)->w.heap.size<=w'.heap.size->f m w'->s k [a,b] q w'->h m k w'->B a b w' λex e=>match ex with
   | .normal=>bif o then (∃cm,(∀r,cm r->m r\/w'.heap.size<=r/\r<e.heap.size)/\(∀r,m r->cm r)/\f cm e/\h cm q e)/\eU w' e/\ae (λr=>r<w.heap.size\/m r) w' e else f m e/\h m q e/\(G=true->eU w' e)
   |ex=>bif o then False else p m k ex e)/\
  (∀m k w',y k->h m k w'->A w')/\(∀m k w',p m k .ret w'->C w')/\(∀m k i w',p m k (.exit i) w'->na E i w')
theorem uC.s {P:W9} {G:Bool} {g:Q0} {cap:List x1} {f:Nat->List x1->x3->Prop} {a:x3->Prop} (h:uC P G g cap n f a):
  ou P G g cap 0 (λk=>k=n) (λk vs j w=>k<n/\j=k+1/\f k vs w) a:=by
 refine⟨h.1,λl au p w q r x ha y=>?_⟩;have:=h.2 l au (λk w=>p k w) w q r (λk vs w' hk hz A B=>x k (k+1) vs w' hz ⟨hk,rfl,A⟩ B) ha y;cases this with
 |code h1 C=>exact .code h1 (C.mono λ_ _ ⟨v,E,e⟩=>⟨v,E,e.elim (λh=>.inl ⟨n,rfl,h⟩) (λ⟨k,_,h⟩=>.inr ⟨k,h⟩)⟩)
 |ext v w' h1 e=>exact .ext v w' h1 (e.elim (λh=>.inl ⟨n,rfl,h⟩) (λ⟨k,_,h⟩=>.inr ⟨k,h⟩))
theorem ou.x {P:W9} {s:Type} {G:Bool} {g:Q0} {cap:List x1} {E:s} {F:s->Prop} {H:s->List x1->s->x3->Prop} {y:x3->Prop} (h:ou P G g cap E F H y):pJ P false G g cap E F H λ_=>y:=by
 refine⟨h.1,λl au K w L M N hy O=>?_⟩;have:=h.2 l (λk w'=>w.heap.size<=w'.heap.size/\ ∃D,(∀r,D r->w.heap.size<=r/\r<w'.heap.size)/\au D k w') (λk w'=>∃D,K D k w') w
  (λk J w2 f A ⟨I,D,a,j⟩=>⟨X0 I f.size,D,λr z=>⟨(a r z).1,Q2 (a r z).2 f.size⟩,L D k J w2 (f.U _) A.o j⟩) (λk J w2 f A ⟨D,j⟩=>⟨D,M D k J w2 (f.U _) A.o j⟩)
  (λk Q vs w' hR S ⟨I,D,a,j⟩=>hL.mono (N D k Q vs w' a I hR S j) λv W T=>T.imp (λ⟨h1,⟨D',d1,_,p,B⟩,q,e,_⟩=>⟨h1,p,⟨X0 I e,D',λr z=>(d1 r z).elim (λh=>⟨(a r h).1,Q2 (a r h).2 e⟩) λh=>⟨X0 I h.1,h.2⟩,B⟩,λV=>q (.inl V)⟩) λ⟨_,h1,p⟩=>⟨h1,D,p⟩) hy ⟨o4 _,_,λ_ h=>h.elim,O⟩
 cases this with
 |code h1 p=>exact .code h1 (p.mono λ_ _ ⟨v,B,q⟩=>⟨v,B,q.imp (λ⟨k,e,_,D,_,C⟩=>⟨D,k,e,C⟩) (λ⟨k,D,h⟩=>⟨D,k,h⟩)⟩)
 |ext v w' h1 q=>exact .ext v w' h1 (q.imp (λ⟨k,e,_,D,_,C⟩=>⟨D,k,e,C⟩) (λ⟨k,D,h⟩=>⟨D,k,h⟩))
theorem lE.old {P:W9} {C:x1} {B:x1->x3->(Exit->x3->Prop)->Prop} {E F:x3->Prop} {H:List (Nat×(x3->Prop))}
 (h:∃ (f:Type) (G:Bool) (g:Q0) (cap:Array x1) (s:f) (y:f->Prop) (r:f->List x1->f->x3->Prop) (e:x3->Prop) (j:f->x3->Prop) (p:f->Exit->x3->Prop),
  C= .func (.func g) #[] cap/\ou P G g cap.toList s y r e/\(∀k vs q w,r k vs q w->vs.length=1)/\
  (∀w w',Ext w w'->e w->e w')/\(∀k w w',Ext w w'->j k w->j k w')/\(∀k ex w w',Ext w w'->p k ex w->p k ex w')/\
  e w/\j s w/\
  (∀a,∀k q w',e w'->r k [a] q w'->j k w'->B a w' λex z=>match ex with
   | .normal=>e z/\j q z/\(G=true->eU w' z)
   |ex=>p k ex z)/\
  (∀k w',y k->j k w'->E w')/\(∀k w',p k .ret w'->F w')/\(∀k i w',p k (.exit i) w'->na H i w')):lE P C w B E F H:=by
 obtain⟨f,G,g,cap,s,y,r,e,j,p,h1,I,K,L,M,N,O,Q,R,S,T,U⟩:=h;exact⟨f,false,G,g,cap,s,y,r,λ_=>e,λ_=>j,λ_=>p,h1,I.x,K,λ_=>L,λ_ k J w2 A _=>M k J w2 (A.ext λ_ _ h=>nomatch h.1),λ_ k ex J w2 A _=>N k ex J w2 (A.ext λ_ _ h=>nomatch h.1),O,Q,
  λa _ k q w' _ _ he V W=>R a k q w' he V W,λ_=>S,λ_=>T,λ_=>U⟩
theorem nb.old {P:W9} {C:x1} {B:x1->x1->x3->(Exit->x3->Prop)->Prop} {E F:x3->Prop} {H:List (Nat×(x3->Prop))}
 (h:∃ (f:Type) (G:Bool) (g:Q0) (cap:Array x1) (s:f) (y:f->Prop) (r:f->List x1->f->x3->Prop) (e:x3->Prop) (j:f->x3->Prop) (p:f->Exit->x3->Prop),
  C= .func (.func g) #[] cap/\ou P G g cap.toList s y r e/\(∀k vs q w,r k vs q w->vs.length=2)/\
  (∀w w',Ext w w'->e w->e w')/\(∀k w w',Ext w w'->j k w->j k w')/\(∀k ex w w',Ext w w'->p k ex w->p k ex w')/\
  e w/\j s w/\
  (∀a b,∀k q w',e w'->r k [a,b] q w'->j k w'->B a b w' λex z=>match ex with
   | .normal=>e z/\j q z/\(G=true->eU w' z)
   |ex=>p k ex z)/\
  (∀k w',y k->j k w'->E w')/\(∀k w',p k .ret w'->F w')/\(∀k i w',p k (.exit i) w'->na H i w')):nb P C w B E F H:=by
 obtain⟨f,G,g,cap,s,y,r,e,j,p,h1,I,K,L,M,N,O,Q,R,S,T,U⟩:=h;exact⟨f,false,G,g,cap,s,y,r,λ_=>e,λ_=>j,λ_=>p,h1,I.x,K,λ_=>L,λ_ k J w2 A _=>M k J w2 (A.ext λ_ _ h=>nomatch h.1),λ_ k ex J w2 A _=>N k ex J w2 (A.ext λ_ _ h=>nomatch h.1),O,Q,
  λa b _ k q w' _ _ he V W=>R a b k q w' he V W,λ_=>S,λ_=>T,λ_=>U⟩
def ew (N:Nat) (free:fu):Code->List Nat->Env->x3->(Exit->Env->x3->Prop)->Prop
 | .skip,_,e,w,K=>K .normal e w
 | .label _,_,e,w,K=>K .normal e w
 | .ret,_,e,w,K=>K .ret e w
 | .exit i,_,e,w,K=>K (.exit i) e w
 | .region _ ops p,_,e,w,K=>
  bif p then ei w λw'=>um P free ops e w' (K .normal)
  else oo P free ops ops.toList e w (K .normal)
 | .seq x y,rd,e,w,K=>
  bif Nat.ble 2 (kK x) then
   cr (lam (pH N (dz x) (reads y++rd)).length λvs=>λw'=>ew N free y rd (jb (pH N (dz x) (reads y++rd)) vs (lD (dz x) e)) w' K)
    λau=>ew N free x (reads y++rd) e w λex a w'=>match ex with
     | .normal=>match ke a (pH N (dz x) (reads y++rd)) with
      |some vs=>app (pH N (dz x) (reads y++rd)).length au vs w'
      |none=>False
     |ex=>K ex a w'
  else ew N free x (reads y++rd) e w λex a w'=>match ex with
   | .normal=>ew N free y rd a w' K
   |ex=>K ex a w'
 | .cond c x y,rd,e,w,K=>
  match eF e c with
  |some (.b true)=>ew N free x rd e w K
  |some (.b false)=>ew N free y rd e w K
  |some (.v v)=>Split v (ew N free x rd e w K) (ew N free y rd e w K)
  |some .u=>False
  |none=>False
 | .block id c,rd,e,w,K=>ew N free c rd e w λex a w'=>match ex with
  | .exit i=>bif S1 i id then K .normal a w' else K (.exit i) a w'
  |ex=>K ex a w'
 | .loop c,rd,e,w,K=>
  match ke e (pI N (dz c) (reads c++rd) e) with
  |some vs=>
   Fx (pI N (dz c) (reads c++rd) e).length vs w λus w' k=>
    ew N free c (reads c++rd) (jb (pI N (dz c) (reads c++rd) e) us (lD (dz c) e)) w' λex a h=>match ex with
     | .normal=>match ke a (pI N (dz c) (reads c++rd) e) with
      |some q=>k q h
      |none=>False
     |ex=>K ex a h
  |none=>False
 | .scope c,rd,e,w,K=>ew N free c rd e w K
 | .rangeFunc f j r body,_,e,w,K=>
  bif free.1 then False else
  match eF e f with
  |some s=>
   FB P s.val j.size w
    (λvs w' k=>ew N free r (reads body) (jb j.toList.reverse vs.reverse e) w' λex a h=>match ex with
     | .normal=>Over w.heap.size h λz=>ew N free body [] a z λex _ A=>k ex A
     |_=>False)
    (λw'=>K .normal e w') (bif jc body then λw'=>K .ret e w' else λ_=>False) (uB (λi w'=>K (.exit i) e w') (jB body))
  |none=>False
 | .goto _,_,_,_,_=>False
 | .refuse _,_,_,_,_=>False
end
theorem rB {w0:x3} (h:cB n w0 w) {l:Nat} (j:w0.heap.size<=l) (o:Obj):cB n w0 (w.putObj l o):=
 ⟨h.os,h.tape,h.output,by simpa using h.size,λr x a I=>by
  have e:=(j0.1 a).1;rw[Q1 Ω];exact h.aV r x a I,λr x f a I=>by
  have e:=(j0.1 a).1;rw[Q1 Ω];exact h.old r x f a I⟩
theorem FC {w0:x3} (h:eU w0 w) {l:Nat} {a:Obj} (f:w.heap[l]? =σ a) (j:rj a=false) (o:Obj):eU w0 (w.putObj l o):=λr x p I=>by
 have h1:=h r x p I;by_cases e:r=l
 .subst e;rw[f] at h1;cases h1;rw[j] at I;cases I
 .rw[Q1 e];exact h1
theorem pK {l:Nat} {e:Obj} (h:w.heap[l]? =σ e) (j:fs e=false) (o:Obj):Ext w (w.putObj l o):=
 ⟨Ξ,λr x a I=>by
  by_cases f:r=l
  .subst f;rw[h] at a;cases a;rw[j] at I;cases I
  .rw[Q1 f];exact a⟩
theorem xS {l:Nat} {o:Obj} (f:fs o=false):Ext (w.putObj l o) w:=
 ⟨Ξ,λr x a I=>by
  by_cases e:r=l
  .subst e;rcases Nat.lt_or_ge r w.heap.size with h|h
   .rw[x3.putObj_heap_same h] at a;cases a;rw[f] at I;cases I
   .rw[Array.getElem?_eq_none (by simpa using h)] at a;cases a
  .rw[Q1 e] at a;exact a⟩
theorem ow (w:x3) (o:Obj):Ext w (w.alloc o):=pA w o
theorem ox (w:x3) (o:Obj):cM w (w.alloc o):=pB w o
def kf (D:Nat):Deferred:={target:=.collected D,args:=#[]}
def lF (w:x3) (e:List Deferred):Prop:=∃a:List Nat,e=a.map kf/\a.Nodup/\ ∀D∈a,w.heap[D]? =σ (.deferred (σ []))
theorem lF.cq {a:List Deferred} (h:lF w a) (e:cB n w w'):lF w' a:=by
 obtain⟨f,h1,j,p⟩:=h;exact⟨f,h1,j,λD q=>e.aV D _ (p D q) rfl⟩
section
variable {P:W9} {N:Nat}
def FD (w:x3) (e f:List Deferred):Prop:=∃a:List Nat,f=a.map kf++e/\ ∀D∈a,w.heap.size<=D
def gJ (n:Nat) (w:x3) (e:List Deferred) (w':x3) (a:List Deferred):Prop:=cB n w w'/\lF w' a/\FD w e a
theorem gJ.refl {a:List Deferred} (h:lF w a):gJ n w a w a:=⟨cB.refl _ _,h,[],rfl,λ_ h=>by cases h⟩
theorem gJ.trans {J:x3} {a e f:List Deferred} (h:gJ n w a J e) (k:gJ n J e w' f):gJ n w a w' f:=by
 obtain⟨j,A,p,a3,a4⟩:=h;obtain⟨q,r,s,x,y⟩:=k;refine⟨j.trans q,r,s++p,by simp[x,a3],λD z=>?_⟩;rcases l9.1 z with h|h
 .exact X0 j.size (y D h)
 .exact a4 D h
theorem gJ.same {a:List Deferred} (h:lF w a) (e:cB n w w'):gJ n w a w' a:=⟨e,h.cq e,[],rfl,λ_ h=>by cases h⟩
def kL:Exit->Bool
 | .panic _=>false
 | .outgrown=>false
 | .goto _=>false
 |_=>true
def me (N:Nat) (free:fu) (f:Bool) (K:Exit->Env->x3->Prop) (D:List Nat) (a:Act) (w:x3) (ex:Exit) (a':Act) (w':x3):Prop:=
 kL ex=true/\ ∃e,K ex e w'/\S6 N e a'/\(∀t,t∉D->a'.tmps.getD t undef=a.tmps.getD t undef)/\(f=true->a'.defers=a.defers)/\
  (free.1=false->gJ free.2 w a.defers w' a'.defers)
theorem me.step {free:fu} {f j:Bool} {K:Exit->Env->x3->Prop} {D':List Nat} {a e a':Act} {J:x3} {ex:Exit} (h:me N free j K D' e J ex a' w')
  (q:∀t,t∈D'->t∈D) (hk:∀t,t∉D->e.tmps.getD t undef=a.tmps.getD t undef) (r:f=true->j=true) (s:f=true->e.defers=a.defers)
  (x:free.1=false->gJ free.2 w a.defers J e.defers):me N free f K D a w ex a' w':=by
 obtain⟨y,z,h1,A,B,C,E⟩:=h;exact⟨y,z,h1,A,λt p=>(B t λh=>p (q t h)).trans (hk t p),λh=>(C (r h)).trans (s h),λh=>(x h).trans (E h)⟩
theorem rC {D:List Nat} {t:Nat} {x:ev}:∀ {e:Env},look (lD D e) t=σ x->look e t=σ x/\t∉D
 |[],h=>by cases h
 |(s,y)::r,h=>by
  simp only[lD] at h;cases hm:ja s D with
  |true=>
   rw[hm] at h;simp only[cond_true] at h;obtain⟨h1,f⟩:=rC h;refine⟨?_,f⟩;simp only[look];cases a:S1 s t with
   |true=>exact absurd (ux.1 hm) (by rw[Nat.eq_of_beq_eq_true a];exact f)
   |false=>exact h1
  |false=>
   rw[hm] at h;simp only[cond_false,look] at h ⊢;cases a:S1 s t with
   |true=>
    rw[a] at h;refine⟨h,λj=>?_⟩;rw[<-Nat.eq_of_beq_eq_true a] at j;rw[ux.2 j] at hm;cases hm
   |false=>
    rw[a] at h;exact rC h
theorem uD {a:Act} {e:Env}:∀ {S:List Nat} {vs:List x1},S6 N e a->(∀p∈S.zip vs,a.tmps.getD p.1 undef=p.2)->S6 N (jb S vs e) a
 |[],_,h,_=>by simpa[jb] using h
 |t::r,[],h,_=>by simpa[jb] using h
 |t::r,v::vs,h,j=>by
  have q:=uD (S:=r) (vs:=vs) h λp w=>j p (by simp[w]);refine⟨q.1,λs x I=>?_⟩;simp only[jb,look] at I;cases f:S1 t s with
  |true=>
   rw[f] at I;simp only[cond_true,Y3] at I;subst I;rw[<-Nat.eq_of_beq_eq_true f];exact j (t,v) Ξ
  |false=>rw[f] at I;exact q.2 s x I
theorem rD {e:Env} {a:Act} (s:S6 N e a):∀ {S:List Nat} {vs:List x1},ke e S=σ vs->vs.length=S.length/\ ∀p∈S.zip vs,a.tmps.getD p.1 undef=p.2
 |[],vs,h=>by simp[ke] at h;subst h;simp
 |t::r,vs,h=>by
  simp only[ke] at h;cases j:look e t with
  |none=>rw[j] at h;cases h
  |some x=>
   rw[j] at h;simp only at h;cases q:ke e r with
   |none=>rw[q] at h;cases h
   |some us=>
    rw[q] at h;simp only[Y3] at h;subst h;obtain⟨h1,w⟩:=rD s q;refine⟨by simp[h1],λp f=>?_⟩;simp only[List.zip_cons_cons,V1] at f;rcases f with rfl|f
    .exact s.2 t x j
    .exact w p f
theorem FE {a a':Act} {e f:Env} (j:S6 N e a) (p:S6 N f a') (hk:∀t,t∉D->a'.tmps.getD t undef=a.tmps.getD t undef):S6 N (lD D e) a':=
 ⟨p.1,λt x h=>by
  obtain⟨h1,q⟩:=rC h;rw[hk t q];exact j.2 t x h1⟩
theorem FF {o:T6} {t:Nat} (a:o.dst=σ t) (l:List T6) (hm:o∈l):t∈m8 l:=by
 induction l with
 |nil=>cases hm
 |cons o' l e=>
  simp only[m8];rcases V1.1 hm with h|h
  .rw[<-h,a];simp
  .have:=e h;cases o'.dst with
   |none=>exact this
   |some d=>exact .tail _ this
theorem xT {free:fu} {j:Bool} {K:Exit->Env->x3->Prop} {a a':Act} (p:free.1=false->lF w a.defers) (h:ma N free (K .normal) D a w a' w'):
  me N free j K D a w .normal a' w':=by
 obtain⟨q,h1,r,e,s⟩:=h;exact⟨rfl,q,h1,r,e.2,λ_=>e.1,λf=>by rw[e.1];exact gJ.same (p f) (s f)⟩
theorem xU:∀ (a:List Nat) (vs:List x1) (p:Nat) (v:x1) (e:Env),a.length=vs.length->jb (a++[p]) (vs++[v]) e=jb a vs ((p,.v v)::e)
 |[],[],_,_,_,_=>rfl
 |[],_::_,_,_,_,h=>by simp at h
 |_::_,[],_,_,_,h=>by simp at h
 |q::a,u::vs,p,v,e,h=>by
  simp only[List.cons_append,jb];rw[xU a vs p v e (by simpa using h)]
theorem xV:∀ (a:List Nat) (vs:List x1) (gV:Array x1) (e:Env),a.length=vs.length->(a.all λt=>Nat.blt t N)=true->S6 N e {tmps:=gV,defers:=[]}->
  S6 N (jb a.reverse vs.reverse e) {tmps:=(a.zip vs).foldl (λgV (p:Nat×x1)=>gV.setIfInBounds p.1 p.2) gV,defers:=[]}
 |[],[],_,_,_,_,h=>h
 |[],_::_,_,_,h,_,_=>by simp at h
 |_::_,[],_,_,h,_,_=>by simp at h
 |p::a,v::vs,gV,e,q,f,h=>by
  have j:a.length=vs.length:=by simpa using q
  simp only[List.all_cons,T0] at f;simp only[List.zip_cons_cons,List.foldl_cons,List.reverse_cons];rw[xU _ _ _ _ _ (by simpa using j)];exact xV a vs _ _ j f.2 (h.put (d:=σ p) (x:=.v v) (v:=v) f.1 rfl)
def jd (free:fu) (c:Code):Bool:=free.1|| !kd c
theorem xW:∀f a b:Bool,(f|| !(a||b))=true->(f|| !a)=true:=Φ
theorem xX:∀f a b:Bool,(f|| !(a||b))=true->(f|| !b)=true:=Φ
def exitCode:Exit->Option Code
 | .ret=>σ .ret
 | .exit id=>σ (.exit id)
 |_=>ν
end
section
variable {P:W9} {N:Nat}
def Sound (P:W9) (N:Nat) (c:Code):Prop:=
 ∀ (free:fu) (r:Option Nat) (rd:List Nat) (e:Env) (a:Act) (w:x3) (K:Exit->Env->x3->Prop) (Q:Exit->Act->x3->Prop),
  wf N c=true->(∀l,r=σ l->free.1=false/\ ∃f,w.heap[l]? =σ (.loop f))->(free.1=false->lF w a.defers)->
  ew P N free c rd e w K->S6 N e a->(∀ex a' w',me N free (jd free c) K (dz c) a w ex a' w'->Q ex a' w')->(∀h a w,¬Q (.panic h) a w)->
  c.wpIn (et r) 0 P Q a w
theorem FG {x y:Code} (aa:Sound P N x) (ab:Sound P N y):Sound P N (.seq x y):=by
 intro free r rd e a w K Q F O ac h R S T;simp only[wf,T0] at F;have U:∀t,t∈dz x->t∈dz (.seq x y):=λt q=>by simp[dz,q]
 have ad:∀t,t∈dz y->t∈dz (.seq x y):=λt q=>by simp[dz,q]
 have V:jd free (.seq x y)=true->jd free x=true:=λh=>xW _ _ _ h;have ae:jd free (.seq x y)=true->jd free y=true:=λh=>xX _ _ _ h;refine wpIn_seq ?_;have W:∀ (f:Env) (j:Act) (J:x3),ew P N free y rd f J K->S6 N f j->(∀t,t∉dz x->j.tmps.getD t undef=a.tmps.getD t undef)->
   (jd free (.seq x y)=true->j.defers=a.defers)->(free.1=false->gJ free.2 w a.defers J j.defers)->y.wpIn (et r) 0 P Q j J:=by
  intro f j J h1 s hk A p;refine ab free r rd f j J K Q F.2 ?_ (λh=>(p h).2.1) h1 s ?_ T
  .intro l af;obtain⟨X,ag,E⟩:=O l af;exact⟨X,ag,(p X).1.aV _ _ E rfl⟩
  .intro ex a' w' B;exact S ex a' w' (B.step ad (λt q=>hk t λh=>q (U t h)) ae A p)
 have Y:∀ (z:Exit->Env->x3->Prop),ew P N free x (reads y++rd) e w z->
   (∀f j J,me N free (jd free x) z (dz x) a w .normal j J->S6 N f j->z .normal f J->(∀t,t∉dz x->j.tmps.getD t undef=a.tmps.getD t undef)->
    (jd free (.seq x y)=true->j.defers=a.defers)->(free.1=false->gJ free.2 w a.defers J j.defers)->y.wpIn (et r) 0 P Q j J)->
   (∀ex f J,ex≠ .normal->z ex f J->K ex f J)->x.wpIn (et r) 0 P (Exit.then (y.wpIn (et r) 0 P Q) Q) a w:=by
  intro z C p ah;refine aa free r _ e a w z _ F.1 O ac C R ?_ ?_
  .intro ex j J B;cases ex with
   |normal=>
    have ai:=B;obtain⟨E,f,h1,G,H,I,L⟩:=B;exact p f j J ai G h1 H (λh=>I (V h)) L
   |_=>
    obtain⟨E,f,h1,G,H,I,L⟩:=B;refine S _ j J ⟨E,f,ah _ f J Ξ h1,G,λt q=>H t λh=>q (U t h),λh=>I (V h),L⟩
  .intro aj a w ak;exact T aj a w ak
 simp only[ew] at h;cases Z:Nat.ble 2 (kK x) with
 |false=>
  rw[Z] at h;refine Y _ h (λf j J _ s h1 hk A p=>W f j J h1 s hk A p) ?_;intro ex f J M h1;cases ex<;>first|exact absurd rfl M|exact h1
 |true=>
  rw[Z] at h;refine Y _ h (λf j J _ s h1 hk A p=>?_) ?_
  .simp only at h1;cases C:ke f (pH N (dz x) (reads y++rd)) with
   |none=>rw[C] at h1;exact h1.elim
   |some vs=>
    rw[C] at h1;obtain⟨al,am⟩:=rD s C;simp only at h1;rw[rx _ _ _ al] at h1;exact W _ j J h1 (uD (FE R s hk) am) hk A p
  .intro ex f J M h1;cases ex<;>first|exact absurd rfl M|exact h1
theorem FH {c:Code} (ab:Sound P N c):Sound P N (.loop c):=by
 intro free r rd e a w K Q U ac ad h F ae af;simp only[wf] at U;simp only[ew] at h;generalize aw:pI N (dz c) (reads c++rd) e=S at h;cases G:ke e S with
 |none=>rw[G] at h;exact h.elim
 |some vs=>
  rw[G] at h;simp only at h;obtain⟨ag,ah,q,ai⟩:=h;obtain⟨aj,ak⟩:=rD F G;let Inv:Act->x3->Prop:=λf J=>∃us,us.length=S.length/\app S.length ag us J/\(∀p∈S.zip us,f.tmps.getD p.1 undef=p.2)/\f.tmps.size=N/\
   (∀t,t∉dz c->f.tmps.getD t undef=a.tmps.getD t undef)/\(jd free c=true->f.defers=a.defers)/\(free.1=false->gJ free.2 w a.defers J f.defers)
  let s:Act->List x1:=λf=>S.map λt=>f.tmps.getD t undef;have V:∀ (f:Act) (us:List x1),us.length=S.length->(∀p∈S.zip us,f.tmps.getD p.1 undef=p.2)->s f=us:=by
   intro f us y z;apply List.ext_getElem
   .simp[s,y]
   .intro i h1 j;have hi:i<S.length:=by simpa[s] using h1
    have al:(S[i],us[i])∈S.zip us:=by
     have:=Q4 (l:=S.zip us) (n:=i) (by simp[List.length_zip,y,hi]);simpa using this
    simpa[s] using z _ al
  refine wpIn_loop Inv (λf J=>app S.length ah (s f) J) ⟨vs,aj,q,ak,F.1,λ_ _=>rfl,λ_=>rfl,λA=>gJ.refl (ad A)⟩ ?_;rintro f J ⟨us,y,am,z,an,hk,A,B⟩;have C:=ry S.length _ us ai;rw[rx _ _ _ y] at C;have C:=C J am;have ao:S6 N (jb S us (lD (dz c) e)) f:=by
   refine uD (a:=f) (e:=lD (dz c) e) ⟨an,λt x E=>?_⟩ z;obtain⟨h1,j⟩:=rC E;rw[hk t j];exact F.2 t x h1
  refine ab free r _ _ f J _ _ U ?_ (λh=>(B h).2.1) C ao ?_ ?_
  .intro l ap;obtain⟨W,aq,q⟩:=ac l ap;exact⟨W,aq,(B W).1.aV _ _ q rfl⟩
  .intro ex H w2 I;have X:∀t,t∉dz c->H.tmps.getD t undef=a.tmps.getD t undef:=by
    obtain⟨_,_,_,_,L,_,_⟩:=I;exact λt E=>(L t E).trans (hk t E)
   cases ex with
   |normal=>
    obtain⟨q,M,h1,j,L,O,R⟩:=I;simp only at h1;cases T:ke M S with
    |none=>rw[T] at h1;exact h1.elim
    |some Y=>
     rw[T] at h1;obtain⟨Z,aa⟩:=rD j T;refine⟨⟨Y,Z,h1.1,aa,j.1,X,λh=>(O h).trans (A h),λh=>(B h).trans (R h)⟩,?_⟩;rw[V f us y z,V H Y Z aa];exact h1.2
   |_=>
    obtain⟨q,M,h1,j,L,O,R⟩:=I;exact ae _ H w2 ⟨q,M,h1,j,X,λh=>(O h).trans (A h),λh=>(B h).trans (R h)⟩
  .intro au a w av;exact af au a w av
theorem FI {o:Obj} (h:fs o=false):book o=true\/rj o=true:=by cases o<;>first|exact .inl rfl|exact .inr rfl|cases h
theorem FJ {l:Nat} {f s h:x3} {w y:Obj} (z:f.heap[l]? =σ w) (a:cB n f s) (e:cB n (s.putObj l y) h) (A:l<h.heap.size) (hi:eU f h):cM f (h.putObj l w):=
 ⟨e.os.trans a.os,jy.trans e.tape a.tape,e.output.trans a.output,by have h1:=a.size;have B:=e.size;simp at B ⊢;omega,λr x j I=>by
  by_cases q:r=l
  .subst q;rw[z] at j;cases j;exact x3.putObj_heap_same A
  .rw[Q1 q];rcases FI I with p|p
   .exact e.aV r x (by rw[Q1 q];exact a.aV r x j p) p
   .exact hi r x j p⟩
theorem FK {f:S5} {S:Array Tmp} {X body:Code} (bd:Sound P N X) (ah:Sound P N body):Sound P N (.rangeFunc f S X body):=by
 intro free r rd e a w K Q aL R aw h ab be b0;simp only[wf,T0] at aL;obtain⟨bf,bg,bh⟩:=aL;simp only[ew] at h;obtain⟨fr,b⟩:=free;cases fr with
 |true=>exact h.elim
 |false=>
  simp only[cond_false] at h;cases ax:eF e f with
  |none=>rw[ax] at h;exact h.elim
  |some b1=>
   rw[ax] at h;obtain⟨aM,o,G,g,cap,b2,b3,b4,ai,aN,ay,bi,⟨aO,bj⟩,bk,haP,aj,az,hbl,bm,bn,bo,bp,bq⟩:=h;have br:∀m k ex w',kL ex=true->ex≠ .normal->ay m k ex w'->K ex e w':=by
    intro m k ex w' ac aA ak;cases ex with
    |normal=>exact absurd rfl aA
    |ret=>
     have:=bp m k w' ak;cases R:jc body with
     |true=>rw[R] at this;exact this
     |false=>rw[R] at this;exact this.elim
    |exit i=>exact xR (bq m k i w' ak)
    |_=>cases ac
   have bt:a.eval f= .func (.func g) #[] cap:=by rw[ab.eF ax];exact bi
   refine wpIn_rangeFunc ?_;intro fn _;obtain⟨D,mark,l,z,s,bu,C,aQ,al,L,aR,am⟩:∃ (D:Nat) (mark:List Deferred) (l:Nat) (z:x3) (s:LoopState->Option Code->Loop),
     (Instr.enterLoop fn a.tmps S X body (et r).round).run P w= .ok (l,mark) z/\
     s=(λst bw=>{state:=st,pending:=bw,fn,tmps:=a.tmps,params:=S,assign:=X,body,defers:=D})/\
     z.heap[l]? =σ (.loop (s .ready ν))/\(mark=[]\/(mark=[kf D]/\z.heap[D]? =σ (.deferred (σ []))/\w.heap.size<=D/\D≠l))/\Ext w z/\cM w z/\w.heap.size<=l:=by
    cases r with
    |none=>
     refine⟨w.heap.size,[kf w.heap.size],w.heap.size+1,_,_,run_enterLoop_outer _ _ _ _ _,rfl,?_,.inr ⟨rfl,?_,o4 _,Ω⟩,?_,?_,Ω⟩
     .have:=x3.alloc_heap_new (w.alloc (.deferred (σ []))) (.loop {state:=.ready,pending:=ν,fn,tmps:=a.tmps,params:=S,assign:=X,body,defers:=w.heap.size});rwa [x3.size_alloc] at this
     .exact (Below.heap_alloc _ _ _ Ξ).trans (x3.alloc_heap_new w _)
     .exact (ow w _).trans (ow _ _)
     .exact (ox w _).trans (ox _ _)
    |some bx=>
     obtain⟨_,bz,M⟩:=R bx rfl;exact⟨bz.defers,[],w.heap.size,_,_,run_enterLoop_inner M _ _ _ _ _,rfl,x3.alloc_heap_new w _,.inl rfl,ow _ _,ox _ _,o4 _⟩
   let O:x3->Prop:=λj=>mark=[]\/(mark=[kf D]/\j.heap[D]? =σ (.deferred (σ []))/\w.heap.size<=D/\D≠l);have aB:∀ {m:Nat} {A B:x3},cB m A B->O A->O B:=λE h=>h.imp id λ⟨h1,q,y⟩=>⟨h1,E.aV _ _ q rfl,y⟩;have an:∀ {A:x3} (o:Obj),O A->O (A.putObj l o):=λo h=>h.imp id λ⟨h1,q,y,H⟩=>⟨h1,(Q1 H).trans q,y,H⟩;have bA:cB b w z:=aR.b;have aS:=(j0.1 aQ).1;have aT:∀ {A B:x3},ft z.heap.size A B->O A->O B:=λE h=>h.imp id λ⟨h1,q,y⟩=>⟨h1,E.old _ _ (by
    rcases al with hm|⟨_,aw,_⟩
    .rw[hm] at h1;cases h1
    .exact (j0.1 aw).1) q rfl,y⟩
   have ad:∀ {A:x3} (o:Obj),ft w.heap.size A (A.putObj l o):=λ{A} o=>⟨rfl,.ka,rfl,Ξ,λr x R ak _=>by rw[Q1 Ω];exact ak⟩;let au:(Nat->Prop)->aM->x3->Prop:=λm k j=>aN m k j/\j.heap[l]? =σ (.loop (s .ready ν))/\cB b w j/\O j;let aU:(Nat->Prop)->aM->x3->Prop:=λm k j=>∃ex c,kL ex=true/\exitCode ex=σ c/\ay m k ex j/\j.heap[l]? =σ (.loop (s .done (σ c)))/\cB b w j/\O j;have own:∀ {m:Nat->Prop} {A B:x3},ae (λr=>o=true/\z.heap.size<=r/\¬m r) A B->ae (λr=>o=true/\w.heap.size<=r/\¬m r) A B:=λh=>h.mono λr _ h=>⟨h.1,X0 L.size h.2.1,h.2.2⟩;have aC:=bj l au aU z (λm k A B he E ⟨h1,q,y,H⟩=>⟨aj m k A B (own he) (E.mono L.size) h1,E.old _ _ aS q rfl,y.xE E L.size,aT E H⟩)
    (λm k A B he E ⟨ex,c,M,h1,q,y,H,af⟩=>⟨ex,c,M,h1,az m k ex A B (own he) (E.mono L.size) q,E.old _ _ aS y rfl,H.xE E L.size,aT E af⟩) ?round (haP _ _ _ L hbl) ⟨aj _ _ _ _ (L.U _) aR.o bm,aQ,bA,al⟩
   case round=>
    intro m k ao vs j aW bB hai aX ⟨hi,ap,bC,bD⟩;have aD:=bk k vs ao j aX;have aY:=run_yield (P:=P) (args:=vs.toArray) ap (by rw[C];simp[aD]);rw[C] at aY;refine⟨fn,_,X,body,aY,roundIn_of_wpIn trivial ?_⟩;have bE:(S.zip vs.toArray).foldl (λtmps x=>match x with|(t,a)=>tmps.setIfInBounds t a) a.tmps=(S.toList.zip vs).foldl (λgV (p:Nat×x1)=>gV.setIfInBounds p.1 p.2) a.tmps:=by
     rw[<-Array.foldl_toList,Array.toList_zip]
    have aZ:=xV (N:=N) S.toList vs a.tmps e (by simp[aD]) bf (show S6 N e {tmps:=a.tmps,defers:=[]} from⟨ab.1,ab.2⟩);rw[<-bE] at aZ;have bF:j.heap[l]? =σ (.loop (s .ready ν)):=ap;refine bd (false,b) (σ l) _ _ _ j _ _ bg (λl' aE=>⟨rfl,by cases aE;exact⟨_,ap⟩⟩) (λ_=>⟨[],rfl,List.nodup_nil,λD al=>by cases al⟩) (by have ah:=ry _ _ vs bn;rw[rx _ _ _ aD] at ah;exact ah m k ao j (λr R=>⟨X0 L.size (aW r R).1,(aW r R).2⟩) (X0 L.size bB) hai aX hi) aZ ?_ (λ_ _ _ h=>h);intro ex a1 F aF;obtain⟨M,b5,h1,q,y,H,af⟩:=aF;obtain⟨T,bG,_⟩:=af rfl;cases ex with
    |normal=>
     have Y:F.heap[l]? =σ (.loop (s .ready ν)):=T.aV _ _ ap rfl;have bH:=(j0.1 Y).1;refine⟨_,run_beginRound Y (by rw[C]),?_⟩;have bI:Ext F (F.putObj l (.loop {s .ready ν with state:=.busy})):=pK Y rfl _;have a2:(F.putObj l (.loop {s .ready ν with state:=.busy})).heap[l]? =σ (.loop {s .ready ν with state:=.busy}):=x3.putObj_heap_same bH;have bJ:lF (F.putObj l (.loop {s .ready ν with state:=.busy})) a1.defers:=by
      obtain⟨aq,Z,aa,ag⟩:=bG;refine⟨aq,Z,aa,λD' V=>?_⟩;have:=ag D' V;have aA:D'≠l:=λhe=>by rw[he,Y] at this;cases this
      rw[Q1 aA];exact this
     have a6:cB b w (F.putObj l (.loop {s .ready ν with state:=.busy})):=rB (bC.trans T) am _;have a7:=an (.loop {s .ready ν with state:=.busy}) (aB T bD);have bK:=h1 _ bI ⟨xS rfl,ad _⟩ (FC (eU.refl _) Y rfl _);refine ah (false,b) (σ l) _ _ a1 _ _ _ bh (λl' aE=>⟨rfl,by cases aE;exact⟨_,a2⟩⟩) (λ_=>bJ) bK q ?_ (λ_ _ _ h=>h);intro bL b6 I aF;obtain⟨aG,b7,g1,b8,b9,ca,bM⟩:=aF;obtain⟨J,_,_⟩:=bM rfl;have aH:I.heap[l]? =σ (.loop {s .ready ν with state:=.busy}):=J.aV _ _ a2 rfl;have aI:=(j0.1 aH).1;have a8:=λbN=>run_endRound (P:=P) bN aH;have av:∀ (o:Obj),Ext I (I.putObj l o):=λo=>pK aH rfl o;have ba:∀ (ex:Exit) (c:Code),kL ex=true->exitCode ex=σ c->(bif o then False else ay m k ex I)->
       ∃v w',(Instr.endRound l (σ c)).run P I= .ok v w'/\ ∃aJ,Ending.returned v= .returned aJ/\((aJ= .bool true/\(∃cm,(∀r,cm r->m r\/j.heap.size<=r/\r<w'.heap.size)/\(∀r,m r->cm r)/\ai cm w'/\au cm ao w')/\(G=true\/o=true->cM j w')/\j.heap.size<=w'.heap.size/\(o=true->ae (λr=>r<z.heap.size\/m r) j w'))\/(o=false/\aJ= .bool false/\aU m k w')):=by
      intro ex c ac bO bb;cases o with
      |true=>exact bb.elim
      |false=>
       refine⟨_,_,a8 (σ c),_,rfl,.inr ⟨rfl,rfl,ex,c,ac,bO,az m k ex _ _ ((av _).U _) (ad _) bb,?_,rB (a6.trans J) am _,an _ (aB J a7)⟩⟩;rw[x3.putObj_heap_same aI,C];rfl
     cases bL with
     |normal=>
      have bP:j.heap.size<=I.heap.size:=by
       have h1:=T.size;have q:=J.size;simp at q;omega
      obtain⟨⟨cm,d1,d2,Z,aa⟩,bQ,bR⟩:(∃cm,(∀r,cm r->m r\/j.heap.size<=r/\r<I.heap.size)/\(∀r,m r->cm r)/\ai cm I/\aN cm ao I)/\(G=true\/o=true->eU j I)/\(o=true->ae (λr=>r<z.heap.size\/m r) j I):=by
       cases o with
       |true=>exact⟨g1.1,λ_=>g1.2.1,λ_=>g1.2.2.mono λr _ h=>h.imp (λh=>Q2 h L.size) id⟩
       |false=>exact⟨⟨m,λr h=>.inl h,λ_ h=>h,g1.1,g1.2.1⟩,λh=>g1.2.2 (h.elim id λh=>nomatch h),λh=>nomatch h⟩
      refine⟨_,_,a8 ν,_,rfl,.inl ⟨rfl,⟨cm,by simpa using d1,d2,haP _ _ _ (av _) Z,aj _ _ _ _ ((av _).U _) (ad _) aa,?_,rB (a6.trans J) am _,an _ (aB J a7)⟩,λbS=>?_,?_,λbT=>(bR bT).trans ((av _).U _)⟩⟩
      .rw[x3.putObj_heap_same aI,C];rfl
      .have:=FJ bF T J aI (bQ bS);subst C;exact this
      .simpa using bP
     |ret=>exact ba .ret _ rfl rfl g1
     |exit id=>exact ba (.exit id) _ rfl rfl g1
     |goto t=>cases aG
     |panic bU=>cases aG
     |outgrown=>cases aG
    |_=>exact h1.elim
   have aC:=gH.calls P aC aO;refine⟨l,mark,z,{target:=.fn (.func g) cap,args:=#[.func (.yield l) #[] #[]]},z,g,#[.func (.yield l) #[] #[]]++cap,z,bu,?_,λ_ _=>trivial,?_,uf _ _,?_⟩
   .simp only[resolve,bt];simp[go_sem]
   .simp only[invoke];exact aO _ _
   .have bV:(#[.func (.yield l) #[] #[]]++cap:Array x1)=(x1.func (.yield l) #[] #[]::cap.toList).toArray:=by apply Array.toList_inj.1;simp
    rw[bV];refine CallsIn.mono (xF aC) ?_;rintro cb F ⟨v,rfl,bW⟩;have left:∀ (W:Loop) (ex:Exit),kL ex=true->F.heap[l]? =σ (.loop W)->W.state≠ .busy->cB b w F->O F->K ex e (F.putObj l (.loop {W with state:=.exhausted}))->
      Q ex {a with defers:=mark++a.defers} (F.putObj l (.loop {W with state:=.exhausted})):=by
     intro W ex ac Y cc T bc bX;have J:cB b w (F.putObj l (.loop {W with state:=.exhausted})):=rB T am _;refine be ex _ _ ⟨ac,e,bX,⟨ab.1,ab.2⟩,λ_ _=>rfl,(λh=>by simp[jd,kd] at h),λ_=>⟨J,?_,?_⟩⟩
     case refine_2=>
      rcases bc with hm|⟨hm,_,bY,_⟩
      .exact⟨[],by simp[hm],λ_ h=>by cases h⟩
      .exact⟨[D],by simp[hm],λD' V=>by simp at V;omega⟩
     obtain⟨aq,Z,aa,ag⟩:=aw rfl;have aK:=an (.loop {W with state:=.exhausted}) bc;rcases aK with hm|⟨hm,aK,bY,_⟩
     .exact⟨aq,by simp[hm,Z],aa,λD' V=>J.aV _ _ (ag D' V) rfl⟩
     .refine⟨D::aq,by simp[hm,Z],List.nodup_cons.2 ⟨λbZ=>?_,aa⟩,λD' V=>?_⟩
      .have:=(j0.1 (ag D bZ)).1;omega
      .rcases V1.1 V with h|h
       .rw[h];exact aK
       .exact J.aV _ _ (ag D' h) rfl
    rcases bW with⟨m,k,hk,h1,q,y,H⟩|⟨m,k,ex,c,M,h1,q,y,H,af⟩
    .refine⟨ν,_,by have:=run_endLoop (P:=P) q (by rw[C];simp);rw[C] at this;exact this,?_⟩;have:=left (s .ready ν) .normal rfl q (by rw[C];simp) y H (bo m _ _ hk (aj m _ _ _ ((pK q rfl _).U _) (ad _) h1));rw[C] at this;exact this
    .refine⟨σ c,_,by have:=run_endLoop (P:=P) y (by rw[C];simp);rw[C] at this;exact this,?_⟩;have:=left (s .done (σ c)) ex M y (by rw[C];simp) H af (br m k ex _ M (by intro he;rw[he] at h1;cases h1) (az m _ _ _ _ ((pK y rfl _).U _) (ad _) q));rw[C] at this;cases ex with
     |normal=>cases h1
     |ret=>cases h1;exact wpIn_ret this
     |exit id=>cases h1;exact wpIn_exit this
     |goto t=>cases M
     |panic bU=>cases M
     |outgrown=>cases M
theorem rE {b:Frame} {a:Act} {k:List Item} {cs:List Frame} {c:Code}:
  step P (lone (b.atR a (.code (.scope c)::k)) cs w)= .next (lone (b.atR a (.code c:: .inScope c::k)) cs w):=
 step_lone_go (by simp[stepG,stepG.exec,Frame.atR])
theorem FL {b:Frame} {a:Act} {k:List Item} {cs:List Frame} {c:Code}:
  step P (lone (b.atR a (.inScope c::k)) cs w)= .next (lone (b.atR a k) cs w):=
 step_lone_go (by simp[stepG,stepG.exec,Frame.atR])
theorem FM {F:Fence} {c:Code} {Q:Exit->Act->x3->Prop} {a:Act} (h:c.wpIn F n P (λex a' w'=>kL ex=true/\Q ex a' w') a w):
  (Code.scope c).wpIn F n P Q a w:=by
 intro b k cs A p q;have f:(lone (b.atR a (.code (.scope c)::k)) cs w).fenced P F:=fenced_calm p q rfl;obtain⟨e,r,s,⟨x,y⟩,j⟩:=h b (.inScope c::k) cs A p q;have z:∀id,exitTo id (.inScope c::k)=exitTo id k:=λid=>by simp[exitTo]
 cases e with
 |normal=>exact⟨.normal,r,s,y,.head f rE (StepsIn.trans j (.one (fenced_calm p q rfl) FL))⟩
 |exit id=>
  exact⟨.exit id,r,s,y,λB hk=>.head f rE (j.1 B (by rw[z];exact hk)),
   λC hk=>let⟨E,h1,G⟩:=j.2 C (by rw[z];exact hk);⟨E,h1,.head f rE G⟩⟩
 |ret=>exact⟨_,r,s,y,.of_steps (.one f rE) j⟩
 |goto l=>cases x
 |panic H=>cases x
 |outgrown=>cases x
theorem sound (hm:P.follows .mixedOrders=true) (c:Code):Sound P N c:=by
 induction c with
 |skip=>exact λfree r rd e a w K Q _ _ p h j q _=>wpIn_skip (q _ _ _ ⟨rfl,e,h,j,λ_ _=>rfl,λ_=>rfl,λE=>gJ.refl (p E)⟩)
 |label l=>exact λfree r rd e a w K Q _ _ p h j q _=>wpIn_label (q _ _ _ ⟨rfl,e,h,j,λ_ _=>rfl,λ_=>rfl,λE=>gJ.refl (p E)⟩)
 |ret=>exact λfree r rd e a w K Q _ _ p h j q _=>wpIn_ret (q _ _ _ ⟨rfl,e,h,j,λ_ _=>rfl,λ_=>rfl,λE=>gJ.refl (p E)⟩)
 |exit i=>exact λfree r rd e a w K Q _ _ p h j q _=>wpIn_exit (q _ _ _ ⟨rfl,e,h,j,λ_ _=>rfl,λ_=>rfl,λE=>gJ.refl (p E)⟩)
 |goto l=>exact λfree r rd e a w K Q _ _ p h j q _=>h.elim
 |refuse s=>exact λfree r rd e a w K Q _ _ p h j q _=>h.elim
 |region id ops aa=>
  intro free r rd e a w K Q A F p h j q G;simp only[wf,T0] at A;have W:∀o∈ops.toList,∀t,o.dst=σ t->t∈m8 ops.toList:=λo ab t J=>FF J _ ab;simp only[ew] at h;cases aa with
  |false=>exact Fk W A.1 h j λa' w' B=>q _ _ _ (xT p B)
  |true=>
   simp only[Y5,Bool.false_or] at A;exact Fu hm A.2 G W A.1 (λw' h1 H I=>h w' h1 H I) j λa' w' B=>q _ _ _ (xT p B)
 |seq x y R S=>exact FG R S
 |cond c x y R S=>
  intro free r rd e a w K Q A F p h j q G;simp only[wf,T0] at A;have X:∀ex a' w',me N free (jd free x) K (dz x) a w ex a' w'->Q ex a' w':=λex a' w' B=>q ex a' w' (by
   obtain⟨O,L,h1,H,I,M,T⟩:=B;exact⟨O,L,h1,H,λt J=>I t λh=>J (by simp[dz,h]),(λh=>M (xW _ _ _ h)),T⟩)
  have Y:∀ex a' w',me N free (jd free y) K (dz y) a w ex a' w'->Q ex a' w':=λex a' w' B=>q ex a' w' (by
   obtain⟨O,L,h1,H,I,M,T⟩:=B;exact⟨O,L,h1,H,λt J=>I t λh=>J (by simp[dz,h]),(λh=>M (xX _ _ _ h)),T⟩)
  simp only[ew] at h;cases C:eF e c with
  |none=>rw[C] at h;exact h.elim
  |some v=>
   rw[C] at h;cases v with
   |b t=>
    cases t with
    |true=>exact wpIn_cond (t:=true) (j.eF C) (R free r rd e a w K Q A.1 F p h j X G)
    |false=>exact wpIn_cond (t:=false) (j.eF C) (S free r rd e a w K Q A.2 F p h j Y G)
   |v z=>
    obtain⟨t,ac,J,E⟩:=h;refine wpIn_cond (t:=t) ((j.eF C).trans ac) ?_;cases t with
    |true=>exact R free r rd e a w K Q A.1 F p (J rfl) j X G
    |false=>exact S free r rd e a w K Q A.2 F p (E rfl) j Y G
   |u=>exact h.elim
 |block id c C=>
  intro free r rd e a w K Q A F p h j q G;simp only[wf] at A;simp only[ew] at h;refine wpIn_block (C free r rd e a w _ _ A F p h j ?_ λZ a w U=>G Z a w U);intro ex a' w' B;obtain⟨O,L,h1,H,I,M⟩:=B;cases ex with
  |exit i=>
   simp only[Exit.inBlock];simp only at h1;by_cases hi:i=id
   .rw[if_pos hi];rw[hi,Nat.beq_refl] at h1;exact q _ _ _ ⟨rfl,L,h1,H,I,M⟩
   .rw[if_neg hi];have:S1 i id=false:=by
     cases V:S1 i id with
     |true=>exact absurd (Nat.eq_of_beq_eq_true V) hi
     |false=>rfl
    rw[this] at h1;exact q _ _ _ ⟨rfl,L,h1,H,I,M⟩
  |_=>exact q _ _ _ ⟨O,L,h1,H,I,M⟩
 |loop c C=>exact FH C
 |scope c C=>
  intro free r rd e a w K Q A F p h j q G;exact FM (C free r rd e a w K (λex a' w'=>kL ex=true/\Q ex a' w') A F p h j (λex a' w' B=>⟨B.1,q ex a' w' B⟩) λZ a w U=>by cases U.1)
 |rangeFunc f ae af body ad V=>exact FK ad V
def kM:Nat->List x1->Env
 |_,[]=>[]
 |i,v::r=>(i,.v v)::kM (i+1) r
def nc (P:W9) (e:Env) (w:x3):List ResultVar->(List x1->Prop)->Prop
 |[],K=>K []
 | .tmp t::r,K=>match look e t with
  |some x=>nc P e w r λvs=>K (x.val::vs)
  |none=>False
 | .cell a t::r,K=>match look e a with
  |some x=>V P (do loadVar t (<-asAddr x.val)) w λv=>nc P e w r λvs=>K (v::vs)
  |none=>False
def rF:List x1->x1
 |[v]=>v
 |vs=>.tuple vs.toArray
def lG (P:W9) (a:List ResultVar) (marks:Bool) (n:Nat) (Q:x1->x3->Prop):Exit->Env->x3->Prop
 | .normal,e,w| .ret,e,w=>nc P e w a λvs=>bif marks then uz n w λw'=>Q (rF vs) w' else Q (rF vs) w
 |_,_,_=>False
def mf:List ResultVar->List Nat
 |[]=>[]
 | .tmp t::r=>t::mf r
 | .cell a _::r=>a::mf r
theorem xY:∀ (vs:List x1) (i t:Nat) (x:ev),look (kM i vs) t=σ x-> ∃j v,t=i+j/\vs[j]? =σ v/\x= .v v
 |[],_,_,_,h=>by cases h
 |v::r,i,t,x,h=>by
  simp only[kM,look] at h;cases a:S1 i t with
  |true=>
   rw[a] at h;simp only[cond_true,Y3] at h;exact⟨0,v,by rw[Nat.eq_of_beq_eq_true a];rfl,rfl,h.symm⟩
  |false=>
   rw[a] at h;obtain⟨j,u,h1,e,f⟩:=xY r (i+1) t x h;exact⟨j+1,u,Ω,by simpa using e,f⟩
theorem uE (vs:List x1) (h:vs.length<=n):S6 n (kM 0 vs) {tmps:=vs.toArray++Array.replicate (n-vs.toArray.size) undef,defers:=[]}:=by
 refine⟨Θ,λt x e=>?_⟩;obtain⟨j,v,h1,a,rfl⟩:=xY vs 0 t x e;have h1:t=j:=Ω
 subst h1;have f:t<vs.length:=(x4.1 a).1;rw[Array.getD_eq_getD_getElem?,Array.getElem?_append_left (by simpa using f)];simp[a,ev.val]
def rG (gV:Array x1):ResultVar->Sem x1
 | .tmp t=>pure (gV.getD t undef)
 | .cell b t=>do loadVar t (<-asAddr (gV.getD b undef))
theorem FN (fn:Func) (gV:Array x1):results fn gV=(do let vs <-fn.results.mapM (rG gV);pure (if h:vs.size=1 then vs[0] else .tuple vs)):=by
 unfold results;congr 2
theorem uF {e:Env} {a:Act} {w:x3} (j:S6 N e a):∀ (p:List ResultVar) (K:List x1->Prop),nc P e w p K->
  ∃vs,K vs/\vs.length=p.length/\ ∀w',Ext w w'->(p.mapM (rG a.tmps)).run P w'= .ok vs w'
 |[],K,h=>⟨[],h,rfl,λw' _=>by simp[V4]⟩
 | .tmp t::r,K,h=>by
  simp only[nc] at h;cases f:look e t with
  |none=>rw[f] at h;exact h.elim
  |some x=>
   rw[f] at h;obtain⟨vs,h1,q,s⟩:=uF j r _ h;refine⟨x.val::vs,h1,by simp[q],λw' hw=>?_⟩;rw[List.mapM_cons];simp only[rG,W6,V4,W8,s w' hw,j.2 t x f]
 | .cell b t::r,K,h=>by
  simp only[nc] at h;cases f:look e b with
  |none=>rw[f] at h;exact h.elim
  |some x=>
   rw[f] at h;obtain⟨v,y,h⟩:=h;obtain⟨vs,h1,q,s⟩:=uF j r _ h;refine⟨v::vs,h1,by simp[q],λw' hw=>?_⟩;rw[List.mapM_cons];have:=y w' hw;rw[<-j.2 b x f] at this;rw[rG,W6,this];simp only[W8,W6,s w' hw,V4]
theorem uG {fn:Func} {e:Env} {a:Act} (j:S6 N e a) {K:List x1->Prop} (h:nc P e w fn.results.toList K):
  ∃vs,K vs/\ ∀w',Ext w w'->(results fn a.tmps).run P w'= .ok (rF vs) w':=by
 obtain⟨vs,h1,p,f⟩:=uF j _ _ h;refine⟨vs,h1,λw' hw=>?_⟩;have f:=f w' hw;rw[FN,W6,Array.mapM_eq_mapM_toList,map_eq_pure_bind,W6,f];simp only[W8,V4];cases vs with
 |nil=>rfl
 |cons v r=>
  cases r with
  |nil=>rfl
  |cons u r=>simp[rF]
theorem xZ {fn:Func} {tmps:Array x1} {R:Ending->x3->Prop}:∀ (a:List Nat) (w:x3),a.Nodup->(∀D∈a,w.heap[D]? =σ (.deferred (σ [])))->
  (∀w',Ext w w'->Ext w' w->w'.os=w.os->jy w w'->w'.output=w.output->w.heap.size=w'.heap.size->
   (∀r,r∉a->w'.heap[r]? =w.heap[r]?)-> ∃v,(results fn tmps).run P w'= .ok v w'/\R (.returned v) w')->
  LeavesInM Fence.wide 0 P fn tmps R (a.map kf) .returning w
 |[],w,_,_,h=>by
  obtain⟨v,h1,e⟩:=h w (Ext.refl _) (Ext.refl _) rfl .ka rfl rfl λ_ _=>rfl;exact⟨v,h1,e⟩
 |D::a,w,f,j,h=>by
  rw[List.nodup_cons] at f;have p:=j D (.head _);refine⟨Ξ,.inl ⟨D,_,rfl,run_takeDeferred p,?_⟩⟩;refine xZ a _ f.2 (λD' q=>?_) λw' h1 e x y z A B=>?_
  .rw[Q1 (λhe=>f.1 (by rw[<-he];exact q))];exact j D' (.tail _ q)
  .refine h w' ((pK p rfl _).trans h1) (e.trans (xS rfl)) x y z (by simpa using A) λr s=>?_;rw[B r λhm=>s (.tail _ hm),Q1 λhe=>s (by rw[he];exact .head _)]
theorem ai.enter (hm:P.follows .mixedOrders=true) {f:Q0} {fn:Func} {c:Code} (y:P.funcs[f]? =σ fn) (z:fn.body=σ c) (A:(fn.name == "runtime.NumGoroutine")=false)
  (N:wf fn.ntmps c=true) {args:List x1} (O:Nat.ble args.length fn.ntmps=true) {w:x3} {Q:x1->x3->Prop}
  (h:ew P fn.ntmps (false,w.heap.size) c (mf fn.results.toList) (kM 0 args) w (lG P fn.results.toList true w.heap.size Q)):ai P f args w Q:=by
 refine .code (Enters.of P y z A) (callsIn_wide (n:=0).1 (callsIn_of_wp_marks y z trivial ?_));have R:=uE (n:=fn.ntmps) args (Nat.le_of_ble_eq_true O);refine wpIn_mono (Q:=λex a' w'=>kL ex=true/\bodyPostM Fence.wide 0 P fn (λe w'=>∃v,e= .returned v/\cM w w'/\Q v w') ex a' w') ?_ λ_ _ _ h=>h.2;refine sound hm c (false,w.heap.size) ν _ _ _ w _ _ N (λl S=>by cases S) (λ_=>⟨[],rfl,List.nodup_nil,λD q=>by cases q⟩) h R ?_ (λ_ _ _ h=>by cases h.1)
 .intro ex a' w' T;obtain⟨U,V,j,W,_,_,I⟩:=T;obtain⟨a,⟨s,B,X,q⟩,Y,Z,aa⟩:=I rfl;have C:∀D∈s,w.heap.size<=D:=by
   intro D ab;have h1:kf D∈Y.map kf:=by
    have:kf D∈s.map kf:=l7.2 ⟨D,ab,rfl⟩;rw[<-B,Z] at this;simpa using this
   obtain⟨E,x,ac⟩:=l7.1 h1;have:E=D:=by simpa[kf] using ac
   exact this▸aa E x
  have F:lG P fn.results.toList true w.heap.size Q .ret V w'->LeavesInM Fence.wide 0 P fn a'.tmps (λe G=>∃v,e= .returned v/\cM w G/\Q v G) a'.defers .returning w':=by
   intro j;rw[B];obtain⟨vs,h1,x⟩:=uG (fn:=fn) W j;refine xZ s w' X q λw2 g1 ad H J K L M=>⟨_,x w2 g1,_,rfl,?_,h1 w2 g1 ⟨ad,H,J,K,Nat.le_of_eq L,λr o A p _=>by rw[M r λhm=>by have:=C r hm;omega];exact p⟩⟩;have a:=a.cq (o4 _);refine⟨H.trans a.os,J.trans a.tape,K.trans a.output,by rw[<-L];exact a.size,λr o p ae=>?_⟩;have af:=(j0.1 p).1;rw[M r λhm=>by have:=C r hm;omega];exact a.aV r o p ae
  cases ex with
  |normal=>exact⟨rfl,F j⟩
  |ret=>exact⟨rfl,F j⟩
  |exit id=>exact j.elim
  |_=>cases U
theorem ai.FO (hm:P.follows .mixedOrders=true) {f:Q0} {fn:Func} {c:Code} (j:P.funcs[f]? =σ fn) (p:fn.body=σ c) (s:(fn.name == "runtime.NumGoroutine")=false)
  (x:wf fn.ntmps c=true) {args:List x1} (y:Nat.ble args.length fn.ntmps=true) (ay:kd c=false) {w:x3} {Q:x1->x3->Prop}
  (h:ew P fn.ntmps (false,w.heap.size) c (mf fn.results.toList) (kM 0 args) w (lG P fn.results.toList false 0 Q)):ai P f args w Q:=by
 refine .code (Enters.of P j p s) (callsIn_wide (n:=0).1 (callsIn_of_wp j p trivial ?_));have z:=uE (n:=fn.ntmps) args (Nat.le_of_ble_eq_true y);refine wpIn_mono (Q:=λex a' w'=>kL ex=true/\bodyPost P fn (λe w'=>∃v,e= .returned v/\cM w w'/\Q v w') ex a' w') ?_ λ_ _ _ h=>h.2;refine sound hm c (false,w.heap.size) ν _ _ _ w _ _ x (λl A=>by cases A) (λ_=>⟨[],rfl,List.nodup_nil,λD B=>by cases B⟩) h z ?_ (λ_ _ _ h=>by cases h.1);intro ex a' w' C;obtain⟨E,F,a,G,_,H,I⟩:=C;have J:a'.defers=[]:=H (by simp[jd,ay]);have q:lG P fn.results.toList false 0 Q .ret F w'->a'.defers=[]/\ ∃v,(results fn a'.tmps).run P w'= .ok v w'/\ ∃r,Ending.returned v= .returned r/\cM w w'/\Q r w':=by
  intro a;obtain⟨vs,h1,K⟩:=uG (fn:=fn) G a;exact⟨J,_,K w' (Ext.refl _),_,rfl,(I rfl).1.cq (o4 _),h1⟩
 cases ex with
 |normal=>exact⟨rfl,q a⟩
 |ret=>exact⟨rfl,q a⟩
 |exit id=>exact a.elim
 |_=>cases E
theorem gH.enter (hm:P.follows .mixedOrders=true) {f:Q0} {fn:Func} {c:Code} (j:P.funcs[f]? =σ fn) (p:fn.body=σ c) (s:(fn.name == "runtime.NumGoroutine")=false)
  (x:wf fn.ntmps c=true) {args:List x1} (y:Nat.ble args.length fn.ntmps=true) {w:x3} {Q:x1->x3->Prop}
  (h:ew P fn.ntmps (true,0) c (mf fn.results.toList) (kM 0 args) w (lG P fn.results.toList false 0 Q)):gH P f args w Q:=by
 refine .code (Enters.of P j p s) (callsIn_wide (n:=0).1 (callsIn_of_wp j p trivial ?_));have z:=uE (n:=fn.ntmps) args (Nat.le_of_ble_eq_true y);refine wpIn_mono (Q:=λex a' w'=>kL ex=true/\bodyPost P fn (λe w'=>∃v,e= .returned v/\Q v w') ex a' w') ?_ λ_ _ _ h=>h.2;refine sound hm c (true,0) ν _ _ _ w _ _ x (λl A=>by cases A) (λh=>by cases h) h z ?_ (λ_ _ _ h=>by cases h.1);intro ex a' w' B;obtain⟨C,E,a,F,_,G,I⟩:=B;have H:a'.defers=[]:=G rfl;have q:lG P fn.results.toList false 0 Q .ret E w'->a'.defers=[]/\ ∃v,(results fn a'.tmps).run P w'= .ok v w'/\ ∃r,Ending.returned v= .returned r/\Q r w':=by
  intro a;obtain⟨vs,h1,J⟩:=uG (fn:=fn) F a;exact⟨H,_,J w' (Ext.refl _),_,rfl,h1⟩
 cases ex with
 |normal=>exact⟨rfl,q a⟩
 |ret=>exact⟨rfl,q a⟩
 |exit id=>exact a.elim
 |_=>cases C
end
def pL (l:List S5) (d:Nat):Nat:=
 match l with
 |[]=>d
 | .tmp t::r=>pL r (Nat.lor d (Nat.shiftLeft 1 t))
 |_::r=>pL r d
def oy:List T6->Nat->Option T6
 |[],_=>ν
 |o::_,0=>σ o
 |_::l,n+1=>oy l n
def x0 (a b:Nat):Nat:=Nat.xor a (Nat.land a b)
def pM (m t:Nat):Bool:=S1 (Nat.land (Nat.shiftRight m t) 1) 1
def kg (m t:Nat):Nat:=Nat.lor m (Nat.shiftLeft 1 t)
def FP (ops:List T6) (o:T6):Nat:=
 match o.guard with
 |none=>0
 |some (j,_)=>match oy ops j with
  |some ⟨σ d,_,_,_,_,_⟩=>Nat.shiftLeft 1 d
  |_=>0
def rH:List T6->Nat->Nat
 |[],d=>d
 |⟨σ t,_,_,_,_,_⟩::l,d=>rH l (kg d t)
 |_::l,d=>rH l d
def x2 (ops:List T6):List T6->Nat->Nat->Nat
 |[],_,r=>r
 |o::l,d,r=>x2 ops l (match o.dst with|some t=>kg d t|none=>d) (Nat.lor r (x0 (pL (opsOf o.op) (FP ops o)) d))
def rI:List Nat->Nat->Nat
 |[],_=>0
 |x::_,0=>x
 |_::l,n+1=>rI l n
def x9 (e:Edge):Bool:=
 match e.ground with
 | .textOnly _=>false
 | .gcOnly _=>false
 |_=>true
def ya (bs:List Nat):List Edge->Nat->Nat
 |[],s=>s
 |e::r,s=>ya bs r (bif x9 e then Nat.lor (kg s e.on) (rI bs e.on) else s)
def uH:List T6->List Nat->List Nat
 |[],bs=>bs
 |o::l,bs=>uH l (bs++[ya bs o.after.toList 0])
def yb:List T6->Bool
 |[]=>false
 |⟨_,_,_,_,_,σ _⟩::_=>true
 |_::l=>yb l
def uI (bs:List Nat) (j k:Nat):Bool:=!(S1 k j)&&(!(pM (rI bs j) k)&& !(pM (rI bs k) j))
def yc (bs:List Nat) (j:Nat):Nat->List T6->Bool
 |_,[]=>false
 |i,o::l=>bif Nat.ble j i then false else (!(i9 o)&&uI bs j i)||yc bs j (Nat.succ i) l
def yd (ops:List T6) (bs:List Nat):Nat->List T6->Bool
 |_,[]=>false
 |j,o::l=>(!(i9 o)&&yc bs j 0 ops)||yd ops bs (Nat.succ j) l
def lH:Code->Nat
 | .region _ ops e=>bif (e&&yd ops.toList (uH ops.toList []) 0 ops.toList)||yb ops.toList then 2 else 1
 | .seq a b=>bif S1 (lH a) 0 then 0 else lH b
 | .cond _ a b=>Nat.add (lH a) (lH b)
 | .block id c=>Nat.add (lH c) (jA id c)
 | .loop _=>0
 | .scope c=>lH c
 | .exit _=>0
 | .goto _=>0
 | .ret=>0
 | .refuse _=>0
 |_=>1
def h7:Code->Nat
 | .region _ ops _=>rH ops.toList 0
 | .seq a b=>Nat.lor (h7 a) (h7 b)
 | .cond _ a b=>Nat.lor (h7 a) (h7 b)
 | .block _ c=>h7 c
 | .loop c=>h7 c
 | .scope c=>h7 c
 |_=>0
def lI:Code->Nat
 | .region _ ops _=>rH ops.toList 0
 | .seq a b=>Nat.lor (lI a) (lI b)
 | .cond _ a b=>bif S1 (lH a) 0 then lI b else bif S1 (lH b) 0 then lI a else Nat.land (lI a) (lI b)
 | .block id c=>bif S1 (jA id c) 0 then lI c else 0
 | .scope c=>lI c
 |_=>0
def gd:Code->Nat
 | .region _ ops _=>x2 ops.toList ops.toList 0 0
 | .seq a b=>Nat.lor (gd a) (x0 (gd b) (lI a))
 | .cond c a b=>pL [c] (Nat.lor (gd a) (gd b))
 | .block _ c=>gd c
 | .loop c=>gd c
 | .scope c=>gd c
 | .rangeFunc f _ a b=>pL [f] (Nat.lor (gd a) (gd b))
 |_=>0
def mg:Nat->Nat->Nat->List Nat
 |0,_,_=>[]
 |n+1,k,m=>bif S1 m 0 then[] else bif S1 (Nat.land m 1) 1 then k::mg n (Nat.succ k) (Nat.shiftRight m 1) else mg n (Nat.succ k) (Nat.shiftRight m 1)
def pN (e:Env):List Nat->List Nat
 |[]=>[]
 |t::r=>match look e t with
  |some _=>t::pN e r
  |none=>pN e r
structure mh (B S aR:Type) where
 kN:{x:x1}->x1
 tup:List x1->x1
 no:B
 kO:B
 and:B->B->B
 or:B->B->B
 ext:x3->x3->B
 stays:S->x1->x3->B
 split:x1->B->B->B
 uJ:S->x3->(x1->B)->B
 ye:S->x3->(x1->x3->B)->B
 yf:aR->x3->(x3->B)->B
 runN:{fr:Bool}->{n:Nat}->S->x3->(x1->x3->B)->B
 yg:{f:Q0}->List x1->x3->(x1->x3->B)->B
 yh:{f:Q0}->List x1->x3->(x1->x3->B)->B
 yi:{fr:Bool}->x1->List x1->x3->(x1->x3->B)->B
 drew:x3->(x3->B)->B
 again:{n:Nat}->x3->(x3->B)->B
 over:{n:Nat}->x3->(x3->B)->B
 dm:(x3->B)->((x3->B)->B)->B
 aT:(x1->x3->B)->((x1->x3->B)->B)->B
 iB:(x1->x1->x3->B)->((x1->x1->x3->B)->B)->B
 yj:(x1->x1->x1->x3->B)->((x1->x1->x1->x3->B)->B)->B
 yk:(x1->x1->x1->x1->x3->B)->((x1->x1->x1->x1->x3->B)->B)->B
 yl:(x1->x1->x1->x1->x1->x3->B)->((x1->x1->x1->x1->x1->x3->B)->B)->B
 ym:x3->(x3->(x3->B)->B)->B
 yn:x1->x3->(x1->x3->(x1->x3->B)->B)->B
 yo:x1->x1->x3->(x1->x1->x3->(x1->x1->x3->B)->B)->B
 yp:x1->x1->x1->x3->(x1->x1->x1->x3->(x1->x1->x1->x3->B)->B)->B
 yq:x1->x1->x1->x1->x3->(x1->x1->x1->x1->x3->(x1->x1->x1->x1->x3->B)->B)->B
 yr:x1->x1->x1->x1->x1->x3->(x1->x1->x1->x1->x1->x3->(x1->x1->x1->x1->x1->x3->B)->B)->B
 ys:x1->x1->x1->x1->x1->x1->x3->(x1->x1->x1->x1->x1->x1->x3->(x1->x1->x1->x1->x1->x1->x3->B)->B)->B
 yt:x1->x3->(x1->x3->(Exit->x3->B)->B)->(x3->B)->(x3->B)->List (Nat×(x3->B))->B
 yu:x1->x3->(x1->x1->x3->(Exit->x3->B)->B)->(x3->B)->(x3->B)->List (Nat×(x3->B))->B
 loadVar:{t:r9}->x1->S
 alloc:{t:r9}->S
 box:{t:r9}->x1->S
 build:{t:r9}->List (Nat×x1)->S
 buildSlice:{t:r9}->{n:Nat}->List (Nat×x1)->S
 load:{t:r9}->x1->S
 nil:x1->S
 bin:{op:BinOp}->{t:r9}->Bool->Bool->x1->x1->S
 un:{op:UnOp}->x1->S
 conv:{s d:r9}->x1->S
 yv:{t:r9}->x1->S
 yw:{f:Fn}->List x1->List x1->S
 yx:{t:r9}->Option x1->S
 yy:{t:r9}->x1->x1->S
 slice:{t:r9}->x1->Option x1->Option x1->Option x1->S
 yz:{t:r9}->x1->{f:Nat}->S
 field:{t:r9}->x1->{f:Nat}->S
 yA:{t:r9}->x1->x1->S
 index:{t:r9}->x1->x1->S
 lookup:{t:r9}->x1->x1->{ok:Bool}->S
 yB:{t:r9}->x1->x1->S
 range:{t:r9}->x1->S
 entry:x1->S
 assert:{t a:r9}->x1->{ok:Bool}->S
 extract:x1->{i:Nat}->S
 next:x1->{b:Bool}->S
 append:{ats:Array r9}->{t:r9}->List x1->S
 cap:{ats:Array r9}->{t:r9}->List x1->S
 clear:{ats:Array r9}->{t:r9}->List x1->S
 copy:{ats:Array r9}->{t:r9}->List x1->S
 delete:{ats:Array r9}->{t:r9}->List x1->S
 len:{ats:Array r9}->{t:r9}->List x1->S
 max:{ats:Array r9}->{t:r9}->List x1->S
 min:{ats:Array r9}->{t:r9}->List x1->S
 store:{t:r9}->x1->x1->aR
 uK:{t:r9}->x1->x1->x1->aR
 yC:{t:r9}->x1->x1->x1->aR
section
variable {B S aR:Type} (A:mh B S aR)
def ev.g:ev->x1
 | .v x=>x
 | .b c=>.bool c
 | .u=>A.kN (x:=undef)
def ne (e:Env):S5->ev
 | .tmp t=>match look e t with
  |some x=>x
  |none=>.u
 | .const (.bool c)=>.b c
 | .const x=>.v (A.kN (x:=x))
 | .global g=>.v (A.kN (x:=Γ g))
 | .func f=>.v (A.kN (x:=.func (.func f) #[] #[]))
def c3 (e:Env) (x:S5):x1:=(ne A e x).g A
def nf (e:Env):List S5->List x1
 |[]=>[]
 |x::r=>c3 A e x::nf e r
def rJ (e:Env):Option S5->Option x1
 |none=>ν
 |some x=>σ (c3 A e x)
def uL (e:Env):List (Nat×S5)->List (Nat×x1)
 |[]=>[]
 |(i,x)::r=>(i,c3 A e x)::uL e r
def FQ (b:Z3) (ats:Array r9) (t:r9) (l:List x1) (K:S->B):B:=
 match b with
 | .append=>K (A.append (ats:=ats) (t:=t) l)
 | .cap=>K (A.cap (ats:=ats) (t:=t) l)
 | .clear=>K (A.clear (ats:=ats) (t:=t) l)
 | .copy=>K (A.copy (ats:=ats) (t:=t) l)
 | .delete=>K (A.delete (ats:=ats) (t:=t) l)
 | .len=>K (A.len (ats:=ats) (t:=t) l)
 | .max=>K (A.max (ats:=ats) (t:=t) l)
 | .min=>K (A.min (ats:=ats) (t:=t) l)
 |_=>A.no
def yD (e:Env) (t:r9) (K:S->B) (j:aR->B):Op->B
 | .alloc t=>K (A.alloc (t:=t))
 | .box t x=>K (A.box (t:=t) (c3 A e x))
 | .build t p=>K (A.build (t:=t) (uL A e p.toList))
 | .buildSlice t n p=>K (A.buildSlice (t:=t) (n:=n) (uL A e p.toList))
 | .load t x=>K (A.load (t:=t) (c3 A e x))
 | .nilCheck x=>K (A.nil (c3 A e x))
 | .binOp op t x y _=>K (A.bin (op:=op) (t:=t) (oj x) (oj y) (c3 A e x) (c3 A e y))
 | .unOp op _ x=>K (A.un (op:=op) (c3 A e x))
 | .convert s d x=>K (A.conv (s:=s) (d:=d) (c3 A e x))
 | .makeInterface t x=>K (A.yv (t:=t) (c3 A e x))
 | .makeFunc f a b=>K (A.yw (f:=f) (nf A e a.toList) (nf A e b.toList))
 | .makeMap t r=>K (A.yx (t:=t) (rJ A e r))
 | .makeSlice t l c=>K (A.yy (t:=t) (c3 A e l) (c3 A e c))
 | .slice t x l h m=>K (A.slice (t:=t) (c3 A e x) (rJ A e l) (rJ A e h) (rJ A e m))
 | .fieldAddr t x f=>K (A.yz (t:=t) (c3 A e x) (f:=f))
 | .field t x f=>K (A.field (t:=t) (c3 A e x) (f:=f))
 | .indexAddr t x i=>K (A.yA (t:=t) (c3 A e x) (c3 A e i))
 | .index t x i=>K (A.index (t:=t) (c3 A e x) (c3 A e i))
 | .lookup t x i ok=>K (A.lookup (t:=t) (c3 A e x) (c3 A e i) (ok:=ok))
 | .mapEntry t m k=>K (A.yB (t:=t) (c3 A e m) (c3 A e k))
 | .range t x=>K (A.range (t:=t) (c3 A e x))
 | .entry x=>K (A.entry (c3 A e x))
 | .typeAssert x t a ok=>K (A.assert (t:=t) (a:=a) (c3 A e x) (ok:=ok))
 | .extract x i=>K (A.extract (c3 A e x) (i:=i))
 | .call ⟨.builtin b,args,ats⟩=>FQ A b ats t (nf A e args.toList) K
 | .store t a x=>j (A.store (t:=t) (c3 A e a) (c3 A e x))
 | .mapUpdate t m k x=>j (A.uK (t:=t) (c3 A e m) (c3 A e k) (c3 A e x))
 | .insert t m k x=>j (A.uK (t:=t) (c3 A e m) (c3 A e k) (c3 A e x))
 | .entryStore t m k x=>j (A.yC (t:=t) (c3 A e m) (c3 A e k) (c3 A e x))
 |_=>A.no
def hr (e:Env) (d:Option Tmp) (x:ev):Env:=
 match d with
 |some t=>(t,x)::e
 |none=>e
def yE (o:T6) (e:Env) (w:x3) (K:Env->(x3->B)->B):B:=
 match o with
 |⟨d,.move x,_,_,_,_⟩=>K (hr e d (ne A e x)) (λ_=>A.kO)
 |⟨d,.assign x,_,_,_,_⟩=>K (hr e d (ne A e x)) (λ_=>A.kO)
 |⟨d,.pick c a b,_,_,_,_⟩=>
  match ne A e c with
  | .b true=>K (hr e d (ne A e a)) (λ_=>A.kO)
  | .b false=>K (hr e d (ne A e b)) (λ_=>A.kO)
  | .v x=>A.split x (K (hr e d (.v (c3 A e a))) (λ_=>A.kO)) (K (hr e d (.v (c3 A e b))) (λ_=>A.kO))
  | .u=>A.no
 |⟨d,op,t,_,_,_⟩=>yD A e t (λs=>A.uJ s w λv=>K (hr e d (.v v)) (A.stays s v)) (λ_=>A.no) op
def FR (fr:Bool) (n:Nat) (o:T6) (e:Env) (w:x3) (K:Env->x3->B):B:=
 match o with
 |⟨d,.call ⟨.value (.func f),args,_⟩,_,_,_,_⟩=>
  bif fr then A.yh (f:=f) (nf A e args.toList) w λv w'=>K (hr e d (.v v)) w'
  else A.yg (f:=f) (nf A e args.toList) w λv w'=>K (hr e d (.v v)) w'
 |⟨d,.call ⟨.value x,args,_⟩,_,_,_,_⟩=>A.yi (fr:=fr) (c3 A e x) (nf A e args.toList) w λv w'=>K (hr e d (.v v)) w'
 |⟨d,.next x b,_,_,_,_⟩=>A.runN (fr:=fr) (n:=n) (A.next (c3 A e x) (b:=b)) w λv w'=>K (hr e d (.v v)) w'
 |⟨d,op,t,_,_,_⟩=>yD A e t (λs=>A.ye s w λv w'=>K (hr e d (.v v)) w') (λu=>A.yf u w λw'=>K (hr e d (.v (A.kN (x:=undef)))) w') op
def yF (fr:Bool) (n:Nat) (o:T6) (e:Env) (w:x3) (K:Env->x3->B):B:=
 bif i9 o then yE A o e w (λa _=>K a w) else FR A fr n o e w K
def uM (ops:List T6) (o:T6) (e:Env) (D N:Env->B):B:=
 match o.guard with
 |none=>D e
 |some (j,b)=>
  match oy ops j with
  |some ⟨σ s,_,_,_,_,_⟩=>
   match look e s with
   |some (.b c)=>bif xor c b then N e else D e
   |some (.v x)=>A.split x (bif b then D ((s,.b true)::e) else N ((s,.b true)::e)) (bif b then N ((s,.b false)::e) else D ((s,.b false)::e))
   |some .u=>N e
   |none=>A.no
  |_=>A.no
def uN (fr:Bool) (n:Nat) (ops:List T6):List T6->Env->x3->(Env->x3->B)->B
 |[],e,w,K=>K e w
 |o::l,e,w,K=>uM A ops o e (λe=>yF A fr n o e w λa w'=>uN fr n ops l a w' K) (λe=>uN fr n ops l (hr e o.dst .u) w K)
def yG:List Edge->Nat->Bool
 |[],_=>true
 |e::r,a=>(bif x9 e then pM a e.on else true)&&yG r a
def rK (a:Nat):Nat->List T6->List Nat
 |_,[]=>[]
 |i,o::l=>bif pM a i then rK a (Nat.succ i) l else bif yG o.after.toList a then i::rK a (Nat.succ i) l else rK a (Nat.succ i) l
def yH (ops:List T6):List Nat->Option Nat
 |[]=>ν
 |i::r=>match oy ops i with
  |some o=>bif i9 o then σ i else yH ops r
  |none=>ν
def yI (p:Nat->B):List Nat->B
 |[]=>A.kO
 |[i]=>p i
 |i::r=>A.and (p i) (yI p r)
def yJ (same:Bool) (q:Nat) (w:x3) (st:x3->B) (a:List (x3×List (Nat×(x3->B)))):List (x3×List (Nat×(x3->B))):=
 match same,a with
 |true,g::r=>(g.1,(q,st)::g.2)::r
 |_,a=>(w,[(q,st)])::a
def yK (bs:List Nat) (j:Nat):List (Nat×(x3->B))->Bool
 |[]=>false
 |(i,_)::r=>uI bs j i||yK bs j r
def uO (bs:List Nat) (j:Nat) (w':x3):List (Nat×(x3->B))->B
 |[]=>A.kO
 |(i,p)::r=>bif uI bs j i then A.and (p w') (uO bs j w' r) else uO bs j w' r
def rL (bs:List Nat) (j:Nat) (w':x3) (C:B):List (x3×List (Nat×(x3->B)))->B
 |[]=>C
 |(w,l)::r=>bif yK bs j l then A.and (A.or (A.ext w w') (uO A bs j w' l)) (rL bs j w' C r) else rL bs j w' C r
def ng (fr:Bool) (n:Nat) (ops:List T6) (bs:List Nat):Nat->Nat->Bool->List (x3×List (Nat×(x3->B)))->Env->x3->(Env->x3->B)->B
 |0,_,_,_,e,w,K=>K e w
 |fuel+1,f,same,a,e,w,K=>
  match rK f 0 ops with
  |[]=>K e w
  |i::r=>
   match yH ops (i::r) with
   |some q=>
    match oy ops q with
    |some o=>uM A ops o e
      (λe=>yE A o e w λh st=>
       bif lA o then ng fr n ops bs fuel (kg f q) same a h w K
       else ng fr n ops bs fuel (kg f q) true (yJ same q w st a) h w K)
      (λe=>bif lA o then ng fr n ops bs fuel (kg f q) same a (hr e o.dst .u) w K
       else ng fr n ops bs fuel (kg f q) true (yJ same q w (λ_=>A.kO) a) (hr e o.dst .u) w K)
    |none=>A.no
   |none=>
    yI A (λj=>match oy ops j with
     |some o=>uM A ops o e (λe=>yF A fr n o e w λh w'=>rL A bs j w' (ng fr n ops bs fuel (kg f j) false a h w' K) a)
       (λe=>rL A bs j w (ng fr n ops bs fuel (kg f j) false a (hr e o.dst .u) w K) a)
     |none=>A.no) (i::r)
def rM (e:Env):List Nat->List x1
 |[]=>[]
 |t::r=>(match look e t with|some x=>x.g A|none=>A.kN (x:=undef))::rM e r
def uP (l:List Nat) (vs:List x1) (e:Env):Env:=
 match l,vs with
 |t::r,v::vs=>(t,.v v)::uP r vs e
 |_,_=>e
def rN (d:Nat):Env->Env
 |[]=>[]
 |(t,x)::r=>bif pM d t then rN d r else (t,x)::rN d r
def FS (l:List Nat) (au:List x1->x3->B) (e:(List x1->x3->B)->B):B:=
 match l with
 |[]=>A.dm (λw=>au [] w) λk=>e λ_ w=>k w
 |[_]=>A.aT (λa w=>au [a] w) λk=>e λvs w=>match vs with
  |[a]=>k a w
  |_=>A.no
 |[_,_]=>A.iB (λa b w=>au [a,b] w) λk=>e λvs w=>match vs with
  |[a,b]=>k a b w
  |_=>A.no
 |[_,_,_]=>A.yj (λa b c w=>au [a,b,c] w) λk=>e λvs w=>match vs with
  |[a,b,c]=>k a b c w
  |_=>A.no
 |[_,_,_,_]=>A.yk (λa b c d w=>au [a,b,c,d] w) λk=>e λvs w=>match vs with
  |[a,b,c,d]=>k a b c d w
  |_=>A.no
 |[_,_,_,_,_]=>A.yl (λa b c d f w=>au [a,b,c,d,f] w) λk=>e λvs w=>match vs with
  |[a,b,c,d,f]=>k a b c d f w
  |_=>A.no
 |_=>A.no
def FT (us:List x1) (w:x3) (e:List x1->x3->(List x1->x3->B)->B):B:=
 match us with
 |[]=>A.ym w λw k=>e [] w λ_ w=>k w
 |[a]=>A.yn a w λa w k=>e [a] w λvs w=>match vs with
  |[a]=>k a w
  |_=>A.no
 |[a,b]=>A.yo a b w λa b w k=>e [a,b] w λvs w=>match vs with
  |[a,b]=>k a b w
  |_=>A.no
 |[a,b,c]=>A.yp a b c w λa b c w k=>e [a,b,c] w λvs w=>match vs with
  |[a,b,c]=>k a b c w
  |_=>A.no
 |[a,b,c,d]=>A.yq a b c d w λa b c d w k=>e [a,b,c,d] w λvs w=>match vs with
  |[a,b,c,d]=>k a b c d w
  |_=>A.no
 |[a,b,c,d,f]=>A.yr a b c d f w λa b c d f w k=>e [a,b,c,d,f] w λvs w=>match vs with
  |[a,b,c,d,f]=>k a b c d f w
  |_=>A.no
 |[a,b,c,d,f,g]=>A.ys a b c d f g w λa b c d f g w k=>e [a,b,c,d,f,g] w λvs w=>match vs with
  |[a,b,c,d,f,g]=>k a b c d f g w
  |_=>A.no
 |_=>A.no
def uQ (K:Nat->x3->B):List Nat->List (Nat×(x3->B))
 |[]=>[]
 |i::r=>(i,λw=>K i w)::uQ K r
def hN (fr:Bool) (n:Nat):Code->Nat->Env->x3->(Exit->Env->x3->B)->B
 | .skip,_,e,w,K=>K .normal e w
 | .label _,_,e,w,K=>K .normal e w
 | .ret,_,e,w,K=>K .ret e w
 | .exit i,_,e,w,K=>K (.exit i) e w
 | .region _ ops C,_,e,w,K=>
  bif C then A.drew w λw'=>ng A fr n ops.toList (uH ops.toList []) (ops.toList.length) 0 false [] e w' (K .normal)
  else uN A fr n ops.toList ops.toList e w (K .normal)
 | .seq x y,rd,e,w,K=>
  bif Nat.ble 2 (lH x) then
   FS A (mg 1000 0 (Nat.land (h7 x) (Nat.lor (gd y) rd))) (λvs w'=>hN fr n y rd (uP (mg 1000 0 (Nat.land (h7 x) (Nat.lor (gd y) rd))) vs (rN (h7 x) e)) w' K)
    λau=>hN fr n x (Nat.lor (gd y) rd) e w λex h w'=>match ex with
     | .normal=>au (rM A h (mg 1000 0 (Nat.land (h7 x) (Nat.lor (gd y) rd)))) w'
     |ex=>K ex h w'
  else hN fr n x (Nat.lor (gd y) rd) e w λex h w'=>match ex with
   | .normal=>hN fr n y rd h w' K
   |ex=>K ex h w'
 | .cond c x y,rd,e,w,K=>
  match ne A e c with
  | .b true=>hN fr n x rd e w K
  | .b false=>hN fr n y rd e w K
  | .v v=>A.split v (hN fr n x rd e w K) (hN fr n y rd e w K)
  | .u=>A.no
 | .block id c,rd,e,w,K=>hN fr n c rd e w λex h w'=>match ex with
  | .exit i=>bif S1 i id then K .normal h w' else K (.exit i) h w'
  |ex=>K ex h w'
 | .loop c,rd,e,w,K=>
  FT A (rM A e (pN e (mg 1000 0 (Nat.land (h7 c) (Nat.lor (gd c) rd))))) w λus w' k=>
   hN fr n c (Nat.lor (gd c) rd) (uP (pN e (mg 1000 0 (Nat.land (h7 c) (Nat.lor (gd c) rd)))) us (rN (h7 c) e)) w' λex h j=>match ex with
    | .normal=>k (rM A h (pN e (mg 1000 0 (Nat.land (h7 c) (Nat.lor (gd c) rd))))) j
    |ex=>K ex h j
 | .scope c,rd,e,w,K=>hN fr n c rd e w K
 | .rangeFunc f E z body,_,e,w,K=>
  match E.toList with
  |[p]=>A.yt (c3 A e f) w
    (λa w' k=>hN fr n z (gd body) ((p,.v a)::e) w' λex h j=>match ex with
     | .normal=>A.over (n:=w.heap.size) j λr=>hN fr n body 0 h r λex _ s=>k ex s
     |_=>A.no)
    (λw'=>K .normal e w') (bif jc body then λw'=>K .ret e w' else λ_=>A.no) (uQ (λi w'=>K (.exit i) e w') (jB body))
  |[p,q]=>A.yu (c3 A e f) w
    (λa b w' k=>hN fr n z (gd body) ((q,.v b)::(p,.v a)::e) w' λex h j=>match ex with
     | .normal=>A.over (n:=w.heap.size) j λr=>hN fr n body 0 h r λex _ s=>k ex s
     |_=>A.no)
    (λw'=>K .normal e w') (bif jc body then λw'=>K .ret e w' else λ_=>A.no) (uQ (λi w'=>K (.exit i) e w') (jB body))
  |_=>A.no
 | .goto _,_,_,_,_=>A.no
 | .refuse _,_,_,_,_=>A.no
def yL:Nat->List x1->Env
 |_,[]=>[]
 |i,v::r=>(i,.v (A.kN (x:=v)))::yL (i+1) r
def rO (e:Env) (w:x3):List ResultVar->(List x1->B)->B
 |[],K=>K []
 | .tmp t::r,K=>rO e w r λvs=>K ((match look e t with|some x=>x.g A|none=>A.kN (x:=undef))::vs)
 | .cell a t::r,K=>A.uJ (A.loadVar (t:=t) (match look e a with|some x=>x.g A|none=>A.kN (x:=undef))) w λv=>rO e w r λvs=>K (v::vs)
def rP (vs:List x1) (K:x1->B):B:=
 match vs with
 |[v]=>K v
 |vs=>K (A.tup vs)
def uR:List ResultVar->Nat->Nat
 |[],s=>s
 | .tmp t::r,s=>uR r (kg s t)
 | .cell a _::r,s=>uR r (kg s a)
def FU (a:List ResultVar) (marks:Bool) (n:Nat) (Q:x1->x3->B):Exit->Env->x3->B
 | .normal,e,w=>rO A e w a λvs=>bif marks then A.again (n:=n) w λw'=>rP A vs λv=>Q v w' else rP A vs λv=>Q v w
 | .ret,e,w=>rO A e w a λvs=>bif marks then A.again (n:=n) w λw'=>rP A vs λv=>Q v w' else rP A vs λv=>Q v w
 |_,_,_=>A.no
def uS (fr marks:Bool) (fn:Func) (c:Code) (args:List x1) (w:x3) (Q:x1->x3->B):B:=
 hN A fr n c (uR fn.results.toList 0) (yL A 0 args) w (FU A fn.results.toList marks n Q)
end
def oz (P:W9):mh Prop (Sem x1) (Sem Unit) where
 kN {x}:=x
 tup l:=.tuple l.toArray
 no:=False
 kO:=True
 and:=And
 or:=Or
 ext:=Ext
 stays:=b4 P
 split:=Split
 uJ:=V P
 ye:=av P
 yf u w K:=av P u w λ_ w'=>K w'
 runN {fr n}:=rl P (fr,n)
 yg {f}:=ai P f
 yh {f}:=gH P f
 yi {fr}:=rp P fr
 drew:=ei
 again {n}:=uz n
 over {n}:=Over n
 dm:=cr
 aT:=cr
 iB:=cr
 yj:=cr
 yk:=cr
 yl:=cr
 ym:=Fy
 yn:=ci
 yo:=bY
 yp:=ot
 yq:=rz
 yr:=pG
 ys:=Fz
 yt:=lE P
 yu:=nb P
 loadVar {t} x:=do loadVar t (<-asAddr x)
 alloc {t}:=S0 t true (.tuple #[])
 box {t} x:=Instr.box t x
 build {t} l:=Instr.build t l.toArray
 buildSlice {t n} l:=Y4 t n l.toArray
 load {t} x:=u5 t x
 nil x:=bN x
 bin {op t} a b x y:=aJ op t a b x y
 un {op} x:=Op.unary op x
 conv {s d} x:=convert s d x
 yv {t} x:=Instr.makeInterface t x
 yw {f} a b:=Instr.makeFunc f a.toArray b.toArray
 yx {t} x:=Instr.makeMap t x
 yy {t} l c:=Instr.makeSlice t l c
 slice {t} x l h m:=U2 t x l h m
 yz {t} x {f}:=u6 t x f
 field {t} x {f}:=Instr.field t x f
 yA {t} x i:=c8 t x i
 index {t} x i:=Instr.index t x i
 lookup {t} x i {ok}:=Instr.lookup t x i ok
 yB {t} m k:=Instr.mapEntry t m k
 range {t} x:=Instr.range t x
 entry x:=Instr.entry x
 assert {t a} x {ok}:=Instr.typeAssert x t a ok
 extract x {i}:=Z8 x i
 next x {b}:=Instr.next x b 0
 append {ats t} l:=b9 ats t l.toArray
 cap {ats t} l:=Z3.cap_ ats t l.toArray
 clear {ats t} l:=Z3.clear_ ats t l.toArray
 copy {ats t} l:=Z3.copy_ ats t l.toArray
 delete {ats t} l:=Z3.delete_ ats t l.toArray
 len {ats t} l:=V3 ats t l.toArray
 max {ats t} l:=Z3.max_ ats t l.toArray
 min {ats t} l:=Z3.min_ ats t l.toArray
 store {t} a x:=o5 t a x
 uK {t} m k x:=Instr.mapUpdate t m k x
 yC {t} m k x:=Instr.entryStore t m k x
end Go.Vc
namespace Go.Proofs.YtjjhhcfgfdepdaaGreatDoor
open Go Go.Vc Go.RowKit Go.Proofs Go.Proofs.Tryz
set_option maxRecDepth 100000
theorem mixed:x7.follows .mixedOrders=true:=Ψ
def yM:Nat:=7
def yN:Nat:=8
def yO:Nat:=9
def yP:Nat:=10
def yQ:Nat:=11
def FV:Nat:=13
def FW:Nat:=14
def FX:Nat:=15
def FY:Nat:=16
def FZ:Nat:=17
def F0:Nat:=18
def F3:Nat:=19
def F4:Nat:=22
def F5:Nat:=23
def yR:Nat:=24
def yS:Nat:=25
def yT:Nat:=26
def yU:Nat:=27
def F6:Nat:=28
def F7:Nat:=30
def F8:Nat:=31
def F9:Nat:=32
def Ga:Nat:=33
def Gb:Nat:=34
def Gc:Nat:=35
def Gd:Nat:=36
def yV:Nat:=37
def Ge:Nat:=38
def Gf:Nat:=39
def uT:Nat:=40
def Gg:Nat:=41
def yW:Nat:=42
def Gh:Nat:=43
def Gi:Nat:=44
def Gj:Nat:=45
def yX:Nat:=46
def Gk:Nat:=47
def Gl:Nat:=48
def Gm:Nat:=49
def nh:Nat:=50
def ni:Nat:=51
def Gn:Nat:=52
def Gp:Nat:=53
def Gq:Nat:=54
def Gr:Nat:=55
def Gs:Nat:=56
def Gt:Nat:=57
def Gu:Nat:=58
def Gv:Nat:=59
def Gw:Nat:=60
def Gx:Nat:=61
def Gy:Nat:=63
def Gz:Nat:=64
def GA:Nat:=65
def yY:Nat:=66
def GB:Nat:=67
def GC:Nat:=68
def yZ:Nat:=69
def GD:Nat:=70
def GF:Nat:=71
def GG:Nat:=72
def GH:Nat:=73
def GI:Nat:=74
def GJ:Nat:=75
def GK:Nat:=76
def y0:Nat:=77
def y1:Nat:=78
def pO:Nat:=79
def nj:Nat:=80
def kP:Nat:=81
def y2:Nat:=82
def uU:Nat:=83
def nk:Nat:=84
def y3:Nat:=85
def uV:Nat:=86
def GL:Nat:=87
def GM:Nat:=88
def rQ:Nat:=89
def lJ:Nat:=90
def y4:Nat:=91
def nl:Nat:=92
def GN:Nat:=93
def GO:Nat:=94
def GP:Nat:=95
def GQ:Nat:=96
def y5:Nat:=97
def GR:Nat:=98
def GS:Nat:=99
def GU:Nat:=100
def y6:Nat:=101
def y7:Nat:=102
def GV:Nat:=103
def GW:Nat:=104
def GX:Nat:=105
def GY:Nat:=106
def GZ:Nat:=107
def G0:Nat:=108
def G1:Nat:=109
def G2:Nat:=110
def G3:Nat:=111
def G4:Nat:=112
def G5:Nat:=113
def G6:Nat:=114
def G7:Nat:=115
def G8:Nat:=116
def kh:Nat:=117
def G9:Nat:=118
def Ha:Nat:=119
def rR:Nat:=120
def y8:Nat:=121
def Hb:Nat:=122
def Hc:Nat:=123
def Hd:Nat:=124
def He:Nat:=125
def Hf:Nat:=126
def Hg:Nat:=127
def Hh:Nat:=128
def Hi:Nat:=129
def Hj:Nat:=130
def Hk:Nat:=131
def Hl:Nat:=132
def Hm:Nat:=133
def kQ:Nat:=134
def Hn:Nat:=135
def Ho:Nat:=136
def Hp:Nat:=137
def Hq:Nat:=138
def Hr:Nat:=139
def y9:Nat:=140
def Hs:Nat:=141
def Ht:Nat:=142
def Hu:Nat:=143
def Hv:Nat:=144
def Hw:Nat:=145
def oA:Nat:=146
def Hx:Nat:=147
def Hy:Nat:=148
def rS:Nat:=149
def Hz:Nat:=150
def HA:Nat:=151
def za:Nat:=152
def zb:Nat:=153
def HB:Nat:=154
def pP:Nat:=155
def HC:Nat:=156
def uW:Nat:=157
def HD:Nat:=158
def HE:Nat:=159
def zc:Nat:=160
def HF:Nat:=161
def HG:Nat:=162
def HH:Nat:=163
def zd:Nat:=164
def HI:Nat:=165
def HJ:Nat:=166
def HK:Nat:=167
def HL:Nat:=168
def ze:Nat:=169
def HM:Nat:=170
def HN:Nat:=171
def HO:Nat:=172
def HP:Nat:=173
def zf:Nat:=174
def HQ:Nat:=175
def HR:Nat:=176
def HS:Nat:=177
def lK:Nat:=178
def lL:Nat:=179
def HT:Nat:=180
def zg:Nat:=181
def HU:Nat:=182
def HV:Nat:=183
def uX:Nat:=184
def rT:Nat:=185
def uY:Nat:=186
def HW:Nat:=187
def uZ:Nat:=188
def HX:Nat:=189
def HY:Nat:=190
def u0:Nat:=191
def HZ:Nat:=192
def H0:Nat:=193
def zh:Nat:=194
def zi:Nat:=195
def zj:Nat:=196
def H1:Nat:=197
def H2:Nat:=198
def H3:Nat:=199
def H4:Nat:=200
def H5:Nat:=201
def H6:Nat:=202
def H7:Nat:=203
def QK:Nat:=204
def H8:Nat:=206
def cmp_isNaN_int:Nat:=207
def zk:Nat:=208
def u1:Nat:=209
def rU:Nat:=210
def H9:Nat:=211
def Ia:Nat:=212
def zl:Nat:=213
def Ib:Nat:=214
def Ic:Nat:=215
def Ie:Nat:=216
def If:Nat:=217
def Ig:Nat:=218
def Ih:Nat:=219
def QL:Nat:=220
def zm:Nat:=221
def Ii:Nat:=222
def QM:Nat:=223
def Ij:Nat:=224
def Ik:Nat:=225
def oB:Nat:=226
def Il:Nat:=227
def Im:Nat:=228
def In:Nat:=229
def Io:Nat:=239
def Ip:Nat:=240
def rV:Nat:=241
def Iq:Nat:=242
def Ir:Nat:=243
def Is:Nat:=244
def It:Nat:=245
def lM:Nat:=246
def Iu:Nat:=247
def Iv:Nat:=248
def Iw:Nat:=249
def QN:Nat:=250
def QO:Nat:=257
def Ix:Nat:=258
def Iy:Nat:=259
def Iz:Nat:=261
def IA:Nat:=262
def IB:Nat:=263
def QP:Nat:=264
def IC:Nat:=265
def QQ:Nat:=266
def QR:Nat:=267
def QS:Nat:=268
def QT:Nat:=269
def QU:Nat:=270
def cmp_Less_int:Nat:=271
def QV:Nat:=272
def QW:Nat:=273
def QX:Nat:=283
def QY:Nat:=284
abbrev ID:Nat:=0
abbrev ak:Nat:=2
abbrev ag:Nat:=3
abbrev ey:Nat:=4
abbrev cC:Nat:=5
abbrev c4:Nat:=9
abbrev cP:Nat:=22
abbrev pQ:Nat:=23
abbrev dO:Nat:=25
abbrev al:Nat:=26
abbrev cu:Nat:=27
abbrev hs:Nat:=28
abbrev dn:Nat:=29
abbrev dP:Nat:=30
abbrev jC:Nat:=31
abbrev aG:Nat:=33
abbrev aZ:Nat:=37
abbrev jD:Nat:=42
abbrev an:Nat:=52
abbrev aU:Nat:=64
abbrev cT:Nat:=66
abbrev u2:Nat:=68
abbrev u3:Nat:=73
abbrev va:Nat:=76
abbrev mi:Nat:=79
abbrev cj:Nat:=84
abbrev dE:Nat:=86
abbrev fv:Nat:=94
abbrev cb:Nat:=96
abbrev IE:Nat:=103
abbrev pR:Nat:=105
abbrev oC:Nat:=116
abbrev pS:Nat:=118
abbrev ff:Nat:=119
abbrev rW:Nat:=120
abbrev ct:Nat:=122
abbrev bA:Nat:=124
abbrev dQ:Nat:=126
abbrev gf:Nat:=134
abbrev fO:Nat:=135
abbrev rX:Nat:=141
abbrev eV:Nat:=144
abbrev ht:Nat:=145
abbrev cg:Nat:=147
abbrev je:Nat:=153
abbrev iC:Nat:=154
abbrev b5:Nat:=156
abbrev dJ:Nat:=162
abbrev cD:Nat:=164
abbrev eP:Nat:=165
abbrev cE:Nat:=167
abbrev fg:Nat:=169
abbrev dA:Nat:=173
abbrev bB:Nat:=175
abbrev dF:Nat:=177
abbrev cn:Nat:=179
abbrev eb:Nat:=183
abbrev a1:Nat:=185
abbrev kR:Nat:=190
abbrev fw:Nat:=192
abbrev eQ:Nat:=193
abbrev hv:Nat:=197
abbrev eG:Nat:=222
abbrev h8:Nat:=223
abbrev nn:Nat:=224
abbrev rY:Nat:=225
abbrev fx:Nat:=227
abbrev hP:Nat:=233
abbrev jE:Nat:=239
abbrev ec:Nat:=244
abbrev cc:Nat:=248
abbrev gg:Nat:=250
abbrev cW:Nat:=255
abbrev iD:Nat:=269
abbrev fy:Nat:=271
abbrev oD:Nat:=272
abbrev gh:Nat:=275
abbrev cX:Nat:=278
abbrev gi:Nat:=280
abbrev kS:Nat:=282
abbrev zn:Nat:=288
abbrev oE:Nat:=289
abbrev gW:Nat:=290
abbrev fP:Nat:=293
abbrev cF:Nat:=295
abbrev kT:Nat:=317
abbrev jf:Nat:=319
abbrev rZ:Nat:=325
abbrev QZ:Nat:=333
abbrev oF:Nat:=340
abbrev lN:Nat:=341
abbrev mj:Nat:=363
abbrev r0:Nat:=382
theorem aw {f:Q0} {fn:Func} {c:Code} {Q:x1->x3->Prop} {Z:{B S aR:Type}->mh B S aR->(x1->x3->B)->B} {a:Prop} (j:x7.funcs[f]? =σ fn) (h:a)
  (p:fn.body=σ c:=by rfl) (_:∀ {B S aR:Type} (A:mh B S aR) (Q:x1->x3->B),uS A false false (n:=w.heap.size) fn c args w Q=Z A Q:=by intros;conv=>lhs;reduce)
  (_:Z (oz x7) Q=a:=by dsimp only[oz]) (e:a=ew x7 fn.ntmps (false,w.heap.size) c (mf fn.results.toList) (kM 0 args) w (lG x7 fn.results.toList false 0 Q):=by kernel_rfl)
  (hk:(!(fn.name == "runtime.NumGoroutine")&&wf fn.ntmps c&&Nat.ble args.length fn.ntmps&& !kd c)=true:=by kernel_rfl):ai x7 f args w Q:=by
 simp only[T0,Bool.not_eq_true'] at hk;exact ai.FO mixed j p hk.1.1.1 hk.1.1.2 hk.1.2 hk.2 (e▸h)
theorem jg {f:Q0} {fn:Func} {c:Code} {Q:x1->x3->Prop} {Z:{B S aR:Type}->mh B S aR->(x1->x3->B)->B} {a:Prop} (j:x7.funcs[f]? =σ fn) (h:a)
  (p:fn.body=σ c:=by rfl) (_:∀ {B S aR:Type} (A:mh B S aR) (Q:x1->x3->B),uS A false true (n:=w.heap.size) fn c args w Q=Z A Q:=by intros;conv=>lhs;reduce)
  (_:Z (oz x7) Q=a:=by dsimp only[oz]) (e:a=ew x7 fn.ntmps (false,w.heap.size) c (mf fn.results.toList) (kM 0 args) w (lG x7 fn.results.toList true w.heap.size Q):=by kernel_rfl)
  (hk:(!(fn.name == "runtime.NumGoroutine")&&wf fn.ntmps c&&Nat.ble args.length fn.ntmps)=true:=by kernel_rfl):ai x7 f args w Q:=by
 simp only[T0,Bool.not_eq_true'] at hk;exact ai.enter mixed j p hk.1.1 hk.1.2 hk.2 (e▸h)
theorem pT {f:Q0} {fn:Func} {c:Code} {Q:x1->x3->Prop} {Z:{B S aR:Type}->mh B S aR->(x1->x3->B)->B} {a:Prop} (j:x7.funcs[f]? =σ fn) (h:a)
  (p:fn.body=σ c:=by rfl) (_:∀ {B S aR:Type} (A:mh B S aR) (Q:x1->x3->B),uS A true false (n:=0) fn c args w Q=Z A Q:=by intros;conv=>lhs;reduce)
  (_:Z (oz x7) Q=a:=by dsimp only[oz]) (e:a=ew x7 fn.ntmps (true,0) c (mf fn.results.toList) (kM 0 args) w (lG x7 fn.results.toList false 0 Q):=by kernel_rfl)
  (hk:(!(fn.name == "runtime.NumGoroutine")&&wf fn.ntmps c&&Nat.ble args.length fn.ntmps)=true:=by kernel_rfl):gH x7 f args w Q:=by
 simp only[T0,Bool.not_eq_true'] at hk;exact gH.enter mixed j p hk.1.1 hk.1.2 hk.2 (e▸h)
theorem kh.enters:Enters x7 kh:=Enters.of x7 (show x7.funcs[kh]? =σ Tryz.f117 from Tryz.func117) rfl Ψ
theorem kQ.enters:Enters x7 kQ:=Enters.of x7 (show x7.funcs[kQ]? =σ Tryz.f134 from Tryz.func134) rfl Ψ
theorem lK.enters:Enters x7 lK:=Enters.of x7 (show x7.funcs[lK]? =σ Tryz.f178 from Tryz.func178) rfl Ψ
theorem oB.enters:Enters x7 oB:=Enters.of x7 (show x7.funcs[oB]? =σ Tryz.f226 from Tryz.func226) rfl Ψ
theorem lM.enters:Enters x7 lM:=Enters.of x7 (show x7.funcs[lM]? =σ Tryz.f246 from Tryz.func246) rfl Ψ
end Go.Proofs.YtjjhhcfgfdepdaaGreatDoor
namespace Go.Vc
open Go Go.RowKit
theorem vb {b o:Nat} (h:w.cell? ⟨b,o,ν⟩=σ v):∃c e f,w.heap[b]? =σ (.cells c e f)/\c[o]? =σ v:=by
 simp only[x3.cell?] at h;split at h
 .rename_i c e f a;exact⟨c,e,f,a,by simpa using h⟩
 .cases h
theorem zo (a:ae S w w') {b o:Nat} (j:¬S b) (h:w.cell? ⟨b,o,ν⟩=σ v):w'.cell? ⟨b,o,ν⟩=σ v:=by
 obtain⟨c,e,f,p,q⟩:=vb h;simp[x3.cell?,a.aV b _ p rfl j,q]
theorem iE (a:Ext w w') {b o:Nat} (h:w.cell? ⟨b,o,ν⟩=σ v):w'.cell? ⟨b,o,ν⟩=σ v:=
 zo (a.U λ_=>False) (λh=>h) h
theorem np (a:Ext w w') {b o:Nat} (h:w.rangeAt b o cs):w'.rangeAt b o cs:=λj v e=>iE a (h j v e)
theorem jh (a:ae S w w') {b o:Nat} (e:¬S b) (h:w.rangeAt b o cs):w'.rangeAt b o cs:=λj v f=>zo a e (h j v f)
def aa (w:x3) (g:Nat) (e:r9) (cs:List x1):Prop:=w.heap[g]? =σ (.cells cs.toArray e (0,0))
theorem aa.ext {g:Nat} (h:aa w g e cs) (a:Ext w w'):aa w' g e cs:=a.aV g _ h rfl
theorem aa.U {g:Nat} (h:aa w g e cs) (a:ae S w w') (f:¬S g):aa w' g e cs:=a.aV g _ h rfl f
theorem aa.lt {g:Nat} (h:aa w g e cs):g<w.heap.size:=(j0.1 h).1
theorem aa.cell {g:Nat} (h:aa w g e cs) {o:Nat} (a:cs[o]? =σ v):w.cell? ⟨g,o,ν⟩=σ v:=by
 unfold aa at h;simp[x3.cell?,h,a]
theorem aa.Qz{w:World}{g:Nat}{e:TypeId}{cs:List Value}{v:Value}(h:aa w g e cs)(I:cs[0]? =σ v):w.cell? ⟨g,0,ν⟩=σ v:=h.cell I
theorem aa.range {g:Nat} (h:aa w g e cs):w.rangeAt g 0 cs:=λj v a=>by rw[W0];exact h.cell a
theorem aa.frozen {g:Nat} (h:aa w g e cs) (o:Nat) (a:Option Nat):w.frozen? ⟨g,o,a⟩=false:=by
 unfold aa at h;simp[x3.frozen?,h]
def b7 (w:x3) (k:Nat) (v:x1) (n:Nat) (cs:List x1):Prop:=
 cs.length=n*k/\ ∃b o base cap,v= .slice base n cap/\n<=cap/\cap<=maxLen/\(0<n->base=σ ⟨b,o,ν⟩)/\w.rangeAt b o cs
theorem b7.ext {k:Nat} (h:b7 w k v n cs) (a:Ext w w'):b7 w' k v n cs:=by
 obtain⟨h1,b,o,base,cap,e,f,j,p,q⟩:=h;exact⟨h1,b,o,base,cap,e,f,j,p,np a q⟩
theorem b7.le {k:Nat} (h:b7 w k v n cs):n<=maxLen:=by
 obtain⟨_,_,_,_,_,_,a,e,_⟩:=h;exact X0 a e
theorem b7.nil (w:x3) (k:Nat):b7 w k (.slice ν 0 0) 0 []:=⟨Ξ,0,0,ν,0,rfl,o4 _,X8 _,λh=>absurd h (Nat.lt_irrefl _),λj v h=>by simp at h⟩
def aN (P:W9) (t:r9) (k b:Nat) (z:x1):Prop:=∃i,P.info? t=σ i/\i.size=k/\i.bytes=b/\i.zero=σ z
theorem aN.of {P:W9} {k b:Nat} (h:(P.info? t).map (λi=>(i.size,i.bytes,i.zero))=σ (k,b,σ z)):aN P t k b z:=by
 cases hi:P.info? t with
 |none=>simp[hi] at h
 |some i=>simp[hi] at h;exact⟨i,hi,h⟩
theorem aN.size {P:W9} {k b:Nat} (h:aN P t k b z):(P.info? t).map (·.size)=σ k:=by
 obtain⟨i,hi,I,_⟩:=h;simp[hi,I]
def bK (P:W9) (t:r9) (pl:List (Nat×Nat)):Prop:=∃a,P.underlying t=σ (.struct a)/\a.toList.map (λf=>(f.offset,((P.info? f.type).map (·.size)).getD 0))=pl
def zp (P:W9) (t:r9):Option (List (Nat×Nat)):=match P.underlying t with
 |some (.struct a)=>σ (a.toList.map λf=>(f.offset,((P.info? f.type).map (·.size)).getD 0))
 |_=>ν
theorem bK.of {P:W9} {pl:List (Nat×Nat)} (h:zp P t=σ pl):bK P t pl:=by
 unfold zp at h;split at h
 .rename_i a hu;exact⟨a,hu,by simpa using h⟩
 .cases h
section
variable {P:W9} {w:x3}
theorem V.of {s:Sem x1} (h:∀w',Ext w w'->s.run P w'= .ok v w'):V P s w K=K v:=by
 refine propext ⟨λ⟨a,h',k⟩=>?_,λk=>⟨v,h,k⟩⟩;have:=h' w (Ext.refl w);rw[h w (Ext.refl w)] at this;cases this;exact k
theorem av.of {α:Type} {s:Sem α} {v:α} {K:α->x3->Prop} (h:s.run P w= .ok v w') (a:cM w w') (k:K v w'):av P s w K:=⟨v,w',h,a,k⟩
theorem b0 {c:Bool} {A B:Prop}:Split (.bool c) A B=((c=true->A)/\(c=false->B)):=by
 refine propext ⟨λ⟨e,h,h1,a⟩=>?_,λ⟨h1,a⟩=>⟨c,rfl,h1,a⟩⟩;cases h;exact⟨h1,a⟩
theorem ah {p:Prop} [Decidable p] {A B:Prop}:Split (.bool (decide p)) A B=((p->A)/\(¬p->B)):=by rw[b0];simp
theorem bO {A B:Prop}:Split (.bool true) A B=A:=by rw[b0];simp
theorem aW {A B:Prop}:Split (.bool false) A B=B:=by rw[b0];simp
theorem aM {b:Int}:V P (aJ .add t cx cy (.int k a) (.int k b)) w K=K (.int k (k.wrap (a+b))):=
 V.of λw' _=>by simp[aJ,eqGuard,binOp,Op.intArith]
theorem dR {b:Int}:V P (aJ .sub t cx cy (.int k a) (.int k b)) w K=K (.int k (k.wrap (a-b))):=
 V.of λw' _=>by simp[aJ,eqGuard,binOp,Op.intArith]
theorem hQ {b:Int}:V P (aJ .mul t cx cy (.int k a) (.int k b)) w K=K (.int k (k.wrap (a*b))):=
 V.of λw' _=>by simp[aJ,eqGuard,binOp,Op.intArith]
theorem r1 {b:Int} (e:b≠0):V P (aJ .quo t cx cy (.int k a) (.int k b)) w K=K (.int k (k.wrap (a.tdiv b))):=
 V.of λw' _=>by simp[aJ,eqGuard,binOp,Op.intDiv,e]
theorem nq {b:Int} (e:b≠0):V P (aJ .rem t cx cy (.int k a) (.int k b)) w K=K (.int k (a.tmod b)):=
 V.of λw' _=>by simp[aJ,eqGuard,binOp,Op.intDiv,e]
theorem aQ {b:Int}:V P (aJ .lss t cx cy (.int k a) (.int k b)) w K=K (.bool (decide (a<b))):=
 V.of λw' _=>by simp[aJ,eqGuard,binOp,Op.intCmp]
theorem Υ{k:IntKind}{P:Program}{t:TypeId}{cx cy:Bool}{a b:Int}{w:World}{A B:Prop}(hA:a<b->A)(h:a<b:=by omega):V P (aJ .lss t cx cy (.int k a) (.int k b)) w λv=>Split v A B:=by
 rw[aQ,ah];exact ⟨hA,λe=>absurd h e⟩
theorem ml {b:Int}:V P (aJ .leq t cx cy (.int k a) (.int k b)) w K=K (.bool (decide (a<=b))):=
 V.of λw' _=>by simp[aJ,eqGuard,binOp,Op.intCmp]
theorem bS {b:Int}:V P (aJ .gtr t cx cy (.int k a) (.int k b)) w K=K (.bool (decide (b<a))):=
 V.of λw' _=>by simp[aJ,eqGuard,binOp,Op.intCmp]
theorem cU {b:Int}:V P (aJ .geq t cx cy (.int k a) (.int k b)) w K=K (.bool (decide (b<=a))):=
 V.of λw' _=>by simp[aJ,eqGuard,binOp,Op.intCmp]
theorem bi {b:Int}:V P (aJ .eql t cx cy (.int k a) (.int k b)) w K=K (.bool (decide (a=b))):=
 V.of λw' _=>by
  have:(a == b)=decide (a=b):=by by_cases h:a=b<;>simp[h]
  simp[aJ,eqGuard,binOp,Op.intCmp,this]
theorem bE {b:Int}:V P (aJ .neq t cx cy (.int k a) (.int k b)) w K=K (.bool (decide (a≠b))):=
 V.of λw' _=>by
  have:(a != b)=decide (a≠b):=by by_cases h:a=b<;>simp[h,bne]
  simp[aJ,eqGuard,binOp,Op.intCmp,this]
theorem zq {e:o6} {b:Int} (f:0<=b):V P (aJ .shl t cx cy (.int k a) (.int e b)) w K=K (.int k (k.wrap (a*2 ^ min b.toNat k.bits))):=
 V.of λw' _=>by simp[aJ,eqGuard,binOp,Op.shift,show ¬b<0 by omega]
theorem bF {c:Bool}:V P (Op.unary .not (.bool c)) w K=K (.bool !c):=V.of λw' _=>by simp[Op.unary]
theorem lO:V P (Op.unary .neg (.int k a)) w K=K (.int k (k.wrap (0-a))):=V.of λw' _=>by simp[Op.unary,Op.intArith]
theorem e3 {s d:r9} {e:o6} (I:P.underlying s=σ (.int e)) (f:P.underlying d=σ (.int k)):
  V P (convert s d (.int e a)) w K=K (.int k (k.wrap a)):=V.of λw' _=>by simp[convert,run_underlying I,run_underlying f,Conv.intToInt]
theorem zr {x y:x1} {r:Bool} (a:∀w',(eqGuard .eql t (aY cx) (aY cy) x y).run P w'= .ok () w')
  (e:binOp .eql t x y=(do pure (.bool (<-Op.equal t x y)))) (h:∀w',Ext w w'->(Op.equal t x y).run P w'= .ok r w'):V P (aJ .eql t cx cy x y) w K=K (.bool r):=V.of λw' f=>by
 unfold aJ;rw[e,W6,a w',Result.andThen_ok,W6,h w' f];rfl
theorem zs {x y:x1} {r:Bool} (a:∀w',(eqGuard .neq t (aY cx) (aY cy) x y).run P w'= .ok () w')
  (e:binOp .neq t x y=(do pure (.bool (!(<-Op.equal t x y))))) (h:∀w',Ext w w'->(Op.equal t x y).run P w'= .ok r w'):V P (aJ .neq t cx cy x y) w K=K (.bool !r):=V.of λw' f=>by
 unfold aJ;rw[e,W6,a w',Result.andThen_ok,W6,h w' f];rfl
theorem zt (w:x3) (d:Nat) {p:Option Addr} (h:P.underlying t=σ (.pointer e)):(Op.equalIn (d+1) t (.pointer p) (.pointer ν)).run P w= .ok p.isNone w:=by
 cases p<;>simp[Op.equalIn,run_underlying h]
theorem r2 {base:Option Addr} {c:Nat} (a:P.underlying t=σ (.slice e)):
  V P (aJ .eql t cx cy (.slice base n c) (.slice ν 0 0)) w K=K (.bool base.isNone):=zr (λ_=>rfl) rfl λw' _=>run_equal_slice_nil w' t e base n c a
theorem dp {p:Option Addr} (a:P.underlying t=σ (.pointer e)):
  V P (aJ .eql t cx cy (.pointer p) (.pointer ν)) w K=K (.bool p.isNone):=zr (λ_=>rfl) rfl λw' _=>zt w' 9999 a
theorem zu {p:Option Addr} (a:P.underlying t=σ (.pointer e)):
  V P (aJ .neq t cx cy (.pointer p) (.pointer ν)) w K=K (.bool !p.isNone):=zs (λ_=>rfl) rfl λw' _=>zt w' 9999 a
theorem h9 {a:r9} {base:Option Addr} {c:Nat} (f:P.underlying t=σ (.slice e)):
  V P (V3 #[t] a #[.slice base n c]) w K=K (Δ n):=V.of λw' _=>by simp[V3,run_underlying f,goInt]
theorem kU {e:Array r9} {f:r9} {b:Int}:
  V P (Z3.min_ e f #[.int k a,.int k b]) w K=K (.int k (min a b)):=V.of λw' _=>by
 simp only[Z3.min_,List.foldlM,Z3.min2];simp only[W6,V4,Result.andThen_ok,Int.min_def];congr 2;split<;>split<;>omega
theorem vc {e:Array r9} {f:r9} {b:Int}:
  V P (Z3.max_ e f #[.int k a,.int k b]) w K=K (.int k (max a b)):=V.of λw' _=>by
 simp only[Z3.max_,List.foldlM,Z3.max2];simp only[W6,V4,Result.andThen_ok,Int.max_def];congr 2;split<;>split<;>omega
theorem iF {vs:Array x1} {i:Nat} (h:vs[i]? =σ v):V P (Z8 (.tuple vs) i) w K=K v:=V.of λw' _=>by simp[Z8,h]
theorem mm {f:Fn} {a b:Array x1}:V P (Instr.makeFunc f a b) w K=K (.func f a b):=V.of λ_ _=>rfl
def jF (P:W9) (t:r9):Bool:=match P.underlying t with
 |some (.struct _)|some (.array _ _)|none=>false
 |_=>true
theorem aB {b o:Nat} (a:jF P t=true) (h:w.cell? ⟨b,o,ν⟩=σ v):
  V P (u5 t (.pointer (σ ⟨b,o,ν⟩))) w K=K v:=V.of λw' e=>by
 have h':=iE e h;unfold jF at a;cases hu:P.underlying t with
 |none=>rw[hu] at a;cases a
 |some d=>
  rw[hu] at a;cases d<;>first|(cases a;done)|simp[u5,Instr.sureAddr,loadVar,isAgg,run_underlying hu,h']
theorem zv {d:TypeDesc} {b o k a:Nat} (hu:P.underlying t=σ d) (e:d.isRow=true) (hi:aN P t k a z) (f:cs.length=k)
  (h:w.rangeAt b o cs):V P (u5 t (.pointer (σ ⟨b,o,ν⟩))) w K=K (.agg cs.toArray):=V.of λw' j=>
 run_loadAt_mid (P:=P) w' b o t cs d (np j h) hu e (by rw[hi.size,f])
theorem bx {pl:List (Nat×Nat)} {b o k a:Nat} (hu:bK P t pl) (hi:aN P t k a z) (e:cs.length=k)
  (h:w.rangeAt b o cs):V P (u5 t (.pointer (σ ⟨b,o,ν⟩))) w K=K (.agg cs.toArray):=by
 obtain⟨f,hu,_⟩:=hu;exact zv hu rfl hi e h
theorem aP {pl:List (Nat×Nat)} {i b o off z:Nat} (q:bK P t pl) (a:pl[i]? =σ (off,z+1)):
  V P (u6 t (.pointer (σ ⟨b,o,ν⟩)) i) w K=K (.pointer (σ ⟨b,o+off,ν⟩)):=V.of λw' _=>by
 obtain⟨r,hu,rfl⟩:=q;rw[x8] at a;cases e:r[i]? with
 |none=>rw[S9,e] at a;cases a
 |some f=>
  rw[S9,e] at a;simp only[Z6,Y3,T2] at a;obtain⟨rfl,p⟩:=a;cases h:P.info? f.type with
  |none=>simp[h] at p
  |some j=>
   have I:j.size=z+1:=by simpa[h] using p
   simp[u6,run_underlying hu,e,Instr.sureAddr,fieldPlace,sizeOf,typeInfo,h,I,S2]
theorem zw {i:Int} {b o c z f:Nat} {h:x1} {base:Option Addr} (hu:P.underlying t=σ (.slice e)) (p:aN P e z f h)
  (q:0<=i) (hi:i<n) (a:0<n->base=σ ⟨b,o,ν⟩):
  V P (c8 t (.slice base n c) (.int k i)) w K=K (.pointer (σ ⟨b,o+i.toNat*z,ν⟩)):=V.of λw' _=>by
 have a:=a Ω;subst a;obtain⟨j,r,I,_⟩:=p;simp[c8,asIntOf,run_underlying hu,q,hi,sizeOf,typeInfo,r,I,S2]
theorem fz {i:Nat} {b o c z a:Nat} {base:Option Addr} (hu:P.underlying t=σ (.slice e)) (h:aN P e z a f)
  (hi:i<n) (j:0<n->base=σ ⟨b,o,ν⟩):
  V P (c8 t (.slice base n c) (.int k (i:Int))) w K=K (.pointer (σ ⟨b,o+i*z,ν⟩)):=by
 rw[zw (i:=(i:Int)) hu h Ω Ω j];rfl
theorem IF {i:Int} {b o z a:Nat} (hu:P.underlying t=σ (.array n e)) (h:aN P e z a f)
  (p:0<=i) (hi:i<n):
  V P (c8 t (.pointer (σ ⟨b,o,ν⟩)) (.int k i)) w K=K (.pointer (σ ⟨b,o+i.toNat*z,ν⟩)):=V.of λw' _=>by
 obtain⟨j,q,I,_⟩:=h;simp[c8,asIntOf,run_underlying hu,Instr.sureAddr,p,hi,sizeOf,typeInfo,q,I,S2]
theorem vd {i:Nat} {b o z a:Nat} (hu:P.underlying t=σ (.array n e)) (h:aN P e z a f) (hi:i<n):
  V P (c8 t (.pointer (σ ⟨b,o,ν⟩)) (.int k (i:Int))) w K=K (.pointer (σ ⟨b,o+i*z,ν⟩)):=by
 rw[IF (i:=(i:Int)) hu h Ω Ω];rfl
def lP:Option x1->Nat->Prop
 |none,l=>l=0
 |some v,l=>∃k,v= .int k l
def lQ:Option x1->Nat->Nat->Prop
 |none,n,h=>h=n
 |some v,_,h=>∃k,v= .int k h
def maxOf:Option x1->Option x1->Nat->Nat->Prop
 |none,_,c,m=>m=c
 |some v,σ _,_,m=>∃k,v= .int k m
 |some _,ν,_,_=>False
theorem r3 {l:Nat}:lP (σ (.int k (l:Int))) l:=⟨_,rfl⟩
theorem nr (l:Nat) (x:Int) (h:x=(l:Int)):lP (σ (.int k x)) l:=⟨k,by rw[h]⟩
theorem ns (l:Nat) (x:Int) (h:x=(l:Int)):lQ (σ (.int k x)) n l:=⟨k,by rw[h]⟩
theorem ki:lP ν 0:=rfl
theorem r4:lQ (σ (.int k (h:Int))) n h:=⟨_,rfl⟩
theorem kj:lQ ν n n:=rfl
theorem gj {h:Option x1} {c:Nat}:maxOf ν h c c:=by cases h<;>rfl
theorem r5 (w:x3) {sl:Bool} {c l:Nat} {low high mx:Option x1} (h1:lP low l) (e:lQ high n h) (a:maxOf mx high c m) (f:l<=h) (ay:h<=m) (hm:m<=c):
  (Instr.sliceBounds sl n c low high mx).run P w= .ok (l,h,m) w:=by
 cases low<;>cases high<;>cases mx<;>simp only[lP,lQ,maxOf] at h1 e a<;>(try exact a.elim)<;>(try obtain⟨j,rfl⟩:=h1)<;>(try obtain⟨p,rfl⟩:=e)<;>(try obtain⟨q,rfl⟩:=a)<;>(try subst h1)<;>(try subst e)<;>(try subst a) <;>
  simp[Instr.sliceBounds,Instr.sliceBound,asIntOf,f,ay,hm]
theorem iG {c z a l:Nat} {base:Option Addr} {low high mx:Option x1} (hu:P.underlying t=σ (.slice e)) (p:aN P e z a f)
  (h1:lP low l) (q:lQ high n h) (r:maxOf mx high c m) (s:l<=h) (ay:h<=m) (hm:m<=c):
  V P (U2 t (.slice base n c) low high mx) w K=K (.slice (if m=l then base else base.map (·.add (l*z))) (h-l) (m-l)):=V.of λw' _=>by
 obtain⟨j,x,I,_⟩:=p;simp[U2,Instr.slice,run_underlying hu,r5 w' h1 q r s ay hm,sizeOf,typeInfo,x,I]
theorem r6 {z a l b o:Nat} {low high mx:Option x1} (hu:P.underlying t=σ (.array n e)) (p:aN P e z a f)
  (h1:lP low l) (q:lQ high n h) (r:maxOf mx high n m) (s:l<=h) (ay:h<=m) (hm:m<=n):
  V P (U2 t (.pointer (σ ⟨b,o,ν⟩)) low high mx) w K=K (.slice (σ (if m=l then⟨b,o,ν⟩ else⟨b,o+l*z,ν⟩)) (h-l) (m-l)):=V.of λw' _=>by
 obtain⟨j,x,I,_⟩:=p;simp[U2,Instr.sureAddr,run_underlying hu,r5 w' h1 q r s ay hm,sizeOf,typeInfo,x,I,S2]
theorem dq {parts:Array (Nat×x1)} {cs:Array x1} (h:P.built t parts.toList=σ cs):V P (Instr.build t parts) w K=K (.agg cs):=V.of λw' _=>
 run_build (P:=P) w' t parts cs h
end
theorem b7.part {k c l:Nat} {base:Option Addr} (I:b7 w k (.slice base n c) n cs) (q:l<=h) (ay:h<=n) (hm:h<=m) (r:m<=c):
  b7 w k (.slice (if m=l then base else base.map (·.add (l*k))) (h-l) (m-l)) (h-l) ((cs.drop (l*k)).take ((h-l)*k)):=by
 obtain⟨h1,b,o,s,cap,he,x,y,e,f⟩:=I;cases he;have z:h*k<=n*k:=X5 _ ay;have A:l*k+(h-l)*k=h*k:=by rw[<-U4];congr 1;omega
 refine⟨by simp[h1];omega,b,o+l*k,_,m-l,rfl,Ω,Ω,λB=>?_,λj v a=>?_⟩
 .rw[e Ω,if_neg Ω];simp[S2]
 .have p:=(x4.1 a).1;simp at p;rw[X4 Ω,List.getElem?_drop] at a;rw[R7];exact f _ _ a
section
variable {P:W9} {w:x3}
structure ji (g:Nat) (w w':x3):Prop where
 os:w'.os=w.os
 tape:jy w w'
 output:w'.output=w.output
 size:w'.heap.size=w.heap.size
 aV:∀r,r≠g->w'.heap[r]? =w.heap[r]?
theorem ji.refl (g:Nat) (w:x3):ji g w w:=⟨rfl,.ka,rfl,rfl,λ_ _=>rfl⟩
theorem ji.trans {g:Nat} {a b:x3} (h:ji g a b) (k:ji g b c):ji g a c:=
 ⟨k.os.trans h.os,k.tape.trans h.tape,k.output.trans h.output,k.size.trans h.size,λr e=>(k.aV r e).trans (h.aV r e)⟩
theorem ji.U {g:Nat} {w:x3} (h:ji g w w'):ae (λr=>r=g) w w':=⟨Nat.le_of_eq h.size.symm,λr o a _ e=>by rw[h.aV r e];exact a⟩
theorem ji.cq {g:Nat} {w:x3} (h:ji g w w') (f:aa w g e cs):cM w w':=
 ⟨h.os,h.tape,h.output,Nat.le_of_eq h.size.symm,λr o a I=>by
  by_cases j:r=g
  .subst j;unfold aa at f;rw[f] at a;cases a;simp[fs] at I
  .rw[h.aV r j];exact a⟩
theorem zx {g:Nat} (h:aa w g e cs) (o:Nat) (v:x1):aa (w.setCell ⟨g,o,ν⟩ v) g e (cs.set o v)/\ji g w (w.setCell ⟨g,o,ν⟩ v):=by
 unfold aa at h;refine⟨?_,rfl,.ka,rfl,by simp[x3.setCell],λr a=>?_⟩
 .simp[aa,x3.setCell,Array.getElem?_modify,h]
 .simp[x3.setCell,Array.getElem?_modify,S8 a]
def over (cs:List x1):Nat->List x1->List x1
 |_,[]=>cs
 |o,v::r=>over (cs.set o v) (o+1) r
theorem mn:∀ (vs cs:List x1) (o:Nat),(over cs o vs).length=cs.length
 |[],_,_=>rfl
 |v::r,cs,o=>by simp[over,mn r]
theorem oG:∀ (vs cs:List x1) (o:Nat),o+vs.length<=cs.length-> ∀j,(over cs o vs)[j]? =if o<=j/\j<o+vs.length then vs[j-o]? else cs[j]?
 |[],cs,o,_,j=>by simp[over];intro h1 a;omega
 |v::r,cs,o,h,j=>by
  simp only[b8] at h;rw[over,oG r (cs.set o v) (o+1) Θ j];simp only[b8];by_cases h1:o+1<=j/\j<o+1+r.length
  .rw[if_pos h1,if_pos Ω];rw[show j-o=(j-(o+1))+1 by omega,List.getElem?_cons_succ]
  .rw[if_neg h1];by_cases a:j=o
   .subst a;rw[if_pos Ω,j9 Ω];simp
   .rw[if_neg Ω,Y0 (S8 a)]
theorem mo {o:Nat} (h:o+vs.length<=cs.length):over cs o vs=cs.take o++vs++cs.drop (o+vs.length):=by
 apply Y6;intro j;rw[oG vs cs o h];by_cases h1:j<o
 .rw[if_neg Ω,Y8 Θ,Y8 Θ,X4 h1]
 .by_cases a:j<o+vs.length
  .rw[if_pos Ω,Y8 Θ,X1 Θ];congr 1;simp;omega
  .rw[if_neg Ω,X1 Θ,List.getElem?_drop];congr 1;simp;omega
theorem nt {g:Nat} {e:r9}:∀ (vs:List x1) (cs:List x1) (o:Nat) (w:x3),aa w g e cs->aa (w.setCells g o vs) g e (over cs o vs)/\ji g w (w.setCells g o vs)
 |[],cs,o,w,h=>⟨h,ji.refl _ _⟩
 |v::r,cs,o,w,h=>by
  obtain⟨h1,a⟩:=zx h o v;obtain⟨f,j⟩:=nt r (cs.set o v) (o+1) _ h1;exact⟨f,a.trans j⟩
theorem r7 (w:x3) (c:List x1) (e:r9):aa (w.alloc (.cells c.toArray e)) w.heap.size e c/\Ext w (w.alloc (.cells c.toArray e))/\cM w (w.alloc (.cells c.toArray e)):=
 ⟨heap_alloc_new w _,pA w _,pB w _⟩
theorem bt {k a:Nat} {K:x1->x3->Prop} (hi:aN P t k a z)
  (h:∀g w',g=w.heap.size->Ext w w'->aa w' g t z.cells.toList->K (Γ g) w'):av P (S0 t true (.tuple #[])) w K:=by
 obtain⟨i,hi,_,_,e⟩:=hi;obtain⟨h1,f,j⟩:=r7 w z.cells.toList t;refine .of ?_ j (h _ _ rfl f h1);simp[S0,zeroValue,typeInfo,hi,e,newVar,newRow]
theorem bn {K:x1->x3->Prop}
  (h:∀g w',g=w.heap.size->Ext w w'->aa w' g t v.cells.toList->K (Γ g) w'):av P (Instr.box t v) w K:=by
 obtain⟨h1,a,e⟩:=r7 w v.cells.toList t;refine .of ?_ e (h _ _ rfl a h1);simp[Instr.box,newVar,newRow]
def dS (z:Array x1) (n:Nat):List x1:=((Array.range n).map (z[·% z.size]!)).toList
theorem oH (z:Array x1) (n:Nat):(dS z n).length=n:=by simp[dS]
theorem jG {k q:Nat} {parts:Array (Nat×x1)} {cs:Array x1} {K:x1->x3->Prop} (p:P.underlying t=σ (.slice e)) (hi:aN P e k q z)
  (A:n*k<=2 ^ 24) (a:Instr.fill (λj=>σ (j*k,k)) ((Array.range (n*k)).map ((if n*k=0 then #[] else z.cells)[·% (if n*k=0 then #[] else z.cells).size]!)) parts.toList=σ cs)
  (h:∀g w',g=w.heap.size->Ext w w'->aa w' g e cs.toList->K (.slice (σ ⟨g,0,ν⟩) n n) w'):av P (Y4 t n parts) w K:=by
 obtain⟨i,hi,rfl,_,r⟩:=hi;obtain⟨h1,s,x⟩:=r7 w cs.toList e;refine .of ?_ x (h _ _ rfl s h1);have y:¬(16777216<n*i.size):=Ω
 by_cases f:n*i.size=0
 .simp only[f,if_true] at a;simp[Y4,run_underlying p,sizeOf,typeInfo,hi,f,newRow];simp at a;simp[a]
 .simp only[f,if_false] at a;simp[Y4,run_underlying p,sizeOf,typeInfo,hi,y,f,newRow,zeroValue,r,a]
theorem bo {g o:Nat} {K:Unit->x3->Prop} (hi:aN P t 1 j z) (h1:v.cells= #[v]) (p:v.oneCell'=true) (a:aa w g e cs) (q:o<cs.length)
  (h:∀w',ae (λr=>r=g) w w'->w'.heap.size=w.heap.size->aa w' g e (cs.set o v)->K () w'):av P (o5 t (.pointer (σ ⟨g,o,ν⟩)) v) w K:=by
 obtain⟨i,hi,I,_⟩:=hi;obtain⟨s,f⟩:=zx a o v;refine .of (w':=w.setCell ⟨g,o,ν⟩ v) ?_ (f.cq a) (h _ f.U f.size s);have x:=a.cell (x6 q);have y:(⟨g,o,ν⟩:Addr).add 0=⟨g,o,ν⟩:=rfl;simp[o5,Instr.sureAddr,storeVar,sizeOf,typeInfo,hi,I,h1,storeCells,y,run_store P w _ v _ p,x,a.frozen]
theorem zy {k p g o:Nat} {K:Unit->x3->Prop} (hi:aN P t k p z) (q:vs.length=k) (s:∀v∈vs,v.oneCell'=true) (a:aa w g e cs) (A:o+vs.length<=cs.length)
  (h:∀w',ae (λr=>r=g) w w'->w'.heap.size=w.heap.size->aa w' g e (over cs o vs)->K () w'):av P (o5 t (.pointer (σ ⟨g,o,ν⟩)) (.agg vs.toArray)) w K:=by
 obtain⟨x,f⟩:=nt vs cs o w a;refine .of (w':=w.setCells g o vs) ?_ (f.cq a) (h _ f.U f.size x);exact run_storeAt_mid (P:=P) w g o t vs.toArray (λj y=>⟨by rw[a.cell (x6 (show o+j<cs.length by simp at y;omega))];rfl,a.frozen _ _⟩) (by rw[hi.size];simp[q]) (by simpa using s)
def bV (w:x3) (g:Nat) (e:r9) (k:Nat) (v:x1) (n:Nat) (xs:List x1):Prop:=
 xs.length=n*k/\((v= .slice ν 0 0/\n=0)\/ ∃cap cs,v= .slice (σ ⟨g,0,ν⟩) n cap/\aa w g e cs/\n<=cap/\cap<=maxLen/\cs.length=cap*k/\cs.take (n*k)=xs)
theorem bV.nil (w:x3) (g:Nat) (e:r9) (k:Nat):bV w g e k (.slice ν 0 0) 0 []:=⟨Ξ,.inl ⟨rfl,rfl⟩⟩
theorem bV.full {g:Nat} {k:Nat} (h:aa w g e cs) (a:cs.length=n*k) (f:n<=maxLen):bV w g e k (.slice (σ ⟨g,0,ν⟩) n n) n cs:=
 ⟨a,.inr ⟨n,cs,rfl,h,o4 _,f,a,by rw[<-a,o7]⟩⟩
theorem bV.U {g:Nat} {k:Nat} (h:bV w g e k v n xs) (f:ae S w w') (j:g<w.heap.size->¬S g):bV w' g e k v n xs:=
 ⟨h.1,h.2.imp id λ⟨cap,cs,h1,a,p⟩=>⟨cap,cs,h1,a.U f (j a.lt),p⟩⟩
theorem bV.ext {g:Nat} {k:Nat} (h:bV w g e k v n xs) (a:Ext w w'):bV w' g e k v n xs:=h.U (a.U λ_=>False) (λ_ h=>h)
theorem bV.sl {g:Nat} {k:Nat} (h:bV w g e k v n xs):b7 w k v n xs:=by
 obtain⟨h1,⟨rfl,rfl⟩|⟨cap,cs,rfl,f,p,q,s,r⟩⟩:=h
 .have:xs=[]:=Z0 (by simpa using h1);subst this;exact b7.nil w k
 .refine⟨h1,g,0,_,cap,rfl,p,q,λ_=>rfl,λj v a=>?_⟩;rw[W0];have x:=(x4.1 a).1;rw[<-r,X4 Ω] at a;exact f.cell a
theorem b7.src {k:Nat} {x:x1} {a:List x1} {f h:r9} (I:b7 w k x m a) (hk:P.underlying f=σ (.slice h)) (h1:∀u∈a,u.oneCell'=true) (p:0<m):Src P k f x m a w:=by
 obtain⟨q,b,o,base,cap,rfl,_,_,e,r⟩:=I;have e:=e p;subst e;exact Src.ofSlice w hk ⟨b,o,ν⟩ m cap a q (λj u hu=>by rw[S2];exact r j u hu) h1
theorem b7.IG {k:Nat} {x:x1} {f:List x1} {h:r9} (I:b7 w k x 0 f) (hk:P.underlying e=σ (.slice h)):Src P k e x 0 [] w:=by
 obtain⟨j,b,o,base,cap,rfl,_,_,p,q⟩:=I;cases base with
 |none=>exact Src.ofNil w hk cap
 |some a=>exact Src.ofSlice w hk a 0 cap [] Ξ Ξ Ξ
theorem zz {p s M X:r9} {k g:Nat} {x:x1} {a:List x1} {K:x1->x3->Prop}
  (B:P.underlying t=σ (.slice e)) (C:P.underlying p=σ (.slice X)) (hi:aN P e k N z) (Y:z.cells.size=k)
  (O:bV w g M k v n xs) (I:b7 w k x m a) (h1:∀u∈a,u.oneCell'=true) (Z:(n+m)*N<=140737488355328) (Q:n+m<=maxLen)
  (h:∀E F w' G,(F=g/\G=M/\(v=E\/g<w.heap.size/\v≠ .slice ν 0 0)\/F=w.heap.size/\G=e)->bV w' F G k E (n+m) (xs++a)->ae (λr=>r=g/\v≠ .slice ν 0 0) w w'->K E w'):
  av P (b9 #[t,p] s #[v,x]) w K:=by
 obtain⟨i,hi,rfl,rfl,aa⟩:=hi;have ab:=O.sl;obtain⟨f,H⟩:=O;have q:=I.1;have grow:∀ (base:Option Addr) (cap:Nat),v= .slice base n cap->cap<n+m->0<m->(Z3.firstCells i.size n (.slice base n cap)).run P w.drew= .ok xs.toArray w.drew->av P (b9 #[t,p] s #[v,x]) w K:=by
  rintro base cap rfl R hm ac;have y:=run_append_grow_src (P:=P) w t p s e i z B hi aa base n cap xs ac x m a (I.src C h1 hm) R (by simp only[maxLen] at Q;omega) (growslice_fits R Z);have ad:n+m<=grownCap w (n+m) cap e:=grownCap_ge w _ _ _;have J:grownCap w (n+m) cap e<=maxLen:=grownCap_le_maxLen w (n+m) cap e Q;have af:Ext w (w.drew.alloc (.cells ((xs++a).toArray++Z3.zeroCells z.cells (grownCap w (n+m) cap e-(n+m))) e)):=(rk w _).trans (pA _ _);refine .of y ((pz w _ (Nat.le_succ _)).trans (pB _ _)) (h _ w.heap.size _ _ (.inr ⟨rfl,rfl⟩) ⟨by simp[f,q,U4],.inr ⟨_,((xs++a).toArray++Z3.zeroCells z.cells (grownCap w (n+m) cap e-(n+m))).toList,rfl,?_,ad,J,?_,?_⟩⟩ (af.U _))
  .show _=_;rw[Array.toArray_toList];exact heap_alloc_new w.drew _
  .simp[f,q,size_zeroCells,Y,<-U4];congr 1;omega
  .rw[Array.toList_append,List.toList_toArray,U4,<-f,<-q,<-p8];exact List.take_left
 rcases Q3 m with rfl|hm
 .have ag:a=[]:=Z0 (by simpa using q);subst ag;have ah:=I.IG C;have S:∀base cap,v= .slice base n cap->n<=cap->av P (b9 #[t,p] s #[v,x]) w K:=by
   rintro base cap rfl J;refine .of (run_append_nothing (P:=P) w t p s e i B hi base n cap J x ah) (cM.refl _) (h _ g _ _ (.inl ⟨rfl,rfl,.inl rfl⟩) ?_ (ae.refl _ _));rw[Nat.add_zero,W7];exact⟨f,H⟩
  obtain⟨rfl,rfl⟩|⟨cap,cs,rfl,_,T,_⟩:=H
  .exact S _ _ rfl (o4 _)
  .exact S _ _ rfl T
 .obtain⟨rfl,rfl⟩|⟨cap,cs,rfl,A,T,ai,V,aj⟩:=H
  .have ak:xs=[]:=Z0 (by simpa using f);subst ak;exact grow ν 0 rfl Ω hm (run_firstCells_none w.drew i.size 0 0 0)
  .by_cases L:n+m<=cap
   .have al:n*i.size+a.length<=cs.length:=by rw[q,V,<-U4];exact X5 _ L
    have y:=run_append_room_src (P:=P) w t p s e i B hi g 0 n cap x m a (I.src C h1 hm) L
     (λj aq=>by rw[A.cell (x6 (show 0+n*i.size+j<cs.length by omega))];rfl) (λj _=>A.frozen _ _)
    obtain⟨am,W⟩:=nt a cs (n*i.size) w A;rw[W0] at y;refine .of y (W.cq A) (h _ g _ _ (.inl ⟨rfl,rfl,.inr ⟨A.lt,Ξ⟩⟩) ⟨by simp[f,q,U4],.inr ⟨cap,_,rfl,am,L,ai,by rw[mn,V],?_⟩⟩ (W.U.mono λr _ h=>⟨h,Ξ⟩));rw[mo al,aj,U4,<-f,<-q,<-p8];exact List.take_left
   .refine grow _ cap rfl Ω hm (run_firstCells_some w.drew i.size n _ n cap xs f λj u hu=>?_);rw[S2];obtain⟨_,b,o,base,au,he,_,_,an,y⟩:=ab;cases he;have ao:0<n:=by
     rcases Q3 n with rfl|ap
     .simp at f;subst f;simp at hu
     .exact ap
    have:=an ao;cases this;simpa using y j u hu
theorem nu {p y A:r9} {k q g:Nat} {x:x1} {j:List x1} {K:x1->x3->Prop}
  (B:P.underlying t=σ (.slice e)) (C:P.underlying p=σ (.slice A)) (hi:aN P e k q z) (E:z.cells.size=k)
  (F:bV w g e k v n xs) (I:b7 w k x m j) (h1:∀u∈j,u.oneCell'=true) (G:(n+m)*q<=140737488355328) (H:n+m<=maxLen)
  (h:∀f a w',(a=g\/w.heap.size<=a)->bV w' a e k f (n+m) (xs++j)->ae (λr=>r=g) w w'->K f w'):
  av P (b9 #[t,p] y #[v,x]) w K:=
 zz B C hi E F I h1 G H λf a w' L s hm J=>by
  refine h f a w' (s.imp And.left λh=>Nat.le_of_eq h.1.symm) ?_ (J.mono λr _ h=>h.1);obtain⟨_,rfl,_⟩|⟨_,rfl⟩:=s<;>exact hm
theorem zA {f q s:r9} {J g o hx y:Nat} {x:x1} {base:Option Addr} {C:r9} {K:x1->x3->Prop} (E:P.underlying f=σ (.slice e)) (hi:aN P e 1 J z)
  (a:aa w g C cs) (L:0<hx->base=σ ⟨g,o,ν⟩) (W:o+hx<=cs.length) (I:b7 w 1 x n xs) (h1:∀u∈xs,u.oneCell'=true)
  (h:∀w',ae (λr=>r=g) w w'->w'.heap.size=w.heap.size->aa w' g C (over cs o (xs.take hx))->K (Δ (min n hx:Nat)) w'):
  av P (Z3.copy_ #[f,q] s #[.slice base hx y,x]) w K:=by
 obtain⟨A,b,o',M,cap,rfl,_,_,N,O⟩:=I;simp only[T5] at A;have F:(P.info? e).map (·.size)=σ 1:=hi.size;by_cases p:Nat.min n hx=0
 .have he:xs.take hx=[]:=Z0 (by rw[j5,A];rw[Nat.min_comm];exact p);rw[he] at h;refine .of (run_copy_none (P:=P) w f q s e base M hx y n cap E F p) (cM.refl _) ?_;have G:min n hx=0:=p;rw[G] at h;exact h w (ae.refl _ _) rfl a
 .have G:min n hx≠0:=p;have Q:=N Ω;have R:=L Ω;subst Q;subst R;have H:(xs.take hx).length=min n hx:=by rw[j5,A,Nat.min_comm]
  obtain⟨S,B⟩:=nt (xs.take hx) cs o w a;have T:=run_copy_cells (P:=P) w f q s e g o hx y ⟨b,o',ν⟩ n cap (xs.take hx) E F H
   (λj u hu=>by
    rw[S2];have V:=(x4.1 hu).1;rw[X4 Ω] at hu;exact O j u hu)
   (λj V=>by rw[a.cell (x6 (show o+j<cs.length by omega))];rfl) (λj _=>a.frozen _ _) (λu hu=>h1 u (T9 hu))
  refine .of T (B.cq a) ?_;rw[H];exact h _ B.U B.size S
theorem ai.mono {f:Q0} {K e:x1->x3->Prop} (h:ai P f args w K) (j:∀v w',cM w w'->K v w'->e v w'):ai P f args w e:=by
 cases h with
 |code h1 a=>exact .code h1 (a.mono λ_ w' ⟨v,h1,p,a⟩=>⟨v,h1,p,j v w' p a⟩)
 |ext v w' h1 a q=>exact .ext v w' h1 a (j v w' a q)
theorem gH.mono {f:Q0} {K e:x1->x3->Prop} (h:gH P f args w K) (j:∀v w',K v w'->e v w'):gH P f args w e:=by
 cases h with
 |code h1 a=>exact .code h1 (a.mono λ_ w' ⟨v,h1,a⟩=>⟨v,h1,j v w' a⟩)
 |ext v w' h1 p=>exact .ext v w' h1 (j v w' p)
end
end Go.Vc
namespace Go.Proofs.YtjjhhcfgfdepdaaGreatDoor
open Go Go.Vc Go.RowKit Go.Proofs Go.Proofs.Tryz
set_option maxRecDepth 100000
theorem ak.u:x7.underlying ak=σ (.int .i64):=Ψ
theorem ak.i:aN x7 ak 1 8 (Δ 0):=aN.of Ψ
theorem ag.u:x7.underlying ag=σ (.int .i64):=Ψ
theorem ag.i:aN x7 ag 1 8 (Δ 0):=aN.of Ψ
theorem ey.u:x7.underlying ey=σ .bool:=Ψ
theorem ey.i:aN x7 ey 1 1 (.bool false):=aN.of Ψ
theorem cC.u:x7.underlying cC=σ (.int .u8):=Ψ
theorem cC.i:aN x7 cC 1 1 (.int .u8 0):=aN.of Ψ
theorem c4.u:x7.underlying c4=σ .string:=Ψ
theorem c4.i:aN x7 c4 1 16 (.string ⟨#[]⟩):=aN.of Ψ
theorem cP.u:x7.underlying cP=σ (.slice cC):=Ψ
theorem pQ.u:x7.underlying pQ=σ (.slice aZ):=Ψ
theorem dO.u:x7.underlying dO=σ (.pointer ct):=Ψ
theorem al.u:x7.underlying al=σ (.slice ag):=Ψ
theorem al.i:aN x7 al 1 24 (.slice ν 0 0):=aN.of Ψ
theorem cu.u:x7.underlying cu=σ (.slice al):=Ψ
theorem cu.i:aN x7 cu 1 24 (.slice ν 0 0):=aN.of Ψ
theorem hs.u:x7.underlying hs=σ (.slice ey):=Ψ
theorem hs.i:aN x7 hs 1 24 (.slice ν 0 0):=aN.of Ψ
theorem dn.u:x7.underlying dn=σ (.slice an):=Ψ
theorem dn.i:aN x7 dn 1 24 (.slice ν 0 0):=aN.of Ψ
theorem dP.u:x7.underlying dP=σ (.slice cT):=Ψ
theorem dP.i:aN x7 dP 1 24 (.slice ν 0 0):=aN.of Ψ
theorem jC.u:x7.underlying jC=σ (.slice fO):=Ψ
theorem jC.i:aN x7 jC 1 24 (.slice ν 0 0):=aN.of Ψ
theorem aG.p:bK x7 aG [(0,1),(1,1),(2,1),(3,1),(4,1),(5,1),(6,1),(7,1)]:=bK.of Ψ
theorem aG.i:aN x7 aG 8 160 (.agg #[(Δ 0),(.slice ν 0 0),(Δ 0),(.slice ν 0 0),(.slice ν 0 0),(.slice ν 0 0),(.slice ν 0 0),(.slice ν 0 0)]):=aN.of Ψ
theorem aZ.p:bK x7 aZ [(0,1),(1,1),(2,1),(3,1),(4,1),(5,1)]:=bK.of Ψ
theorem aZ.i:aN x7 aZ 6 48 (.agg #[(.int .u8 0),(Δ 0),(Δ 0),(Δ 0),(Δ 0),(.bool false)]):=aN.of Ψ
theorem jD.i:aN x7 jD 1 8 (Δ 0):=aN.of Ψ
theorem an.u:x7.underlying an=σ (.slice ak):=Ψ
theorem an.i:aN x7 an 1 24 (.slice ν 0 0):=aN.of Ψ
theorem aU.p:bK x7 aU [(0,1),(1,1),(2,1)]:=bK.of Ψ
theorem aU.i:aN x7 aU 3 72 (.agg #[(.slice ν 0 0),(.slice ν 0 0),(.slice ν 0 0)]):=aN.of Ψ
theorem cT.p:bK x7 cT [(0,3),(3,1)]:=bK.of Ψ
theorem cT.i:aN x7 cT 4 80 (.agg #[(.slice ν 0 0),(.slice ν 0 0),(.slice ν 0 0),(.bool false)]):=aN.of Ψ
theorem u2.u:x7.underlying u2=σ (.int .u16):=Ψ
theorem u3.u:x7.underlying u3=σ (.pointer cD):=Ψ
theorem va.u:x7.underlying va=σ (.pointer dF):=Ψ
theorem mi.u:x7.underlying mi=σ (.pointer fw):=Ψ
theorem cj.u:x7.underlying cj=σ (.slice aU):=Ψ
theorem cj.i:aN x7 cj 1 24 (.slice ν 0 0):=aN.of Ψ
theorem dE.p:bK x7 dE [(0,1),(1,1),(2,1),(3,1),(4,1)]:=bK.of Ψ
theorem dE.i:aN x7 dE 5 88 (.agg #[(Δ 0),(.slice ν 0 0),(Δ 0),(.slice ν 0 0),(.slice ν 0 0)]):=aN.of Ψ
theorem fv.u:x7.underlying fv=σ (.int .u64):=Ψ
theorem fv.i:aN x7 fv 1 8 (.int .u64 0):=aN.of Ψ
theorem cb.p:bK x7 cb [(0,1),(1,1)]:=bK.of Ψ
theorem cb.i:aN x7 cb 2 16 (.agg #[(.int .u64 0),(Δ 0)]):=aN.of Ψ
theorem pR.p:bK x7 pR [(0,1),(1,1)]:=bK.of Ψ
theorem oC.i:aN x7 oC 1 8 .nilFunc:=aN.of Ψ
theorem pS.u:x7.underlying pS=σ (.pointer fx):=Ψ
theorem ff.u:x7.underlying ff=σ (.slice dQ):=Ψ
theorem ff.i:aN x7 ff 1 24 (.slice ν 0 0):=aN.of Ψ
theorem rW.u:x7.underlying rW=σ (.slice gf):=Ψ
theorem ct.p:bK x7 ct [(0,1),(1,1),(2,1),(3,1),(4,1)]:=bK.of Ψ
theorem bA.p:bK x7 bA [(0,1)]:=bK.of Ψ
theorem bA.i:aN x7 bA 1 24 (.agg #[(.slice ν 0 0)]):=aN.of Ψ
theorem dQ.p:bK x7 dQ [(0,1),(1,1),(2,1)]:=bK.of Ψ
theorem dQ.i:aN x7 dQ 3 56 (.agg #[(.slice ν 0 0),(.slice ν 0 0),(Δ 0)]):=aN.of Ψ
theorem gf.p:bK x7 gf [(0,1),(1,1),(2,1)]:=bK.of Ψ
theorem gf.i:aN x7 gf 3 56 (.agg #[(Δ 0),(.slice ν 0 0),(.slice ν 0 0)]):=aN.of Ψ
theorem fO.p:bK x7 fO [(0,1),(1,1),(2,1)]:=bK.of Ψ
theorem fO.i:aN x7 fO 3 56 (.agg #[(Δ 0),(.slice ν 0 0),(.slice ν 0 0)]):=aN.of Ψ
theorem rX.u:x7.underlying rX=σ (.pointer hP):=Ψ
theorem eV.p:bK x7 eV [(0,1),(1,1),(2,1),(3,1)]:=bK.of Ψ
theorem ht.u:x7.underlying ht=σ (.slice jE):=Ψ
theorem ht.i:aN x7 ht 1 24 (.slice ν 0 0):=aN.of Ψ
theorem cg.p:bK x7 cg [(0,1),(1,4),(5,1),(6,1)]:=bK.of Ψ
theorem je.u:x7.underlying je=σ (.slice b5):=Ψ
theorem iC.u:x7.underlying iC=σ (.slice ec):=Ψ
theorem iC.i:aN x7 iC 1 24 (.slice ν 0 0):=aN.of Ψ
theorem b5.p:bK x7 b5 [(0,1),(1,1),(2,1),(3,1)]:=bK.of Ψ
theorem b5.i:aN x7 b5 4 80 (.agg #[(.slice ν 0 0),(.slice ν 0 0),(Δ 0),(.slice ν 0 0)]):=aN.of Ψ
theorem dJ.u:x7.underlying dJ=σ (.slice cE):=Ψ
theorem dJ.i:aN x7 dJ 1 24 (.slice ν 0 0):=aN.of Ψ
theorem cD.p:bK x7 cD [(0,1),(1,1),(2,1),(3,1)]:=bK.of Ψ
theorem eP.u:x7.underlying eP=σ (.pointer fy):=Ψ
theorem eP.i:aN x7 eP 1 8 (.pointer ν):=aN.of Ψ
theorem cE.p:bK x7 cE [(0,1),(1,1)]:=bK.of Ψ
theorem cE.i:aN x7 cE 2 32 (.agg #[(.slice ν 0 0),(.pointer ν)]):=aN.of Ψ
theorem fg.u:x7.underlying fg=σ (.slice cn):=Ψ
theorem fg.i:aN x7 fg 1 24 (.slice ν 0 0):=aN.of Ψ
theorem dA.u:x7.underlying dA=σ (.slice a1):=Ψ
theorem dA.i:aN x7 dA 1 24 (.slice ν 0 0):=aN.of Ψ
theorem bB.p:bK x7 bB [(0,1),(1,1),(2,1),(3,1),(4,1),(5,1),(6,1),(7,1),(8,1)]:=bK.of Ψ
theorem dF.p:bK x7 dF [(0,1),(1,1),(2,1),(3,1)]:=bK.of Ψ
theorem cn.p:bK x7 cn [(0,1),(1,1)]:=bK.of Ψ
theorem cn.i:aN x7 cn 2 24 (.agg #[(.string ⟨#[]⟩),(Δ 0)]):=aN.of Ψ
theorem eb.u:x7.underlying eb=σ (.slice cc):=Ψ
theorem eb.i:aN x7 eb 1 24 (.slice ν 0 0):=aN.of Ψ
theorem a1.p:bK x7 a1 [(0,1),(1,1),(2,1),(3,1)]:=bK.of Ψ
theorem a1.i:aN x7 a1 4 80 (.agg #[(.slice ν 0 0),(.slice ν 0 0),(Δ 0),(.slice ν 0 0)]):=aN.of Ψ
theorem kR.u:x7.underlying kR=σ (.slice hv):=Ψ
theorem kR.i:aN x7 kR 1 24 (.slice ν 0 0):=aN.of Ψ
theorem fw.p:bK x7 fw [(0,1),(1,1),(2,1),(3,1)]:=bK.of Ψ
theorem eQ.u:x7.underlying eQ=σ (.pointer cX):=Ψ
theorem eQ.i:aN x7 eQ 1 8 (.pointer ν):=aN.of Ψ
theorem hv.p:bK x7 hv [(0,1),(1,1)]:=bK.of Ψ
theorem hv.i:aN x7 hv 2 32 (.agg #[(.slice ν 0 0),(.pointer ν)]):=aN.of Ψ
theorem eG.p:bK x7 eG [(0,1),(1,1)]:=bK.of Ψ
theorem eG.i:aN x7 eG 2 16 (.agg #[(Δ 0),(.int .u64 0)]):=aN.of Ψ
theorem h8.u:x7.underlying h8=σ (.slice eG):=Ψ
theorem h8.i:aN x7 h8 1 24 (.slice ν 0 0):=aN.of Ψ
theorem nn.u:x7.underlying nn=σ (.slice kS):=Ψ
theorem nn.i:aN x7 nn 1 24 (.slice ν 0 0):=aN.of Ψ
theorem rY.u:x7.underlying rY=σ (.slice gi):=Ψ
theorem fx.p:bK x7 fx [(0,1),(1,1),(2,1),(3,1)]:=bK.of Ψ
theorem hP.p:bK x7 hP [(0,1),(1,1),(2,1)]:=bK.of Ψ
theorem jE.p:bK x7 jE [(0,1),(1,1)]:=bK.of Ψ
theorem jE.i:aN x7 jE 2 48 (.agg #[(.slice ν 0 0),(.slice ν 0 0)]):=aN.of Ψ
theorem ec.p:bK x7 ec [(0,1),(1,1)]:=bK.of Ψ
theorem ec.i:aN x7 ec 2 32 (.agg #[(.slice ν 0 0),(Δ 0)]):=aN.of Ψ
theorem cc.p:bK x7 cc [(0,1),(1,1)]:=bK.of Ψ
theorem cc.i:aN x7 cc 2 32 (.agg #[(.slice ν 0 0),(Δ 0)]):=aN.of Ψ
theorem gg.u:x7.underlying gg=σ (.slice cW):=Ψ
theorem cW.p:bK x7 cW [(0,1),(1,1)]:=bK.of Ψ
theorem cW.i:aN x7 cW 2 32 (.agg #[(.slice ν 0 0),(.pointer ν)]):=aN.of Ψ
theorem iD.u:x7.underlying iD=σ (.map cF ak):=Ψ
theorem fy.p:bK x7 fy [(0,1),(1,1),(2,1),(3,1)]:=bK.of Ψ
theorem oD.u:x7.underlying oD=σ (.slice gh):=Ψ
theorem gh.p:bK x7 gh [(0,1),(1,1)]:=bK.of Ψ
theorem gh.i:aN x7 gh 2 32 (.agg #[(.slice ν 0 0),(Δ 0)]):=aN.of Ψ
theorem cX.p:bK x7 cX [(0,1),(1,1),(2,1)]:=bK.of Ψ
theorem gi.p:bK x7 gi [(0,1),(1,1),(2,1)]:=bK.of Ψ
theorem gi.i:aN x7 gi 3 24 (.agg #[(Δ 0),(Δ 0),(.int .u64 0)]):=aN.of Ψ
theorem kS.i:aN x7 kS 3 24 (.agg #[(Δ 0),(Δ 0),(.int .u64 0)]):=aN.of Ψ
theorem oE.u:x7.underlying oE=σ (.int .u64):=Ψ
theorem gW.u:x7.underlying gW=σ (.map c4 ag):=Ψ
theorem fP.u:x7.underlying fP=σ (.int .i8):=Ψ
theorem fP.i:aN x7 fP 1 1 (.int .i8 0):=aN.of Ψ
theorem cF.u:x7.underlying cF=σ (.array 6 fP):=Ψ
theorem cF.i:aN x7 cF 6 6 (.agg #[(.int .i8 0),(.int .i8 0),(.int .i8 0),(.int .i8 0),(.int .i8 0),(.int .i8 0)]):=aN.of Ψ
theorem kT.u:x7.underlying kT=σ (.slice fP):=Ψ
theorem jf.u:x7.underlying jf=σ (.slice cF):=Ψ
theorem jf.i:aN x7 jf 1 24 (.slice ν 0 0):=aN.of Ψ
theorem rZ.u:x7.underlying rZ=σ (.array 64 cC):=Ψ
theorem oF.u:x7.underlying oF=σ (.int .u32):=Ψ
theorem lN.u:x7.underlying lN=σ (.map ak ag):=Ψ
theorem mj.u:x7.underlying mj=σ (.array 24 cC):=Ψ
theorem mj.i:aN x7 mj 24 24 (.agg #[(.int .u8 0),(.int .u8 0),(.int .u8 0),(.int .u8 0),(.int .u8 0),(.int .u8 0),(.int .u8 0),(.int .u8 0),(.int .u8 0),(.int .u8 0),(.int .u8 0),(.int .u8 0),(.int .u8 0),(.int .u8 0),(.int .u8 0),(.int .u8 0),(.int .u8 0),(.int .u8 0),(.int .u8 0),(.int .u8 0),(.int .u8 0),(.int .u8 0),(.int .u8 0),(.int .u8 0)]):=aN.of Ψ
theorem r0.u:x7.underlying r0=σ (.array 20 fv):=Ψ
end Go.Proofs.YtjjhhcfgfdepdaaGreatDoor
namespace Go.Vc
open Go Go.RowKit
def b1:x1->Int
 | .int _ i=>i
 |_=>0
theorem wrap_i64 {x:Int} (h1: -9223372036854775808<=x) (a:x<9223372036854775808):X7.wrap x=x:=by
 simp only[o6.wrap,o6.bits,o6.signed];simp;omega
theorem wrap_u8 {x:Int} (h1:0<=x) (a:x<256):o6.u8.wrap x=x:=by
 simp only[o6.wrap,o6.bits,o6.signed];simp;omega
theorem IH {x:Int} (h1: -128<=x) (a:x<128):o6.i8.wrap x=x:=by
 simp only[o6.wrap,o6.bits,o6.signed];simp;omega
theorem wrap_u64 {x:Int} (h1:0<=x) (a:x<18446744073709551616):U8.wrap x=x:=by
 simp only[o6.wrap,o6.bits,o6.signed];simp;omega
abbrev ints (k:o6) (l:Λ):List x1:=l.map (V5 k)
theorem pU (k:o6) (l:Λ):∀u∈ints k l,u.oneCell'=true:=by
 intro u hu;obtain⟨x,_,rfl⟩:=l7.1 hu;rfl
theorem kV {i:Nat} {x:Int} (h:l[i]? =σ x):(ints k l)[i]? =σ (.int k x):=by simp[ints,h]
theorem ve {α:Type} {a b:List α} {i:Nat} {x y:α} (h:a.take i=b.take i) (e:a[i]? =σ x) (f:b[i]? =σ y) (j:x=y):a.take (i+1)=b.take (i+1):=by
 rw[u9,u9,h,e,f,j]
theorem dm {au:x3->Prop} {B:(x3->Prop)->Prop} (G:x3->Prop) (h1:∀w,G w->au w) (e:∀a:x3->Prop,(∀w,G w->a w)->B a):cr au B:=e au h1
theorem aT {au:x1->x3->Prop} {B:(x1->x3->Prop)->Prop} (G:x1->x3->Prop) (h1:∀v w,G v w->au v w)
  (e:∀a:x1->x3->Prop,(∀v w,G v w->a v w)->B a):cr au B:=e au h1
theorem iB {au:x1->x1->x3->Prop} {B:(x1->x1->x3->Prop)->Prop} (G:x1->x1->x3->Prop) (h1:∀u v w,G u v w->au u v w)
  (e:∀a:x1->x1->x3->Prop,(∀u v w,G u v w->a u v w)->B a):cr au B:=e au h1
theorem ai.calls {P:W9} {f:Q0} {K:x1->x3->Prop} (h:ai P f args w K) (a:Enters P f):Calls P f args.toArray w λe w'=>∃v,e= .returned v/\cM w w'/\K v w':=by
 cases h with
 |code _ h=>exact h
 |ext v w' h1=>rw[a] at h1;cases h1
theorem II (f:Ext w w') (a:cM w w'):Below w.heap.size w w':=
 ⟨a.os,a.tape.1,a.output,f.size,λk hk=>by
  have e:w.heap[k]? =σ w.heap[k]:=Array.getElem?_eq_getElem hk;rw[e];cases I:fs w.heap[k] with
  |true=>exact f.aV k _ e I
  |false=>exact a.aV k _ e I⟩
theorem vf {x:Addr} (h:w.cell? x=σ v):x=⟨x.block,x.off,ν⟩:=by
 obtain⟨b,o,s⟩:=x;cases s with
 |none=>rfl
 |some s=>
  unfold x3.cell? at h;split at h<;>simp at h
theorem IJ {a:Option Addr} {len cap:Nat} {e:Λ}
  (h:(a=ν/\len=0/\cap=0/\e=[])\/
   ∃x,a=σ x/\len<=cap/\cap<=maxLen/\e.length=cap/\(∀i,i<e.length->w.cell? (x.add i)=σ (.int k (e.getD i 0)))/\ ∀n∈e,(Lit.int k n).wf=true):
  b7 w 1 (.slice a len cap) len (ints k (e.take len))/\ ∀n∈e.take len,k.min<=n/\n<=k.max:=by
 rcases h with⟨rfl,rfl,rfl,rfl⟩|⟨x,rfl,h1,r,s,f,y⟩
 .exact⟨b7.nil _ _,Ξ⟩
 .refine⟨⟨by simp[s,h1],x.block,x.off,σ x,cap,rfl,h1,r,λC=>?_,λj v p=>?_⟩,λn z=>?_⟩
  .have:=f 0 Ω;exact congrArg σ (vf this)
  .have A:=(x4.1 p).1;rw[u7,j5] at A;have B:x=⟨x.block,x.off,ν⟩:=vf (v:=.int k (e.getD 0 0)) (f 0 Ω);have q:=f j Ω;rw[B,S2] at q;rw[q,<-p,ints,x8,X4 Ω,u4,x6 Ω];rfl
  .have:=y n (T9 z);simpa[Lit.wf] using this
def aF (k:o6) (w:x3) (v:x1) (l:Λ):Prop:=b7 w 1 v l.length (ints k l)
def ap (k:o6) (e:r9) (w:x3) (g:Nat) (v:x1) (l:Λ):Prop:=bV w g e 1 v l.length (ints k l)
theorem aF.ext (h:aF k w v l) (a:Ext w w'):aF k w' v l:=b7.ext h a
theorem ap.ext {g:Nat} (h:ap k e w g v l) (a:Ext w w'):ap k e w' g v l:=bV.ext h a
theorem ap.U {g:Nat} (h:ap k e w g v l) (a:ae S w w') (f:g<w.heap.size->¬S g):ap k e w' g v l:=bV.U h a f
theorem ap.ls {g:Nat} (h:ap k e w g v l):aF k w v l:=bV.sl h
theorem aF.of (h:b7 w 1 v n (ints k l)):aF k w v l:=by
 have:l.length=n:=by simpa using h.1
 unfold aF;rw[this];exact h
theorem ap.of {g:Nat} (h:bV w g e 1 v n (ints k l)):ap k e w g v l:=by
 have:l.length=n:=by simpa using h.1
 unfold ap;rw[this];exact h
theorem aF.le (h:aF k w v l):l.length<=9223372036854775807:=by
 have:=b7.le h;simpa[maxLen] using this
theorem aF.cells (h:aF k w v l):v.cells= #[v]/\v.oneCell'=true:=by
 obtain⟨_,_,_,_,_,rfl,_⟩:=h;exact⟨rfl,rfl⟩
theorem ap.nil (k:o6) (e:r9) (w:x3) (g:Nat):ap k e w g (.slice ν 0 0) []:=bV.nil w g e 1
section
variable {P:W9} {w:x3}
theorem aX {a:r9} (f:P.underlying t=σ (.slice e)) (h:aF k w v l):
  V P (V3 #[t] a #[v]) w K=K (Δ l.length):=by
 obtain⟨_,_,_,_,_,rfl,_⟩:=h;exact h9 f
theorem be {f:o6} {b:Nat} {i:Nat} {x:Int} (j:P.underlying t=σ (.slice e)) (hi:aN P e 1 b z) (h1:jF P e=true)
  (h:aF k w v l) (a:l[i]? =σ x):V P (c8 t v (.int f (i:Int))) w (λp=>V P (u5 e p) w K)=K (.int k x):=by
 have q:=(x4.1 a).1;obtain⟨_,_,_,_,_,rfl,_,_,r,s⟩:=h;rw[fz j hi q r,T5,aB h1 (s i _ (kV a))]
theorem fA {a:o6} {b:Nat} {i:Nat} {x:Int} (f:y=(i:Int)) (j:P.underlying t=σ (.slice e)) (hi:aN P e 1 b z) (h1:jF P e=true)
  (h:aF k w v l) (q:l[i]? =σ x):V P (c8 t v (.int a y)) w (λp=>V P (u5 e p) w K)=K (.int k x):=by
 subst f;exact be j hi h1 h q
theorem jj {p:r9} {b g:Nat} {x:x1} {m:Λ} {K:x1->x3->Prop} (j:P.underlying t=σ (.slice e)) (hi:aN P e 1 b z) (q:z.cells.size=1)
  (h:ap k e w g v l) (s:aF k w x m) (y:(l.length+m.length)*b<=140737488355328) (A:l.length+m.length<=9223372036854775807)
  (B:∀f a w',(a=g\/w.heap.size<=a)->ap k e w' a f (l++m)->ae (λr=>r=g) w w'->K f w'):av P (b9 #[t,t] p #[v,x]) w K:=
 nu j j hi q h s (pU _ _) y (by simpa[maxLen] using A) λf a w' h1 C E=>B f a w' h1 (ap.of (by rw[ints,j6];exact C)) E
theorem ej {b:Nat} {x:Int} {K:x1->x3->Prop} (j:P.underlying t=σ (.slice e)) (hi:aN P e 1 b z) (s:z.cells.size=1)
  (h:∀v g w',g=w.heap.size->Ext w w'->ap k e w' g v [x]->K v w'):av P (Y4 t 1 #[(0,.int k x)]) w K:=
 jG j hi Ω (cs:=#[.int k x]) (by
   have I:∀ (a:Array x1),a.size=1->a.setIfInBounds 0 (.int k x)= #[.int k x]:=λa f=>by
    apply Array.ext
    .simp[f]
    .intro i h1 y;have:i=0:=by simp[f] at h1;exact h1
     subst this;simp
   simp only[Instr.fill,x1.cells,List.zipIdx];simp;exact I _ Ξ) λg w' p q r=>h _ g w' p q (ap.of (n:=1) (bV.full r rfl (by simp[maxLen])))
theorem ai.free {f:Q0} {K:x1->x3->Prop} (h:ai P f args w K):gH P f args w λv w'=>cM w w'/\K v w':=by
 cases h with
 |code h1 a=>exact .code h1 (a.mono λ_ w' ⟨v,h1,e,a⟩=>⟨v,h1,e,a⟩)
 |ext v w' h1 a j=>exact .ext v w' h1 ⟨a,j⟩
theorem bW {a:Addr}:V P (bN (.pointer (σ a))) w K=K (.pointer (σ a)):=V.of λ_ _=>by
 simp[bN,rm,execOp]
theorem az {u:r9} {pl:List (Nat×Nat)} {b off z:Nat} {K:x1->x1->Prop} (h:bK P t pl) (i:Nat) (j:aa w b e cs) (a:cs[(pl[i]?.getD (0,0)).1]? =σ v) (f:pl[i]? =σ (off,z+1):=by rfl) (p:jF P u=true:=by kernel_rfl):
  V P (u6 t (Γ b) i) w (λx=>V P (u5 u x) w (K x))=K (.pointer (σ ⟨b,0+off,ν⟩)) v:=by
 rw[f] at a;rw[aP h f,aB p (j.cell (by rw[W0];exact a))]
theorem aO {u:r9} {pl:List (Nat×Nat)} {b off z:Nat} {K:x1->x1->x1->Prop} (a:bK P t pl) (i:Nat) (f:aa w b e cs) (h:cs[(pl[i]?.getD (0,0)).1]? =σ v) (j:pl[i]? =σ (off,z+1):=by rfl) (p:jF P u=true:=by kernel_rfl):
  V P (bN (Γ b)) w (λy=>V P (u6 t y i) w (λx=>V P (u5 u x) w (K y x)))=K (Γ b) (.pointer (σ ⟨b,0+off,ν⟩)) v:=by
 rw[bW,az a i f h j p]
theorem zB {a f:o6} {k:Nat} {K:x1->x3->Prop} (q:P.underlying t=σ (.slice e)) (hi:aN P e k j z) (A:n*j<=281474976710656) (B:n<=9223372036854775807)
  (h:∀g w',g=w.heap.size->Ext w w'->aa w' g e (dS z.cells (n*k))->K (.slice (σ ⟨g,0,ν⟩) n n) w'):av P (Instr.makeSlice t (.int a (n:Int)) (.int f (n:Int))) w K:=by
 obtain⟨i,hi,rfl,rfl,r⟩:=hi;have s:(i.bytes:Int)*(n:Int)<=281474976710656:=by
  rw[Int.mul_comm];have h:((n*i.bytes:Nat):Int)<=281474976710656:=Ω
  rwa [Int.natCast_mul] at h
 have p:=run_make (P:=P) w t e i z q hi r a f n n Ω (Int.le_refl _) s Ω;have hm:madeCells z.cells ((n:Int).toNat*i.size)=(dS z.cells (n*i.size)).toArray:=by rw[dS,Array.toArray_toList];rfl
 rw[hm] at p;obtain⟨h1,x,y⟩:=r7 w (dS z.cells (n*i.size)) e;exact .of p y (h _ _ rfl x h1)
theorem IK (v:x1) (n:Nat):dS #[v] n=p9 n v:=by
 apply List.ext_getElem
 .simp[dS]
 .intro i h1 a;simp[dS,Nat.mod_one]
theorem kk {f j:o6} {a:Nat} {K:x1->x3->Prop} (p:P.underlying t=σ (.slice e)) (hi:aN P e 1 a (.int k 0)) (q:n*a<=281474976710656) (r:n<=9223372036854775807)
  (h:∀g w',g=w.heap.size->Ext w w'->aa w' g e (ints k (p9 n 0))->K (.slice (σ ⟨g,0,ν⟩) n n) w'):av P (Instr.makeSlice t (.int f (n:Int)) (.int j (n:Int))) w K:=
 zB p hi q r λg w' s x y=>h g w' s x (by
  have e:dS (V5 k 0).cells (n*1)=ints k (p9 n 0):=by rw[T5];show dS #[_] n=_;rw[IK];simp[ints]
  rw[<-e];exact y)
theorem fB {pl:List (Nat×Nat)} {b o k a:Nat} (hu:bK P t pl) (hi:aN P t k a z) (e:cs.length=k)
  (h:w.rangeAt b o cs):V P (do loadVar t (<-asAddr (.pointer (σ ⟨b,o,ν⟩)))) w K=K (.agg cs.toArray):=V.of λw' f=>by
 obtain⟨j,hu,_⟩:=hu;have:=run_loadVar_mid (P:=P) w' b o t cs (.struct j) (np f h) hu rfl (by rw[hi.size,e]);simp only[asAddr,W6,V4,Result.andThen_ok,this]
theorem IL (h:vs.length=cs.length):over cs 0 vs=vs:=by
 rw[mo Ω];simp[h]
theorem bT {k f g:Nat} {K:Unit->x3->Prop} (hi:aN P t k f z) (j:vs.length=k) (x:cs.length=k) (p:∀v∈vs,v.oneCell'=true) (q:aa w g e cs)
  (h:∀w',ae (λr=>r=g) w w'->w'.heap.size=w.heap.size->aa w' g e vs->K () w'):av P (o5 t (Γ g) (.agg vs.toArray)) w K:=
 zy hi j p q Ω λw' h1 s a=>h w' h1 s (by rw[IL Ω] at a;exact a)
end
section
variable {P:W9} {w w' w2:x3} {t:r9} {cx cy:Bool} {k:o6} {a b:Int} {A B:Prop} {x y z:x1} {K:x1->Prop}
theorem bu:V P (Z8 (.tuple #[x,y]) 0) w K=K x:=iF rfl
theorem bw:V P (Z8 (.tuple #[x,y]) 1) w K=K y:=iF rfl
theorem hR:V P (Z8 (.tuple #[x,y,z]) 0) w K=K x:=iF rfl
theorem hS:V P (Z8 (.tuple #[x,y,z]) 1) w K=K y:=iF rfl
theorem hT:V P (Z8 (.tuple #[x,y,z]) 2) w K=K z:=iF rfl
theorem bH (h:a<b) (e:A):V P (aJ .lss t cx cy (.int k a) (.int k b)) w λv=>Split v A B:=by
 rw[aQ,ah];exact⟨λ_=>e,λf=>absurd h f⟩
theorem ca (h:¬a<b) (e:B):V P (aJ .lss t cx cy (.int k a) (.int k b)) w λv=>Split v A B:=by
 rw[aQ,ah];exact⟨λf=>absurd f h,λ_=>e⟩
theorem Ext.put {g:Nat} (a:Ext w w') (e:ae (λr=>r=g) w' w2) (h:w.heap.size<=g):Ext w w2:=a.then e λr f he=>by
 have he:r=g:=he;omega
theorem aE {α:Type} {l:List α} {i:Nat} (h:i<l.length):∃x,l[i]? =σ x:=⟨_,x6 h⟩
end
abbrev af:=Nat->Prop
def kl (S:af) (w:x3) (k:Nat) (v:x1) (n:Nat) (cs:List x1):Prop:=
 cs.length=n*k/\ ∃b o base cap,v= .slice base n cap/\n<=cap/\cap<=maxLen/\(0<n->base=σ ⟨b,o,ν⟩)/\(0<cs.length->S b)/\w.rangeAt b o cs
theorem kl.sl {S:af} {k:Nat} (h:kl S w k v n cs):b7 w k v n cs:=by
 obtain⟨h1,b,o,base,cap,a,e,f,j,_,p⟩:=h;exact⟨h1,b,o,base,cap,a,e,f,j,p⟩
theorem zC {b o:Nat} (h:w.rangeAt b o cs) (a:0<cs.length):b<w.heap.size:=by
 have:=h 0 cs[0] (x6 a);obtain⟨c,e,f,j,_⟩:=vb this;exact (j0.1 j).1
theorem kl.U {S T:af} {k:Nat} (h:kl S w k v n cs) (p:ae T w w') (q:∀r,r<w.heap.size->S r->¬T r):kl S w' k v n cs:=by
 obtain⟨h1,b,o,base,cap,s,x,y,z,e,f⟩:=h;refine⟨h1,b,o,base,cap,s,x,y,z,e,?_⟩;rcases Q3 cs.length with a|a
 .intro j v A;have:=(x4.1 A).1;omega
 .exact jh p (q b (zC f a) (e a)) f
theorem kl.mono {S T:af} {k:Nat} (h:kl S w k v n cs) (f:∀r,r<w.heap.size->S r->T r):kl T w k v n cs:=by
 obtain⟨h1,b,o,base,cap,j,p,q,s,x,a⟩:=h;exact⟨h1,b,o,base,cap,j,p,q,s,λe=>f b (zC a e) (x e),a⟩
class aj (α:Type) where
 n:Nat
 rep:Bool->af->af->x3->List x1->α->Prop
 len:∀ {m S R w cs a},rep m S R w cs a->cs.length=n
 one:∀ {m S R w cs a},rep m S R w cs a-> ∀u∈cs,u.oneCell'=true
 U:∀ {m S R T w w' cs a},rep m S R w cs a->ae T w w'->(∀r,r<w.heap.size->S r\/R r->¬T r)->rep m S R w' cs a
 mono:∀ {m S S' R R' w cs a},rep m S R w cs a->(∀r,r<w.heap.size->S r->S' r)->(∀r,r<w.heap.size->R r->R' r)->rep m S' R' w cs a
 hM:∀ {m S R w cs a},rep m S R w cs a->rep false (λ_=>False) (λr=>S r\/R r) w cs a
section
variable {α β:Type} [aj α] [aj β] {m:Bool} {S R T:af} {w w':x3}
abbrev bj (S R:af) (w:x3) (cs:List x1) (a:α):Prop:=aj.rep true S R w cs a
abbrev Seen (R:af) (w:x3) (cs:List x1) (a:α):Prop:=aj.rep false (λ_=>False) R w cs a
abbrev ek:af:=λ_=>True
theorem bd {a:α} (h:aj.rep m S R w cs a) (e:Ext w w'):aj.rep m S R w' cs a:=aj.U h (e.U λ_=>False) λ_ _ _ h=>h
theorem mp {a:α} (h:aj.rep m S R w cs a):aj.rep m (λr=>S r/\r<w.heap.size) R w cs a:=aj.mono h (λ_ h1 e=>⟨e,h1⟩) λ_ _ h=>h
theorem gK {a:α} (h:aj.rep m S R w cs a):Seen ek w cs a:=aj.mono (aj.hM h) (λ_ _ h=>h.elim) λ_ _ _=>trivial
theorem nv {a:α} {Q:af} (h:aj.rep m S R w cs a) (e:∀r,r<w.heap.size->S r\/R r->Q r):Seen Q w cs a:=aj.mono (aj.hM h) (λ_ _ h=>h.elim) e
instance:aj Int where
 n:=1
 rep _ _ _ _ cs a:=cs=[Δ a]
 len h:=by subst h;rfl
 one h:=by subst h;intro u hu;simp at hu;subst hu;rfl
 U h _ _:=h
 mono h _ _:=h
 hM h:=h
instance:aj Bool where
 n:=1
 rep _ _ _ _ cs a:=cs=[.bool a]
 len h:=by subst h;rfl
 one h:=by subst h;intro u hu;simp at hu;subst hu;rfl
 U h _ _:=h
 mono h _ _:=h
 hM h:=h
instance:aj ByteArray where
 n:=1
 rep _ _ _ _ cs a:=cs=[.string a]
 len h:=by subst h;rfl
 one h:=by subst h;intro u hu;simp at hu;subst hu;rfl
 U h _ _:=h
 mono h _ _:=h
 hM h:=h
def jH (_:o6):Type:=Int
instance (k:o6):aj (jH k) where
 n:=1
 rep _ _ _ _ cs a:=cs=[.int k a]
 len h:=by subst h;rfl
 one h:=by subst h;intro u hu;simp at hu;subst hu;rfl
 U h _ _:=h
 mono h _ _:=h
 hM h:=h
def Rd (α:Type):Type:=α
instance Q5:aj (Rd α) where
 n:=aj.n α
 rep _ _ R w cs a:=aj.rep (α:=α) false (λ_=>False) R w cs a
 len h:=aj.len (α:=α) h
 one h:=aj.one (α:=α) h
 U h e f:=aj.U (α:=α) h e λr j h=>f r j (.inr (h.elim False.elim id))
 mono h _ p:=aj.mono (α:=α) h (λ_ _ h=>h) p
 hM h:=aj.mono (α:=α) h (λ_ _ h=>h) λ_ _ h=>.inr h
instance Q6:aj (α×β) where
 n:=aj.n α+aj.n β
 rep m S R w cs a:=∃c d A B,cs=c++d/\(∀r,A r->S r)/\(∀r,B r->S r)/\(m=true-> ∀r,A r->¬B r)/\aj.rep m A R w c a.1/\aj.rep m B R w d a.2
 len:=by
  rintro m S R w cs a ⟨c,d,A,B,rfl,_,_,_,h1,e⟩;simp[aj.len h1,aj.len e]
 one:=by
  rintro m S R w cs a ⟨c,d,A,B,rfl,_,_,_,h1,e⟩ u hu;rcases l9.1 hu with hu|hu
  .exact aj.one h1 u hu
  .exact aj.one e u hu
 U:=by
  rintro m S R T w w' cs a ⟨c,d,A,B,rfl,j,p,s,h1,e⟩ x q;exact⟨c,d,A,B,rfl,j,p,s,aj.U h1 x λr f h=>q r f (h.imp (j r) id),aj.U e x λr f h=>q r f (h.imp (p r) id)⟩
 mono:=by
  rintro m S S' R R' w cs a ⟨c,d,A,B,rfl,j,p,s,h1,e⟩ q y;exact⟨c,d,λr=>A r/\r<w.heap.size,λr=>B r/\r<w.heap.size,rfl,λr h=>q r h.2 (j r h.1),λr h=>q r h.2 (p r h.1),λhm r h k=>s hm r h.1 k.1,
   aj.mono h1 (λr f h=>⟨h,f⟩) y,aj.mono e (λr f h=>⟨h,f⟩) y⟩
 hM:=by
  rintro m S R w cs a ⟨c,d,A,B,rfl,j,p,s,h1,e⟩;exact⟨c,d,λ_=>False,λ_=>False,rfl,λ_ h=>h.elim,λ_ h=>h.elim,(λh=>by cases h),aj.mono (aj.hM h1) (λ_ _ h=>h) λr _ h=>h.imp (j r) id,
   aj.mono (aj.hM e) (λ_ _ h=>h) λr _ h=>h.imp (p r) id⟩
def mq (m:Bool) (R:af) (F:Nat->af) (w:x3) (vs:List (List x1)) (l:List α):Prop:=
 vs.length=l.length/\ ∀ (i:Nat) (c:List x1) (a:α),vs[i]? =σ c->l[i]? =σ a->aj.rep m (F i) R w c a
structure zD (m:Bool) (S:af) (g:Nat) (F:Nat->af):Prop where
 sub:∀i r,F i r->S r
 top:m=true-> ∀i,¬F i g
 gL:m=true-> ∀i j r,i≠j->F i r->¬F j r
theorem mq.len {F:Nat->af} {vs:List (List x1)} {l:List α} (h:mq m R F w vs l):∀c∈vs,c.length=aj.n α:=by
 intro c a;obtain⟨i,hi,rfl⟩:=List.mem_iff_getElem.1 a;exact aj.len (h.2 i _ _ (x6 hi) (x6 (h.1▸hi)))
theorem mq.one {F:Nat->af} {vs:List (List x1)} {l:List α} (h:mq m R F w vs l):∀u∈vs.flatten,u.oneCell'=true:=by
 intro u hu;obtain⟨c,a,hu⟩:=List.mem_flatten.1 hu;obtain⟨i,hi,rfl⟩:=List.mem_iff_getElem.1 a;exact aj.one (h.2 i _ _ (x6 hi) (x6 (h.1▸hi))) u hu
theorem km {k:Nat}:∀ {vs:List (List x1)},(∀c∈vs,c.length=k)->vs.flatten.length=vs.length*k
 |[],_=>Ξ
 |c::r,h=>by
  have:=km (vs:=r) λx a=>h x (.tail _ a);simp only[List.flatten_cons,p8,this,h c (.head _),b8,U4];omega
theorem nw {k:Nat}:∀ {vs:List (List x1)},(∀c∈vs,c.length=k)-> ∀ {i j:Nat} {c:List x1},vs[i]? =σ c->j<k->vs.flatten[i*k+j]? =c[j]?
 |gX::r,h,0,j,c,a,e=>by
  simp only[List.getElem?_cons_zero,Y3] at a;subst a;rw[List.flatten_cons,Y8 (by rw[h _ (.head _)];omega)];simp
 |gX::r,h,i+1,j,c,a,e=>by
  simp only[List.getElem?_cons_succ] at a;have f:=h gX (.head _);rw[List.flatten_cons,X1 (by rw[f,U4];omega),f,U4,show i*k+1*k+j-k=i*k+j by omega];exact nw (λx p=>h x (.tail _ p)) a e
 |[],_,i,_,c,a,_=>by simp at a
instance instList:aj (List α) where
 n:=1
 rep m S R w cs l:=∃v,cs=[v]/\ ∃ (vs:List (List x1)) (g:Nat) (F:Nat->af),zD m S g F/\mq m R F w vs l/\kl (λr=>S r\/R r) w (aj.n α) v l.length vs.flatten/\
  (m=true->(v= .slice ν 0 0\/S g)/\ ∃e,bV w g e (aj.n α) v l.length vs.flatten)
 len:=by rintro m S R w cs a ⟨v,rfl,_⟩;rfl
 one:=by
  rintro m S R w cs a ⟨v,rfl,vs,g,F,_,_,⟨_,_,_,_,_,rfl,_⟩,_⟩ u hu;simp at hu;subst hu;rfl
 U:=by
  rintro m S R T w w' cs a ⟨v,rfl,vs,g,F,p,he,I,hm⟩ A s;refine⟨v,rfl,vs,g,F,p,⟨he.1,λi c a y z=>aj.U (he.2 i c a y z) A λr q h=>s r q (h.imp (p.sub i r) id)⟩,I.U A s,λh=>?_⟩;obtain⟨h1,e,f⟩:=hm h;refine⟨h1,e,?_⟩;rcases h1 with rfl|h1
  .obtain⟨C,⟨_,x⟩|⟨_,_,x,_⟩⟩:=f
   .exact⟨C,.inl ⟨rfl,x⟩⟩
   .cases x
  .exact f.U A λq=>s g q (.inl h1)
 mono:=by
  rintro m S S' R R' w cs a ⟨v,rfl,vs,g,F,p,he,I,hm⟩ s B;refine⟨v,rfl,vs,g,λi r=>F i r/\r<w.heap.size,⟨λi r h=>s r h.2 (p.sub i r h.1),λh i f=>p.top h i f.1,λh i j r E h1 f=>p.gL h i j r E h1.1 f.1⟩,
   ⟨he.1,λi c a y z=>aj.mono (he.2 i c a y z) (λr q h=>⟨h,q⟩) B⟩,I.mono λr q h=>h.imp (s r q) (B r q),λh=>?_⟩
  obtain⟨h1,e,f⟩:=hm h;refine⟨?_,e,f⟩;obtain⟨_,⟨x,_⟩|⟨_,_,x,G,_⟩⟩:=f
  .exact .inl x
  .rcases h1 with h1|h1
   .exact .inl h1
   .exact .inr (s g G.lt h1)
 hM:=by
  rintro m S R w cs a ⟨v,rfl,vs,g,F,p,he,I,hm⟩;exact⟨v,rfl,vs,g,λ_ _=>False,⟨λ_ _ h=>h,(λh=>by cases h),λh=>by cases h⟩,
   ⟨he.1,λi c a y z=>aj.mono (aj.hM (he.2 i c a y z)) (λ_ _ h=>h) λr _ h=>h.imp (p.sub i r) id⟩,I.mono λr _ h=>.inr h,λh=>by cases h⟩
end
section
variable {P:W9} {w:x3} {α β:Type} [aj α] [aj β] {m:Bool} {S R:af}
theorem ia {l:List α} (h:aj.rep m S R w [v] l):∃ (vs:List (List x1)) (g:Nat) (F:Nat->af),zD m S g F/\mq m R F w vs l/\kl (λr=>S r\/R r) w (aj.n α) v l.length vs.flatten/\
  (m=true->(v= .slice ν 0 0\/S g)/\ ∃e,bV w g e (aj.n α) v l.length vs.flatten):=by
 obtain⟨_,a,h⟩:=h;cases a;exact h
theorem e4 {a:α} (h:aj.rep m S R w [v] a):v.oneCell'=true:=aj.one h v (.head _)
theorem kW {l:List α} (h:aj.rep m S R w [v] l):v.cells= #[v]:=by
 obtain⟨_,_,_,_,_,⟨_,_,_,_,_,rfl,_⟩,_⟩:=ia h;rfl
theorem nx {l:List α} (h:aj.rep m S R w [v] l):l.length<=9223372036854775807:=by
 obtain⟨_,_,_,_,_,h,_⟩:=ia h;have:=h.sl.le;simpa[maxLen] using this
theorem gk:aj.rep m S R w [.slice ν 0 0] ([]:List α):=
 ⟨_,rfl,[],0,λ_ _=>False,⟨λ_ _ h=>h.elim,λ_ _ h=>h,λ_ _ _ _ _ h=>h.elim⟩,⟨rfl,λi c a e=>by simp at e⟩,
  ⟨Ξ,0,0,ν,0,rfl,o4 _,X8 _,λh=>absurd h (Nat.lt_irrefl _),λh=>by simp at h,λj v h=>by simp at h⟩,
  λ_=>⟨.inl rfl,0,bV.nil w 0 0 _⟩⟩
theorem zE {F:Nat->af} {vs:List (List x1)} (h:mq m R F w vs l):vs.flatten=ints .i64 l:=by
 have:vs=l.map λx=>[V5 .i64 x]:=by
  apply List.ext_getElem
  .simp[h.1]
  .intro i h1 a;have e:i<l.length:=by simpa using a
   have:=h.2 i _ _ (x6 h1) (x6 e);rw[List.getElem_map];exact this
 subst this;clear h;induction l with
 |nil=>rfl
 |cons x l f=>simp only[V7,List.flatten_cons,f];rfl
theorem cN (h:aj.rep m S R w [v] l):aF .i64 w v l:=by
 obtain⟨vs,g,F,_,he,I,_⟩:=ia h;have:=I.sl;rw[zE he] at this;exact this
theorem fC {a:r9} {l:List α} (f:P.underlying t=σ (.slice e)) (h:aj.rep m S R w [v] l):
  V P (V3 #[t] a #[v]) w K=K (Δ l.length):=by
 obtain⟨_,_,_,_,_,⟨_,_,_,_,_,rfl,_⟩,_⟩:=ia h;exact h9 f
theorem ib {x:o6} {i b:Nat} {l:List α} {a:α} (A:y=(i:Int)) (B:P.underlying t=σ (.slice e)) (hi:aN P e (aj.n α) b z)
  (h:aj.rep m S R w [v] l) (f:l[i]? =σ a) (C:∀b o cs,w.rangeAt b o cs->aj.rep m S R w cs a->K (.pointer (σ ⟨b,o,ν⟩))):V P (c8 t v (.int x y)) w K:=by
 subst A;obtain⟨vs,g,F,E,he,⟨_,b,o,base,cap,rfl,_,_,G,_,H⟩,_⟩:=ia h;have p:=(x4.1 f).1;rw[fz B hi p G];obtain⟨c,q⟩:∃c,vs[i]? =σ c:=⟨_,x6 (by rw[he.1];exact p)⟩;have s:=he.2 i c a q f;have I:=aj.len s;refine C _ _ c (λj u hu=>?_) (aj.mono s (λr _ h=>E.sub i r h) λ_ _ h=>h);have J:=(x4.1 hu).1;rw[R7];refine H (i*aj.n α+j) u ?_;rw[nw he.len q Ω];exact hu
theorem gl {q:o6} {i b:Nat} {l:List α} {a:α} (r:aj.n α=1) (s:y=(i:Int)) (x:P.underlying t=σ (.slice e)) (hi:aN P e (aj.n α) b z)
  (h1:jF P e=true) (h:aj.rep m S R w [v] l) (A:l[i]? =σ a) (B:∀u,aj.rep m S R w [u] a->K u):
  V P (c8 t v (.int q y)) w λp=>V P (u5 e p) w K:=by
 refine ib s x hi h A λb o cs C f=>?_;have j:=aj.len f;rw[r] at j;obtain⟨u,rfl⟩:=V2.1 j;rw[aB h1 (by have:=C 0 u rfl;simpa using this)];exact B u f
theorem jI {pl:List (Nat×Nat)} {j:o6} {i b:Nat} {l:List α} {a:α} (hu:bK P e pl) (q:y=(i:Int)) (r:P.underlying t=σ (.slice e)) (hi:aN P e (aj.n α) b z)
  (h:aj.rep m S R w [v] l) (s:l[i]? =σ a) (x:∀cs,aj.rep m S R w cs a->K (.agg cs.toArray)):
  V P (c8 t v (.int j y)) w λp=>V P (u5 e p) w K:=by
 refine ib q r hi h s λb o cs A f=>?_;rw[bx hu hi (aj.len f) A];exact x cs f
theorem ny {g:Nat} {k:Nat} (h:bV w g e k v n xs) (f:v= .slice ν 0 0\/S g):kl S w k v n xs:=by
 obtain⟨h1,⟨rfl,rfl⟩|⟨cap,cs,rfl,p,q,r,x,s⟩⟩:=h
 .have:xs=[]:=Z0 (by simpa using h1);subst this;exact⟨Ξ,0,0,ν,0,rfl,o4 _,X8 _,λh=>absurd h (Nat.lt_irrefl _),λh=>by simp at h,λj v h=>by simp at h⟩
 .refine⟨h1,g,0,_,cap,rfl,q,r,λ_=>rfl,λ_=>f.resolve_left Ξ,λj v a=>?_⟩;rw[W0];have y:=(x4.1 a).1;rw[<-s,X4 Ω] at a;exact p.cell a
open Classical in
theorem zF {V Y Z:r9} {b:Nat} {x:x1} {us:List (List x1)} {l l':List α} {G:Nat->af} {K:x1->x3->Prop} (aa:P.underlying t=σ (.slice e)) (ab:P.underlying V=σ (.slice Y)) (hi:aN P e (aj.n α) b z) (ac:z.cells.size=aj.n α)
  (h:bj S R w [v] l) (ad:b7 w (aj.n α) x l'.length us.flatten) (L:mq true R G w us l') (ag:∀i j r,i≠j->G i r->¬G j r)
  (E:∀r,r<w.heap.size->S r->(∀i,¬G i r)/\¬R r) (ah:(l.length+l'.length)*b<=140737488355328) (ai:l.length+l'.length<=9223372036854775807)
  (ak:∀p w',bj (λr=>S r\/(∃i,G i r)\/w.heap.size<=r) R w' [p] (l++l')->ae S w w'->K p w'):av P (b9 #[t,V] Z #[v,x]) w K:=by
 obtain⟨vs,g,F,A,he,I,hm⟩:=ia h;obtain⟨M,ap,W⟩:=hm rfl;refine zz aa ab hi ac W ad L.one ah (by simpa[maxLen] using ai) ?_;intro p H w' al am N O;have Q:∀r,r=g/\v≠ .slice ν 0 0->S r:=λr ⟨h1,f⟩=>h1▸M.resolve_left f;have an:=W;have T:(p= .slice ν 0 0)\/(H=g/\S g/\g<w.heap.size)\/H=w.heap.size:=by
  rcases am with⟨h1,_,f|f⟩|⟨h1,_⟩
  .rcases M with s|s
   .exact .inl (f▸s)
   .obtain⟨_,⟨y,_⟩|⟨_,_,_,y,_⟩⟩:=an
    .exact .inl (f▸y)
    .exact .inr (.inl ⟨h1,s,y.lt⟩)
  .exact .inr (.inl ⟨h1,M.resolve_left f.2,f.1⟩)
  .exact .inr (.inr h1)
 refine ak p w' ⟨p,rfl,vs++us,if p= .slice ν 0 0 then w.heap.size else H,λi r=>if i<l.length then F i r/\r<w.heap.size else G (i-l.length) r/\r<w.heap.size,⟨λi r h=>?_,λ_ i h=>?_,λ_ i j r ao h1 f=>?_⟩,⟨by simp[he.1,L.1],λi c a hi J=>?_⟩,?_,λ_=>⟨?_,al,?_⟩⟩ (O.mono λr _ h=>Q r h)
 .split at h
  .exact .inl (A.sub i r h.1)
  .exact .inr (.inl ⟨_,h.1⟩)
 .have B:(if p= .slice ν 0 0 then w.heap.size else H)<w.heap.size:=by split at h<;>exact h.2
  split at B
  .omega
  .rename_i q;rw[if_neg q] at h;rcases T with h1|⟨rfl,f,s⟩|h1
   .exact q h1
   .split at h
    .exact A.top rfl i h.1
    .exact (E _ s f).1 _ h.1
   .omega
 .split at h1<;>split at f
  .exact A.gL rfl i j r ao h1.1 f.1
  .exact (E r h1.2 (A.sub i r h1.1)).1 _ f.1
  .exact (E r h1.2 (A.sub j r f.1)).1 _ h1.1
  .exact ag (i-l.length) (j-l.length) r Ω h1.1 f.1
 .have X:∀r,r<w.heap.size->R r->¬(r=g/\v≠ .slice ν 0 0):=λr C h1 f=>(E r C (Q r f)).2 h1;by_cases B:i<l.length
  .rw[Y8 (by rw[he.1];exact B)] at hi;rw[Y8 B] at J;simp only[if_pos B];refine aj.U (mp (he.2 i c a hi J)) O λr C h1 f=>?_;rcases h1 with h1|h1
   .exact A.top rfl i (f.1▸h1.1)
   .exact X r C h1 f
  .rw[X1 (by rw[he.1];omega),he.1] at hi;rw[X1 Ω] at J;simp only[if_neg B];refine aj.U (mp (L.2 _ c a hi J)) O λr C h1 f=>?_;rcases h1 with h1|h1
   .exact (E r C (Q r f)).1 _ h1.1
   .exact X r C h1 f
 .rw[p8,List.flatten_append];refine ny N ?_;rcases T with h1|⟨rfl,f,_⟩|rfl
  .exact .inl h1
  .exact .inr (.inl (.inl f))
  .exact .inr (.inl (.inr (.inr (o4 _))))
 .rcases T with h1|⟨rfl,f,_⟩|rfl
  .exact .inl h1
  .by_cases q:p= .slice ν 0 0
   .exact .inl q
   .rw[if_neg q];exact .inr (.inl f)
  .split
   .exact .inr (.inr (.inr (o4 _)))
   .exact .inr (.inr (.inr (o4 _)))
 .rw[p8,List.flatten_append];by_cases q:p= .slice ν 0 0
  .subst q;obtain⟨s,⟨_,y⟩|⟨_,_,y,_⟩⟩:=N
   .exact⟨s,.inl ⟨rfl,y⟩⟩
   .cases y
  .rw[if_neg q];exact N
theorem nz {F:r9} {b:Nat} {x:x1} {l:List α} {a:α} {A:af} {K:x1->x3->Prop} (B:P.underlying t=σ (.slice e)) (hi:aN P e (aj.n α) b z) (H:z.cells.size=aj.n α)
  (h:bj S R w [v] l) (J:b7 w (aj.n α) x 1 cs) (L:bj A R w cs a) (C:∀r,r<w.heap.size->S r->¬(A r\/R r)) (f:(l.length+1)*b<=140737488355328) (M:l.length+1<=9223372036854775807)
  (N:∀p w',bj (λr=>S r\/A r\/w.heap.size<=r) R w' [p] (l++[a])->ae S w w'->K p w'):av P (b9 #[t,t] F #[v,x]) w K:=by
 refine zF (l':=[a]) (us:=[cs]) (G:=λi r=>i=0/\A r) B B hi H h (by simpa using J) ⟨rfl,λi c b q f=>?_⟩ (λi j r O h1 s=>O (h1.1.trans s.1.symm)) (λr E I=>⟨λi h=>C r E I (.inl h.2),λh=>C r E I (.inr h)⟩) (by simpa using f) (by simpa using M)
  λp w' h1 s=>N p w' (aj.mono h1 (λr _ h=>h.imp id (Or.imp (λ⟨_,h⟩=>h.2) id)) λ_ _ h=>h) s
 have y:=(x4.1 q).1;have y:i=0:=by simpa using y
 subst y;simp at q f;subst q f;exact aj.mono L (λr _ h=>⟨rfl,h⟩) λ_ _ h=>h
end
theorem zG:∀ (c:List x1) (i:Nat) (z:Array x1),(i+c.length<=z.size)->((c.zipIdx i).foldl (λcs (x:x1×Nat)=>cs.setIfInBounds x.2 x.1) z).toList=z.toList.take i++c++z.toList.drop (i+c.length)
 |[],i,z,h=>Ξ
 |x::r,i,z,h=>by
  simp only[b8] at h;rw[List.zipIdx_cons,List.foldl_cons,zG r (i+1) _ Θ];simp only[Array.toList_setIfInBounds,b8];rw[List.drop_set_of_lt Ω,List.take_set,u9,x6 Θ];simp only[o8];rw[T8 _ _ Θ];have e:i-(z.toList.take i).length=0:=Θ
  rw[e,show i+1+r.length=i+(r.length+1) by omega];simp
theorem zH {k:Nat} {z:Array x1} (a:z.size=k) (e:v.cells.size=k):Instr.fill (λj=>σ (j*k,k)) z [(0,v)]=σ v.cells:=by
 have h:=zG v.cells.toList 0 z Θ;simp only[Instr.fill,Nat.zero_mul,W0];rw[if_neg Θ];congr 1;apply Array.toList_inj.1;rw[<-Array.foldl_toList,Array.toList_zipIdx,h];simp;omega
section
variable {P:W9} {w:x3} {α β:Type} [aj α] [aj β] {m:Bool} {S R:af}
theorem iH {b:Nat} {x:x1} {a:α} {A:af} {K:x1->x3->Prop} (C:P.underlying t=σ (.slice e)) (hi:aN P e (aj.n α) b z) (L:aj.n α<=100000)
  (q:x.cells=cs.toArray) (s:bj A R w cs a)
  (E:∀v w',Ext w w'->bj (λr=>A r\/w.heap.size<=r) R w' [v] [a]->b7 w' (aj.n α) v 1 cs->K v w'):av P (Y4 t 1 #[(0,x)]) w K:=by
 have F:=aj.len s;refine jG C hi Ω (cs:=x.cells) (zH Ξ (by rw[q];simpa using F)) λg w' M y f=>?_;have f:aa w' g e cs:=by rw[q] at f;simpa using f
 have hm:bV w' g e (aj.n α) (.slice (σ ⟨g,0,ν⟩) 1 1) 1 cs:=bV.full f Ω (by simp[maxLen]);refine E _ w' y ⟨_,rfl,[cs],g,λi r=>i=0/\A r/\r<w.heap.size,⟨λi r h=>.inl h.2.1,λ_ i h=>Ω,λ_ i j r G h1 H=>G (h1.1.trans H.1.symm)⟩,⟨rfl,λi c a' p B=>?_⟩,?_,λ_=>⟨.inr (.inr Ω),e,by simpa using hm⟩⟩ hm.sl
 .have I:i=0:=by simpa using (x4.1 p).1
  subst I;simp at p B;subst p B;exact bd (aj.mono s (λr J h=>⟨rfl,h,J⟩) λ_ _ h=>h) y
 .have:=ny (S:=λr=>(A r\/w.heap.size<=r)\/R r) hm (.inr (.inl (.inr Ω)));simpa using this
end
theorem ci.range {B:x1->x3->(x1->x3->Prop)->Prop} (n:Nat) (a:Nat->x3->Prop)
  (q:n<=9223372036854775807) (f:a 0 w)
  (j:∀ (i:Nat) (w:x3) (k:x1->x3->Prop),i<n->a i w->(∀w',a (i+1) w'->k (Δ (X7.wrap ((i:Int)+1))) w')->B (Δ (i:Int)) w k)
  (p:∀ (w:x3) (k:x1->x3->Prop),a n w->B (Δ (n:Int)) w k):ci (Δ 0) w B:=by
 refine⟨λt w=>∃i:Nat,t=Δ (i:Int)/\i<=n/\a i w,λt _=>n-(b1 t).toNat,⟨0,rfl,X8 _,f⟩,?_⟩;rintro _ w ⟨i,rfl,hi,h⟩;by_cases e:i<n
 .refine j i w _ e h λw' h'=>⟨⟨i+1,?_,e,h'⟩,?_⟩
  .rw[wrap_i64 Ω Ω];rfl
  .rw[wrap_i64 Ω Ω];simp only[b1];omega
 .have:i=n:=Ω
  subst this;exact p w _ h
theorem bY.range {a:x1} {B:x1->x1->x3->(x1->x1->x3->Prop)->Prop} (n:Nat) (e:Nat->x1->x3->Prop)
  (r:n<=9223372036854775807) (j:e 0 a w)
  (p:∀ (i:Nat) (a:x1) (w:x3) (k:x1->x1->x3->Prop),i<n->e i a w->(∀a' w',e (i+1) a' w'->k a' (Δ (X7.wrap ((i:Int)+1))) w')->B a (Δ (i:Int)) w k)
  (q:∀ (a:x1) (w:x3) (k:x1->x1->x3->Prop),e n a w->B a (Δ (n:Int)) w k):bY a (Δ 0) w B:=by
 refine⟨λa t w=>∃i:Nat,t=Δ (i:Int)/\i<=n/\e i a w,λa t _=>n-(b1 t).toNat,⟨0,rfl,X8 _,j⟩,?_⟩;rintro a _ w ⟨i,rfl,hi,h⟩;by_cases f:i<n
 .refine p i a w _ f h λa' w' h'=>⟨⟨i+1,?_,f,h'⟩,?_⟩
  .rw[wrap_i64 Ω Ω];rfl
  .rw[wrap_i64 Ω Ω];simp only[b1];omega
 .have:i=n:=Ω
  subst this;exact q a w _ h
theorem ot.range {a b:x1} {B:x1->x1->x1->x3->(x1->x1->x1->x3->Prop)->Prop} (n:Nat) (e:Nat->x1->x1->x3->Prop)
  (s:n<=9223372036854775807) (p:e 0 a b w)
  (q:∀ (i:Nat) (a b:x1) (w:x3) (k:x1->x1->x1->x3->Prop),i<n->e i a b w->(∀a' f w',e (i+1) a' f w'->k a' f (Δ (X7.wrap ((i:Int)+1))) w')->B a b (Δ (i:Int)) w k)
  (r:∀ (a b:x1) (w:x3) (k:x1->x1->x1->x3->Prop),e n a b w->B a b (Δ (n:Int)) w k):ot a b (Δ 0) w B:=by
 refine⟨λa b t w=>∃i:Nat,t=Δ (i:Int)/\i<=n/\e i a b w,λa b t _=>n-(b1 t).toNat,⟨0,rfl,X8 _,p⟩,?_⟩;rintro a b _ w ⟨i,rfl,hi,h⟩;by_cases j:i<n
 .refine q i a b w _ j h λa' f w' h'=>⟨⟨i+1,?_,j,h'⟩,?_⟩
  .rw[wrap_i64 Ω Ω];rfl
  .rw[wrap_i64 Ω Ω];simp only[b1];omega
 .have:i=n:=Ω
  subst this;exact r a b w _ h
theorem rz.range {a b c:x1} {B:x1->x1->x1->x1->x3->(x1->x1->x1->x1->x3->Prop)->Prop} (n:Nat) (e:Nat->x1->x1->x1->x3->Prop)
  (x:n<=9223372036854775807) (q:e 0 a b c w)
  (r:∀ (i:Nat) (a b c:x1) (w:x3) (k:x1->x1->x1->x1->x3->Prop),i<n->e i a b c w->(∀a' f j w',e (i+1) a' f j w'->k a' f j (Δ (X7.wrap ((i:Int)+1))) w')->B a b c (Δ (i:Int)) w k)
  (s:∀ (a b c:x1) (w:x3) (k:x1->x1->x1->x1->x3->Prop),e n a b c w->B a b c (Δ (n:Int)) w k):rz a b c (Δ 0) w B:=by
 refine⟨λa b c t w=>∃i:Nat,t=Δ (i:Int)/\i<=n/\e i a b c w,λa b c t _=>n-(b1 t).toNat,⟨0,rfl,X8 _,q⟩,?_⟩;rintro a b c _ w ⟨i,rfl,hi,h⟩;by_cases p:i<n
 .refine r i a b c w _ p h λa' f j w' h'=>⟨⟨i+1,?_,p,h'⟩,?_⟩
  .rw[wrap_i64 Ω Ω];rfl
  .rw[wrap_i64 Ω Ω];simp only[b1];omega
 .have:i=n:=Ω
  subst this;exact s a b c w _ h
theorem pG.range {a b c d:x1} {B:x1->x1->x1->x1->x1->x3->(x1->x1->x1->x1->x1->x3->Prop)->Prop} (n:Nat) (e:Nat->x1->x1->x1->x1->x3->Prop)
  (y:n<=9223372036854775807) (r:e 0 a b c d w)
  (s:∀ (i:Nat) (a b c d:x1) (w:x3) (k:x1->x1->x1->x1->x1->x3->Prop),i<n->e i a b c d w->(∀a' f j p w',e (i+1) a' f j p w'->k a' f j p (Δ (X7.wrap ((i:Int)+1))) w')->B a b c d (Δ (i:Int)) w k)
  (x:∀ (a b c d:x1) (w:x3) (k:x1->x1->x1->x1->x1->x3->Prop),e n a b c d w->B a b c d (Δ (n:Int)) w k):pG a b c d (Δ 0) w B:=by
 refine⟨λa b c d t w=>∃i:Nat,t=Δ (i:Int)/\i<=n/\e i a b c d w,λa b c d t _=>n-(b1 t).toNat,⟨0,rfl,X8 _,r⟩,?_⟩;rintro a b c d _ w ⟨i,rfl,hi,h⟩;by_cases q:i<n
 .refine s i a b c d w _ q h λa' f j p w' h'=>⟨⟨i+1,?_,q,h'⟩,?_⟩
  .rw[wrap_i64 Ω Ω];rfl
  .rw[wrap_i64 Ω Ω];simp only[b1];omega
 .have:i=n:=Ω
  subst this;exact x a b c d w _ h
section
variable {P:W9} {w:x3} {m:Bool} {S R:af}
theorem IM (l:Λ):(l.map λx=>[V5 k x]).flatten=ints k l:=by
 induction l with
 |nil=>rfl
 |cons x l a=>simp only[V7,List.flatten_cons,a];rfl
theorem nA {g:Nat} (h:ap .i64 e w g v l):bj (λr=>r=g) R w [v] l:=by
 have j:(l.map λx=>[V5 .i64 x]).flatten=ints .i64 l:=IM l;refine⟨v,rfl,l.map λx=>[Δ x],g,λ_ _=>False,⟨λ_ _ h=>h.elim,λ_ _ h=>h,λ_ _ _ _ _ h=>h.elim⟩,⟨Ξ,λi c a f p=>?_⟩,?_,λ_=>⟨.inr rfl,e,?_⟩⟩
 .rw[x8,p] at f;simp at f;exact f.symm
 .rw[j];exact ny h (.inr (.inl rfl))
 .rw[j];exact h
def jH.val (x:jH k):Int:=x
theorem IN (h:bj S R w [v] l):∃g e,ap .i64 e w g v l/\(v= .slice ν 0 0\/S g):=by
 obtain⟨vs,g,F,_,he,I,hm⟩:=ia h;obtain⟨h1,e,a⟩:=hm rfl;rw[zE he] at a;exact⟨g,e,a,h1⟩
end
end Go.Vc
namespace Go.Proofs.YtjjhhcfgfdepdaaGreatDoor
open Go Go.Vc Go.RowKit Go.Proofs Go.Proofs.Tryz
set_option maxRecDepth 100000
def right (k:Int):Prop:=1<=k/\k<=2147483648
def cv (a k:Int):Prop:=right k/\0<=a/\a<=k
instance (k:Int):Decidable (right k):=by unfold right;infer_instance
instance (a k:Int):Decidable (cv a k):=by unfold cv;infer_instance
theorem zI {k:Int}:ai x7 HT [Δ k] w λv w'=>v= .bool (decide (right k))/\Ext w w':=by
 refine aw func180 ?_;simp only[cr,cU,ml,ah];refine⟨λh=>⟨?_,Ext.refl _⟩,λh=>⟨?_,Ext.refl _⟩⟩
 .congr 1;simp[right,h]
 .rw[decide_eq_false];intro a;exact h a.1
theorem jJ {k:Int}:ai x7 Hb [Δ a,Δ k] w λv w'=>v= .bool (decide (cv a k))/\Ext w w':=by
 refine aw func122 ?_;simp only[cr];refine zI.mono ?_;rintro _ J _ ⟨rfl,e⟩;simp only[cU,ml,ah];refine⟨λh=>⟨λf=>⟨?_,e⟩,λf=>⟨?_,e⟩⟩,λh=>⟨?_,e⟩⟩
 .congr 1;simp[cv,h,f]
 .rw[decide_eq_false];intro j;exact f j.2.1
 .rw[decide_eq_false];intro j;exact h j.1
theorem IP {k:Int}:ai x7 HQ [Δ k] w λv w'=>v= .bool (decide (right k))/\Ext w w':=by
 refine aw func175 ?_;simp only[cr,bS,ml,ah];refine⟨λh=>⟨?_,Ext.refl _⟩,λh=>⟨?_,Ext.refl _⟩⟩
 .congr 1;have h':1<=k:=Ω
  simp[right,h']
 .rw[decide_eq_false];intro a;have:=a.1;omega
theorem zJ {k:Int}:ai x7 GZ [Δ a,Δ k] w λv w'=>v= .bool (decide (cv a k))/\Ext w w':=by
 refine aw func107 ?_;simp only[cr];refine IP.mono ?_;rintro _ J _ ⟨rfl,e⟩;simp only[cU,ml,ah];refine⟨λh=>⟨λf=>⟨?_,e⟩,λf=>⟨?_,e⟩⟩,λh=>⟨?_,e⟩⟩
 .congr 1;simp[cv,h,f]
 .rw[decide_eq_false];intro j;exact f j.2.1
 .rw[decide_eq_false];intro j;exact h j.1
def aK:Λ->Int
 |[]=>1
 |x::r=>x*aK r
theorem zK:∀ (a b:Λ),aK (a++b)=aK a*aK b
 |[],b=>by simp[aK]
 |x::a,b=>by simp[aK,zK a b,Int.mul_assoc]
theorem sa {i:Nat} {x:Int} (h:l[i]? =σ x):aK (l.take (i+1))=aK (l.take i)*x:=by
 rw[u9,h,zK];simp[aK]
def b2 (l:Λ):Prop:=l.length<=6/\ ∀x∈l,1<=x/\x<=32
theorem b2.take (h:b2 l) (i:Nat):b2 (l.take i):=⟨by rw[j5];have:=h.1;omega,λx a=>h.2 x (T9 a)⟩
theorem b2.drop (h:b2 l) (i:Nat):b2 (l.drop i):=⟨by rw[List.length_drop];have:=h.1;omega,λx a=>h.2 x (List.mem_of_mem_drop a)⟩
theorem mr:∀ (l:Λ),(∀x∈l,1<=x/\x<=32)->1<=aK l/\aK l<=32 ^ l.length
 |[],_=>by simp[aK]
 |x::r,h=>by
  obtain⟨h1,a⟩:=mr r λy e=>h y (.tail _ e);obtain⟨f,j⟩:=h x (.head _);simp only[aK,b8];constructor
  .have:=Int.mul_le_mul f h1 Ω Ω;simpa using this
  .have:=Int.mul_le_mul j a Ω Ω;rw[Int.pow_succ];rw[Int.mul_comm (32 ^ r.length) 32];exact this
theorem prod_bound (h:b2 l):1<=aK l/\aK l<=1073741824:=by
 obtain⟨h1,a⟩:=mr l h.2;refine⟨h1,Int.le_trans a ?_⟩;have:(32:Int) ^ l.length<=32 ^ 6:=by
  have e:=h.1
  match l.length,e with
  |0,_=>decide
  |1,_=>decide
  |2,_=>decide
  |3,_=>decide
  |4,_=>decide
  |5,_=>decide
  |6,_=>decide
 simpa using this
def cH:Λ->Λ->Int->Option Int
 |[],[],n=>σ n
 |k::s,v::t,n=>if 0<=v/\v<k then cH s t (n*k+v) else ν
 |_,_,_=>ν
theorem vg:∀ (s t:Λ) (n:Int),s.length≠t.length->cH s t n=ν
 |[],[],_,h=>absurd rfl h
 |[],_::_,_,_=>rfl
 |_::_,[],_,_=>rfl
 |k::s,v::t,n,h=>by
  unfold cH;split
  .exact vg s t _ (by simpa using h)
  .rfl
def cJ:Λ->Int->Λ
 |[],_=>[]
 |k::s,n=>(n / aK s) % k::cJ s n
theorem jk:∀ (s:Λ) (n:Int),(cJ s n).length=s.length
 |[],_=>rfl
 |_::s,n=>by simp[cJ,jk s n]
theorem zL:∀ {s:Λ} {n:Int} {i:Nat} {k:Int},s[i]? =σ k->(cJ s n)[i]? =σ ((n / aK (s.drop (i+1))) % k)
 |a::s,n,0,k,h=>by simp at h;subst h;simp[cJ]
 |a::s,n,i+1,k,h=>by
  simp only[List.getElem?_cons_succ] at h;simp only[cJ,List.getElem?_cons_succ,List.drop_succ_cons];exact zL h
theorem nB:∀ {s t:Λ} {m n:Int},(∀x∈s,1<=x/\x<=32)->cH s t m=σ n->m*aK s<=n/\n<(m+1)*aK s
 |[],[],m,n,_,h=>by simp[cH] at h;subst h;simp[aK];omega
 |k::s,v::t,m,n,I,h=>by
  unfold cH at h;split at h
  .rename_i p;have e:=nB (λx a=>I x (.tail _ a)) h;have q:=(mr s λx a=>I x (.tail _ a)).1;simp only[aK];have f:m*(k*aK s)=m*k*aK s:=(Int.mul_assoc _ _ _).symm;have j:(m+1)*(k*aK s)=(m*k+k)*aK s:=by rw[<-Int.mul_assoc,Int.add_mul,Int.one_mul]
   rw[f,j];constructor
   .refine Int.le_trans ?_ e.1;exact Int.mul_le_mul_of_nonneg_right Ω Ω
   .refine Int.lt_of_lt_of_le e.2 ?_;exact Int.mul_le_mul_of_nonneg_right Ω Ω
  .cases h
 |[],_::_,_,_,_,h=>by cases h
 |_::_,[],_,_,_,h=>by cases h
def a8:Λ->List (Λ)
 |[]=>[[]]
 |k::s=>(V6 k.toNat).flatMap λ(v:Nat)=>(a8 s).map λt=>(v:Int)::t
theorem hU:∀ {s:Λ},(∀x∈s,1<=x/\x<=32)->(a8 s).length=(aK s).toNat
 |[],_=>rfl
 |k::s,h=>by
  have e:=hU (s:=s) λx a=>h x (.tail _ a);have hk:=h k (.head _);have f:=(mr s λx a=>h x (.tail _ a)).1;simp only[a8,aK,List.length_flatMap,u7,e];rw[List.map_const',List.length_range,List.sum_replicate_nat,Int.toNat_mul Ω Ω]
theorem sb:∀ {s x:Λ},x∈a8 s->x.length=s.length
 |[],x,h=>by simp[a8] at h;subst h;rfl
 |k::s,x,h=>by
  simp only[a8,List.mem_flatMap,l7] at h;obtain⟨v,_,t,a,rfl⟩:=h;simp[sb a]
theorem sd {s x:Λ} (h:(a8 s)[j]? =σ x):x.length=s.length:=sb (x5 h)
theorem oI (h:aF .i64 w sv l) (I:b2 l):
  ai x7 Hn [.agg #[sv]] w λv w'=>v=Δ (aK l)/\Ext w w':=by
 refine aw func135 ?_;refine bn λg w0 r f j=>?_;rw[az bA.p 0 j rfl,aX al.u (h.ext f)];refine⟨λn t J=>Ext w J/\ ∃i:Nat,t=Δ i/\i<=l.length/\n=Δ (aK (l.take i)),λ_ t _=>l.length-(b1 t).toNat,⟨f,0,rfl,X8 _,rfl⟩,?_⟩;rintro _ _ J ⟨a,i,rfl,hi,rfl⟩;have s:=I.1;simp only[aQ,ah];refine⟨λy=>?_,λz=>⟨?_,a⟩⟩
 .obtain⟨x,e⟩:=aE (l:=l) (i:=i) Ω;rw[be al.u ag.i Ψ (h.ext a) e];have q:=prod_bound (I.take (i+1));rw[sa e] at q;simp only[hQ,aM];rw[wrap_i64 Ω Ω,wrap_i64 Ω Ω,<-sa e];refine⟨⟨a,i+1,rfl,Ω,rfl⟩,?_⟩;simp only[b1];omega
 .have:i=l.length:=Ω
  rw[this,o7]
theorem IQ {i:Nat} (h:aF .i64 w sv l) (I:b2 l) (hi:i<l.length):
  ai x7 HV [.agg #[sv],Δ i] w λv w'=>v=Δ (aK (l.drop (i+1)))/\Ext w w':=by
 have B:=I.1;refine aw func183 ?_;refine bn λg w0 C f j=>?_;have a:=h.ext f;simp only[cr,aQ,ah];refine⟨λE=>Ω,λ_=>?_⟩;rw[az bA.p 0 j rfl,aX al.u a];simp only[cU,ah];refine⟨λG=>Ω,λ_=>?_⟩;rw[az bA.p 0 j rfl];simp only[aM];have r:X7.wrap ((i:Int)+1)=((i+1:Nat):Int):=by rw[wrap_i64 Ω Ω];omega
 rw[r];have s:=a;obtain⟨_,b,o,base,cap,rfl,H,J,K,L⟩:=id a;rw[iG al.u ag.i (l:=i+1) (h:=l.length) (m:=cap) r3 kj gj Ω Ω Ω];have e:=b7.part (l:=i+1) (h:=l.length) (m:=cap) s Ω Ω Ω Ω;generalize y:(x1.slice (if cap=i+1 then base else U6 (λx=>x.add ((i+1)*1)) base) (l.length-(i+1)) (cap-(i+1)))=q at e ⊢;have z:((ints .i64 l).drop ((i+1)*1)).take ((l.length-(i+1))*1)=ints .i64 (l.drop (i+1)):=by
  rw[o9 Ξ,T5,ints,<-List.map_drop]
 rw[z] at e;rw[dq (cs:=#[q]) (by subst y;kernel_rfl)];refine (oI (aF.of e) (I.drop (i+1))).mono ?_;rintro _ w2 _ ⟨rfl,A⟩;exact⟨rfl,f.trans A⟩
def kX (s t:Λ):x1:=match cH s t 0 with
 |some n=>.tuple #[Δ n,Δ 0]
 |none=>.tuple #[Δ 0,Δ 3]
theorem zM {s t:Λ} (h:aF .i64 w sv s) (q:aF .i64 w aL t) (I:b2 s):
  ai x7 Hp [.agg #[sv],aL] w λv w'=>v=kX s t/\Ext w w':=by
 have K:=I.1;refine aw func137 ?_;refine bn λg w0 L e r=>?_;rw[aX al.u (q.ext e),az bA.p 0 r rfl,aX al.u (h.ext e)];simp only[bE,ah];refine⟨λM=>⟨?_,e⟩,λz=>?_⟩
 .unfold kX;rw[vg _ _ _ Ω]
 .have z:s.length=t.length:=Ω
  rw[aX al.u (q.ext e)];refine⟨λ_ _ n c J=>Ext w0 J/\ ∃ (i:Nat) (m:Int),c=Δ i/\i<=t.length/\n=Δ m/\0<=m/\m<aK (s.take i)/\cH s t 0=cH (s.drop i) (t.drop i) m,λ_ _ _ c _=>t.length-(b1 c).toNat,
   ⟨Ext.refl _,0,0,rfl,X8 _,rfl,Int.le_refl _,by simp[aK],rfl⟩,?_⟩
  rintro _ _ _ _ J ⟨j,i,m,rfl,hi,rfl,A,N,f⟩;have a:=e.trans j;simp only[aQ,ah];refine⟨λO=>?_,λP=>⟨?_,a⟩⟩
  .obtain⟨v,B,C⟩:∃v,t[i]? =σ v/\t.drop i=v::t.drop (i+1):=⟨t[i],x6 Ω,W5 Ω⟩;obtain⟨k,hk,E⟩:∃k,s[i]? =σ k/\s.drop i=k::s.drop (i+1):=⟨s[i],x6 Ω,W5 Ω⟩;rw[C,E] at f;have G:=prod_bound (I.take (i+1));have Q:=prod_bound (I.take i);have R:=I.2 k (x5 hk);rw[sa hk] at G;have y:¬(0<=v/\v<k)->kX s t= .tuple #[Δ 0,Δ 3]:=λH=>by unfold kX;rw[f];simp[cH,H]
   rw[be al.u ag.i Ψ (q.ext a) B];simp only[cr,aQ,ah,bO];refine⟨λS=>⟨(y Ω).symm,a⟩,λU=>?_⟩;rw[az bA.p 0 (r.ext j) rfl,be al.u ag.i Ψ (h.ext a) hk];simp only[cU,ah];refine⟨λV=>⟨(y Ω).symm,a⟩,λW=>?_⟩;rw[az bA.p 0 (r.ext j) rfl,be al.u ag.i Ψ (h.ext a) hk];have X:0<=m*k/\m*k+k<=aK (s.take i)*k:=by
    constructor
    .exact Int.mul_nonneg A Ω
    .have:=Int.mul_le_mul_of_nonneg_right (show m+1<=aK (s.take i) by omega) (show 0<=k by omega);rw[Int.add_mul,Int.one_mul] at this;exact this
   simp only[hQ,aM];rw[wrap_i64 (x:=m*k) Ω Ω,wrap_i64 (x:=m*k+v) Ω Ω,wrap_i64 (x:=(i:Int)+1) Ω Ω];refine⟨⟨j,i+1,m*k+v,rfl,Ω,rfl,Ω,by rw[sa hk];omega,?_⟩,?_⟩
   .rw[f];simp[cH,show 0<=v/\v<k from⟨Ω,Ω⟩]
   .simp only[b1];omega
  .have:i=t.length:=Ω
   rw[this,List.drop_of_length_le Ω,List.drop_of_length_le Ω] at f;unfold kX;rw[f];rfl
theorem IR {A:x1} {e:Nat} {a b:Λ} (h1:b7 w 1 z e (ints .i64 a)) (B:b7 w 1 A j (ints .i64 b)):
  ai x7 yW [z,A] w λv w'=>v= .bool (decide (a=b))/\Ext w w':=by
 have Q:a.length=e:=by simpa using h1.1
 have R:b.length=j:=by simpa using B.1
 have C:=h1.le;obtain⟨_,S,U,V,c1,rfl,W,X,H,I⟩:=h1;obtain⟨_,Y,Z,aa,c2,rfl,ab,ac,K,L⟩:=B;refine aw func42 ?_;simp only[h9 al.u,bE,ah];refine⟨λE=>⟨?_,Ext.refl _⟩,λG=>?_⟩
 .rw[decide_eq_false];rintro rfl;omega
 .have G:e=j:=Ω
  refine⟨λt4 p J=>Ext w J/\ ∃i:Nat,p=Δ i/\i<=e/\a.take i=b.take i,λ_ p _=>e-(b1 p).toNat,⟨Ext.refl _,0,rfl,X8 _,rfl⟩,?_⟩;rintro t4 _ J ⟨f,i,rfl,hi,q⟩;simp only[aQ,ah,ei];refine⟨λr w2 M _ _=>?_,λad=>⟨?_,f⟩⟩
  .have r:i<e:=Ω
   have f:=f.trans M;obtain⟨x,s⟩:=aE (l:=a) (i:=i) Ω;obtain⟨y,h⟩:=aE (l:=b) (i:=i) Ω;have N:=iE f (I i _ (kV s));have O:=iE f (L i _ (kV h));rw[fz al.u ag.i r H,T5,aB Ψ N,fz al.u ag.i (G▸r) K,T5,aB Ψ O];simp only[bE,ah,aM];refine⟨λE=>⟨?_,f⟩,λae=>⟨⟨f,i+1,?_,Ω,ve q s h Ω⟩,?_⟩⟩
   .rw[decide_eq_false];rintro rfl;rw[s] at h;cases h;exact E rfl
   .rw[wrap_i64 Ω (by simp only[maxLen] at C;omega)];rfl
   .rw[wrap_i64 Ω (by simp only[maxLen] at C;omega)];simp only[b1];omega
  .have P:i=e:=Ω
   subst P;rw[decide_eq_true];rw[o9 Ω,o9 Ω] at q;exact q
theorem IS {s:x1} {a:Λ} (h1:b7 w 1 s n (ints .i64 a)) (B:n<=1000000):
  ai x7 zd [s] w λv w'=>Ext w w'/\ ∃g,w.heap.size<=g/\bV w' g ag 1 v n (ints .i64 a):=by
 have j:=h1;obtain⟨p,C,E,G,c1,rfl,H,I,q,K⟩:=h1;refine aw func164 ?_;simp only[r2 al.u,b0];refine⟨λf=>⟨Ext.refl _,w.heap.size,o4 _,?_⟩,λ_=>?_⟩
 .have:n=0:=by
   rcases Q3 n with h|h
   .exact h
   .rw[q h] at f;cases f
  subst this;have:ints .i64 a=[]:=Z0 (by simpa using p);rw[this];exact bV.nil _ _ _ _
 .refine jG al.u ag.i Ω (cs:=#[]) Ψ ?_;intro g J L e x;refine nu (g:=g) al.u al.u ag.i rfl (bV.full x rfl Ω) (j.ext e) (pU _ _) Ω (by simp only[maxLen];omega) ?_;intro M y w2 N z A;refine⟨e.then A (by rintro r O rfl;omega),y,?_,?_⟩
  .have:=e.size;omega
  .simpa using z
theorem IT {A:x1} {e:Nat} {a b:Λ} (h1:b7 w 1 z e (ints .i64 a)) (B:b7 w 1 A j (ints .i64 b)):
  ai x7 yU [z,A] w λv w'=>v= .bool (decide (a=b))/\Ext w w':=by
 have Q:a.length=e:=by simpa using h1.1
 have R:b.length=j:=by simpa using B.1
 have C:=h1.le;obtain⟨_,S,U,V,c1,rfl,W,X,H,I⟩:=h1;obtain⟨_,Y,Z,aa,c2,rfl,ab,ac,K,L⟩:=B;refine aw func27 ?_;simp only[h9 an.u,bE,ah];refine⟨λE=>⟨?_,Ext.refl _⟩,λG=>?_⟩
 .rw[decide_eq_false];rintro rfl;omega
 .have G:e=j:=Ω
  refine⟨λt4 p J=>Ext w J/\ ∃i:Nat,p=Δ i/\i<=e/\a.take i=b.take i,λ_ p _=>e-(b1 p).toNat,⟨Ext.refl _,0,rfl,X8 _,rfl⟩,?_⟩;rintro t4 _ J ⟨f,i,rfl,hi,q⟩;simp only[aQ,ah,ei];refine⟨λr w2 M _ _=>?_,λad=>⟨?_,f⟩⟩
  .have r:i<e:=Ω
   have f:=f.trans M;obtain⟨x,s⟩:=aE (l:=a) (i:=i) Ω;obtain⟨y,h⟩:=aE (l:=b) (i:=i) Ω;have N:=iE f (I i _ (kV s));have O:=iE f (L i _ (kV h));rw[fz an.u ak.i r H,T5,aB Ψ N,fz an.u ak.i (G▸r) K,T5,aB Ψ O];simp only[bE,ah,aM];refine⟨λE=>⟨?_,f⟩,λae=>⟨⟨f,i+1,?_,Ω,ve q s h Ω⟩,?_⟩⟩
   .rw[decide_eq_false];rintro rfl;rw[s] at h;cases h;exact E rfl
   .rw[wrap_i64 Ω (by simp only[maxLen] at C;omega)];rfl
   .rw[wrap_i64 Ω (by simp only[maxLen] at C;omega)];simp only[b1];omega
  .have P:i=e:=Ω
   subst P;rw[decide_eq_true];rw[o9 Ω,o9 Ω] at q;exact q
theorem IU {s:x1} {a:Λ} (h1:b7 w 1 s n (ints .i64 a)) (B:n<=1000000):
  ai x7 ze [s] w λv w'=>Ext w w'/\ ∃g,w.heap.size<=g/\bV w' g ak 1 v n (ints .i64 a):=by
 have j:=h1;obtain⟨p,C,E,G,c1,rfl,H,I,q,K⟩:=h1;refine aw func169 ?_;simp only[r2 an.u,b0];refine⟨λf=>⟨Ext.refl _,w.heap.size,o4 _,?_⟩,λ_=>?_⟩
 .have:n=0:=by
   rcases Q3 n with h|h
   .exact h
   .rw[q h] at f;cases f
  subst this;have:ints .i64 a=[]:=Z0 (by simpa using p);rw[this];exact bV.nil _ _ _ _
 .refine jG an.u ak.i Ω (cs:=#[]) Ψ ?_;intro g J L e x;refine nu (g:=g) an.u an.u ak.i rfl (bV.full x rfl Ω) (j.ext e) (pU _ _) Ω (by simp only[maxLen];omega) ?_;intro M y w2 N z A;refine⟨e.then A (by rintro r O rfl;omega),y,?_,?_⟩
  .have:=e.size;omega
  .simpa using z
theorem zN {e:x1} {a b:Λ} (h1:aF .i64 w e a) (h:aF .i64 w f b):
  ai x7 yW [e,f] w λv w'=>v= .bool (decide (a=b))/\Ext w w':=IR h1 h
theorem kY {s:x1} {a:Λ} (h1:aF .i64 w s a) (e:a.length<=1000000):
  ai x7 zd [s] w λv w'=>Ext w w'/\ ∃g,w.heap.size<=g/\ap .i64 ag w' g v a:=IS h1 e
theorem zO {e:x1} {a b:Λ} (h1:aF .i64 w e a) (h:aF .i64 w f b):
  ai x7 yU [e,f] w λv w'=>v= .bool (decide (a=b))/\Ext w w':=IT h1 h
theorem vh {s:x1} {a:Λ} (h1:aF .i64 w s a) (e:a.length<=1000000):
  ai x7 ze [s] w λv w'=>Ext w w'/\ ∃g,w.heap.size<=g/\ap .i64 ak w' g v a:=IU h1 e
theorem IV {n:Int} (h:aF .i64 w sv l) (I:b2 l) (x:0<=n) (W:n<aK l):
  ai x7 Ho [.agg #[sv],Δ n] w λv w'=>Ext w w'/\ ∃aL g,v= .tuple #[aL,Δ 0]/\w.heap.size<=g/\ap .i64 ag w' g aL (cJ l n):=by
 have X:=I.1;have Y:=prod_bound I;refine aw func136 ?_;refine bn λg w0 Z y a=>?_;have ab:=h.cells;simp only[cr,aQ,ah];refine⟨λac=>Ω,λ_=>?_⟩;rw[bx bA.p bA.i rfl a.range];refine (oI (h.ext y) I).mono ?_;rintro _ J _ ⟨rfl,f⟩;simp only[cU,ah];refine⟨λad=>Ω,λ_=>?_⟩;have j:=y.trans f;rw[az bA.p 0 (a.ext f) rfl,aX al.u (h.ext j)];refine kk al.u ag.i Ω Ω ?_;intro E w2 ae z L;simp only[h9 al.u];have M:=j.trans z;have s0:=y.size;have af:=f.size;have aj:=a.lt;refine⟨λt q=>Ext w q/\Ext w0 q/\ ∃i:Nat,t=Δ i/\i<=l.length/\aa q E ag (ints .i64 ((cJ l n).take i++p9 (l.length-i) 0)),λt _=>l.length-(b1 t).toNat,
  ⟨M,f.trans z,0,rfl,X8 _,by simpa using L⟩,?_⟩
 rintro _ q ⟨A,B,i,rfl,hi,G⟩;simp only[aQ,ah];refine⟨λC=>?_,λak=>?_⟩
 .have C:i<l.length:=Ω
  rw[bx bA.p bA.i rfl (a.ext B).range];refine (IQ (h.ext A) I C).mono ?_;rintro _ am _ ⟨rfl,N⟩;simp only[ei];intro an O _ _;have s:=N.trans O;have H:=A.trans s;obtain⟨k,hk⟩:∃k,l[i]? =σ k:=⟨l[i],x6 Ω⟩;have ao:=I.2 k (x5 hk);have aq:=prod_bound (I.drop (i+1));have P:0<=n / aK (l.drop (i+1)):=Int.ediv_nonneg x Ω;have au:n / aK (l.drop (i+1))<=n:=Int.ediv_le_self _ x;rw[r1 Ω,Int.tdiv_eq_ediv_of_nonneg x,wrap_i64 Ω Ω,
   az bA.p 0 ((a.ext B).ext s) rfl,be al.u ag.i Ψ (h.ext H) hk,
   nq Ω,Int.tmod_eq_emod_of_nonneg P,fz al.u ag.i C (λ_=>rfl),T5]
  refine bo ag.i rfl rfl (G.ext s) (by simp[jk];omega) ?_;intro av K ax Q;simp only[aM];rw[wrap_i64 Ω Ω];have ay:=z.size;have aA:=j.size;refine⟨⟨H.then K (by rintro r R rfl;omega),(B.trans s).then K (by rintro r R rfl;omega),i+1,rfl,Ω,?_⟩,?_⟩
  .have S:=zL (n:=n) hk;have e:(ints .i64 ((cJ l n).take i++p9 (l.length-i) 0)).set (0+i) (Δ (n / aK (l.drop (i+1)) % k))=ints .i64 ((cJ l n).take (i+1)++p9 (l.length-(i+1)) 0):=by
    have U:((cJ l n).take i).length=i:=by rw[j5,jk];omega
    rw[W0,ints,<-U9];congr 1;rw[List.set_append,if_neg Ω,U,U7,show l.length-i=(l.length-(i+1))+1 by omega,List.replicate_succ,List.set_cons_zero,u9,S];simp
   rw[<-e];exact Q
  .simp only[b1];omega
 .have V:i=l.length:=Ω
  subst V;refine⟨A,_,E,rfl,by have:=j.size;omega,ap.of (n:=l.length) (bV.full ?_ (by simp[ints,jk]) (by simp[maxLen];omega))⟩;have e:(cJ l n).take l.length++p9 (l.length-l.length) 0=cJ l n:=by rw[U7,o9 (by rw[jk];omega)];simp
  rw[<-e];exact G
def ic (x:Int):Prop:=1<=x/\x<=32
instance (x:Int):Decidable (ic x):=by unfold ic;infer_instance
theorem IW {x:Int}:ai x7 rV [Δ x] w λv w'=>v= .bool (decide (¬ic x))/\Ext w w':=by
 refine aw func241 ?_;simp only[cr,aQ,bS,ah];refine⟨λh=>⟨?_,Ext.refl _⟩,λh=>⟨?_,Ext.refl _⟩⟩
 .rw[decide_eq_true];intro a;have:=a.1;omega
 .congr 1;have:(32<x)=(¬ic x):=propext ⟨λe a=>by have:=a.2;omega,λe=>by
   by_cases f:32<x
   .exact f
   .exact absurd ⟨Ω,Ω⟩ e⟩
  simp only[this]
theorem IX (h:aF .i64 w sv l):
  ai x7 zm [sv,.func (.func rV) #[] #[]] w λv w'=>Ext w w'/\ ∃n:Int,v=Δ n/\((0<=n)=¬∀x∈l,ic x):=by
 have z:=h.le;refine aw func221 ?_;rw[aX al.u h];refine⟨λ_ t J=>Ext w J/\ ∃i:Nat,t=Δ i/\i<=l.length/\ ∀x∈l.take i,ic x,λ_ t _=>l.length-(b1 t).toNat,⟨Ext.refl _,0,rfl,X8 _,Ξ⟩,?_⟩;rintro _ _ J ⟨e,i,rfl,hi,f⟩;simp only[aQ,ah];refine⟨λA=>?_,λB=>⟨e,-1,rfl,?_⟩⟩
 .obtain⟨x,j⟩:=aE (l:=l) (i:=i) Ω;rw[be al.u ag.i Ψ (h.ext e) j];show ai x7 rV [Δ x] J _;refine IW.mono ?_;rintro _ w2 _ ⟨rfl,p⟩;simp only[ah,aM];refine⟨λq=>⟨e.trans p,i,rfl,?_⟩,λr=>?_⟩
  .exact propext ⟨λ_ s=>q (s x (x5 j)),λ_=>Ω⟩
  .rw[wrap_i64 Ω Ω];refine⟨⟨e.trans p,i+1,rfl,Ω,λy a=>?_⟩,?_⟩
   .rw[u9,j] at a;rcases l9.1 a with a|a
    .exact f y a
    .simp at a;subst a;exact Y7.1 r
   .simp only[b1];omega
 .have:i=l.length:=Ω
  rw[this,o7] at f;exact propext ⟨λh=>Ω,λh=>absurd f h⟩
theorem IY (h:aF .i64 w sv l):
  ai x7 uY [sv,.func (.func rV) #[] #[]] w λv w'=>v= .bool (decide (¬∀x∈l,ic x))/\Ext w w':=by
 refine aw func186 ?_;refine (IX h).mono ?_;rintro _ J _ ⟨a,n,rfl,e⟩;simp only[cU];exact⟨by congr 1;simp only[e],a⟩
def IZ (w:x3) (l:Λ) (v:x1) (w':x3):Prop:=
 Ext w w'/\
   (¬b2 l->v= .tuple #[.agg #[.slice ν 0 0],Δ 1])/\
   (b2 l->4096<aK l->v= .tuple #[.agg #[.slice ν 0 0],Δ 5])/\
   (b2 l->aK l<=4096-> ∃g aL,v= .tuple #[.agg #[aL],Δ 0]/\w.heap.size<=g/\ap .i64 ag w' g aL l)
theorem I0 (h:aF .i64 w sv l):ai x7 H9 [sv] w (IZ w l):=by
 refine aw func211 ?_;refine bt bA.i λY J av a q=>?_;have ax:=q.lt;refine aT (λv w2=>Ext w w2/\Ext J w2/\ ∃c:Bool,v= .bool c/\((c=true)=¬b2 l)) ?_ ?_
 .rintro _ w2 ⟨s,x,c,rfl,H⟩;simp only[b0];refine⟨λZ=>?_,λab=>?_⟩
  .have K:¬b2 l:=by rw[<-H];exact Z
   rw[dq (cs:=#[.slice ν 0 0]) Ψ];refine bT (vs:=[.slice ν 0 0]) bA.i rfl rfl (by simp;rfl) (q.ext x) ?_;intro ay ac az ad;rw[fB bA.p bA.i rfl ad.range];exact⟨s.then ac (by rintro r y rfl;omega),λ_=>rfl,λh=>absurd h K,λh=>absurd h K⟩
  .have e:b2 l:=by
    have L:¬(c=true):=by simp[ab]
    rw[H] at L;exact Classical.not_not.1 L
   have aA:=e.1;refine (kY (h.ext s) Ω).mono ?_;rintro aL M _ ⟨z,N,aB,hm⟩;have O:=hm.ls.cells;rw[dq (cs:=#[aL]) (by obtain⟨_,_,_,_,_,rfl,_⟩:=hm.ls;kernel_rfl)];refine bt bA.i λgs aC aD A af=>?_;refine bT (vs:=[aL]) bA.i rfl rfl (by intro u hu;simp at hu;subst hu;exact O.2) af ?_;intro B P aE Q;rw[bx bA.p bA.i rfl Q.range];have aG:=z.size;have aH:=A.size;have aI:=x.size;have aJ:ae (λr=>r=gs) M B:=(A.U _).trans P;have C:Ext M B:=A.then P (by rintro r y rfl;omega);have aj:=(s.trans z).trans C;have R:ap .i64 ag B N aL l:=hm.ext C;refine (oI R.ls e).mono ?_;rintro _ ak _ ⟨rfl,f⟩;have S:=aj.trans f;have V:aa ak Y bA [.slice ν 0 0]:=q.ext (((x.trans z).trans C).trans f);simp only[bS,ah];refine⟨λam=>?_,λan=>?_⟩
   .rw[dq (cs:=#[.slice ν 0 0]) Ψ];refine bT (vs:=[.slice ν 0 0]) bA.i rfl rfl (by simp;rfl) V ?_;intro ao j aq E;rw[fB bA.p bA.i rfl E.range];exact⟨S.then j (by rintro r y rfl;omega),λh=>absurd e h,λ_ _=>rfl,λ_ h=>Ω⟩
   .rw[bx bA.p bA.i rfl (Q.ext f).range];refine bT (vs:=[aL]) bA.i rfl rfl (by intro u hu;simp at hu;subst hu;exact O.2) V ?_;intro ao j aq E;rw[fB bA.p bA.i rfl E.range];have aK:=a.size;exact⟨S.then j (by rintro r y rfl;omega),λh=>absurd e h,λ_ h=>Ω,λ_ _=>⟨N,aL,rfl,Ω,(R.ext f).U j Ω⟩⟩
 .intro au W;rw[aX al.u (h.ext a)];simp only[bS,ah];refine⟨λam=>W _ _ ⟨a,Ext.refl _,true,rfl,?_⟩,λan=>?_⟩
  .exact propext ⟨λ_ I=>by have:=I.1;omega,λ_=>rfl⟩
  .refine (IY (h.ext a)).mono ?_;rintro _ w2 _ ⟨rfl,X⟩;refine W _ _ ⟨a.trans X,X,_,rfl,?_⟩;rw[decide_eq_true_eq];exact propext ⟨λG I=>G I.2,λG I=>G ⟨Ω,I⟩⟩
theorem vi {P:W9} (f:0<=a) (h1:a<4294967296):
  V P (aJ .and t cx cy (.int .u64 a) (.int .u64 4294967295)) w K=K (.int .u64 a):=V.of λw' _=>by
 obtain⟨n,rfl⟩:=U5 f;have q:n<4294967296:=Ω
 have e:(T1 64 (n:Int) &&& T1 64 4294967295).toNat=n:=by
  rw[BitVec.toNat_and,BitVec.toNat_ofInt,BitVec.toNat_ofInt];have h:((n:Int) % ((2 ^ 64:Nat):Int)).toNat=n:=Ω
  have j:((4294967295:Int) % ((2 ^ 64:Nat):Int)).toNat=2 ^ 32-1:=Φ
  rw[h,j,Nat.and_two_pow_sub_one_eq_mod];omega
 have p:(T1 U8.bits (n:Int) &&& T1 U8.bits 4294967295).toNat=n:=e;simp only[aJ,eqGuard,binOp,Op.intBits,p];rw[wrap_u64 Ω Ω];rfl
theorem pV {P:W9} (f:0<=a) (h1:a<4294967296):
  V P (aJ .shr t cx cy (.int .u64 a) (.int .u64 32)) w K=K (.int .u64 0):=V.of λw' _=>by
 have e:a.fdiv (2 ^ min 32 U8.bits)=0:=by
  have:(2:Int) ^ min 32 U8.bits=4294967296:=rfl;rw[this,Int.fdiv_eq_ediv_of_nonneg _ Ω];omega
 simp[aJ,eqGuard,binOp,Op.shift,e]
theorem I1 {x:Int} (f:0<=x/\x<65536) (e:0<=y/\y<65536):
  ai x7 Iq [.int .u64 x,.int .u64 y] w λv w'=>v= .tuple #[.int .u64 0,.int .u64 (x*y)]/\Ext w w':=by
 have j:0<=x*y/\x*y<4294967296:=⟨Int.mul_nonneg f.1 e.1,by
  have:x*y<=65535*65535:=Int.mul_le_mul Ω Ω e.1 Ω;omega⟩
 refine aw func242 ?_;refine ai.mono (K:=λv w'=>v= .tuple #[.int .u64 0,.int .u64 (x*y)]/\Ext w w') ?_ ?_
 .refine aw func257 ?_;rw[vi Ω Ω,pV Ω Ω,vi Ω Ω,pV Ω Ω];simp only[hQ,Int.zero_mul,Int.mul_zero];rw[wrap_u64 (x:=x*y) Ω Ω,show U8.wrap 0=0 from rfl,pV (a:=x*y) Ω Ω];simp only[aM,Int.add_zero];rw[show U8.wrap 0=0 from rfl,vi Ω Ω,pV Ω Ω];simp only[hQ,aM,Int.zero_mul,Int.mul_zero,Int.add_zero,show U8.wrap 0=0 from rfl];rw[pV Ω Ω];simp only[hQ,aM,Int.add_zero,show U8.wrap 0=0 from rfl];exact⟨trivial,Ext.refl _⟩
 .rintro _ J _ ⟨rfl,h⟩;rw[bu,bw];exact⟨rfl,h⟩
theorem zP {eH:x1} {c:Int} (h:aF .i64 w eH [c]) (X:n<65536):
  ai x7 Ia [eH,Δ n] w λv w'=>Ext w w'/\ ∃g,w.heap.size<=g/\ap .i64 ak w' g v (p9 n c):=by
 refine aw func212 ?_;refine dm (λJ=>w=J) ?_ ?_
 .rintro _ rfl;rw[aX an.u h,e3 ag.u oE.u,e3 ag.u oE.u,wrap_u64 Ξ Ξ,wrap_u64 Ω Ω];refine (I1 (x:=([c].length:Int)) Ξ Ω).mono ?_;rintro _ w2 _ ⟨rfl,z⟩;rw[bu,bw];have G:(([c].length:Int)*n)=(n:Int):=Ξ
  rw[G];refine dm (λa=>w2=a) ?_ ?_
  .rintro _ rfl;rw[e3 oE.u ag.u,wrap_i64 Ω Ω];refine kk an.u ak.i Ω Ω ?_;intro g Y Z H I;have A:=z.trans H;have ab:=z.size;refine zA an.u ak.i I (o:=0) (λ_=>rfl) Ξ (h.ext A) (pU _ _) ?_;intro ac K ad B;have L:=A.then K (by rintro r M rfl;omega);have st:over (ints .i64 (p9 n 0)) 0 ((ints .i64 [c]).take n)=ints .i64 (p9 (min 1 n) c++p9 (n-min 1 n) 0):=by
    rcases Q3 n with rfl|e
    .simp[over]
    .rw[o9 Θ,mo Θ];have:min 1 n=1:=Ω
     simp[this,ints]
   rw[st] at B;refine⟨λt f=>Ext w f/\ ∃i:Nat,t=Δ i/\i<=n/\(0<n->0<i)/\aa f g ak (ints .i64 (p9 i c++p9 (n-i) 0)),λt _=>n-(b1 t).toNat,
    ⟨L,min 1 n,Ξ,Ω,Ω,B⟩,?_⟩
   rintro _ f ⟨p,i,rfl,hi,ae,q⟩;simp only[h9 an.u,aQ,ah,ei];refine⟨λN O s _ _=>?_,λaf=>?_⟩
   .have N:i<n:=Ω
    have C:=q.ext s;rw[iG an.u ak.i (l:=i) (h:=n) (m:=n) r3 kj gj Ω Ω Ω,
     iG an.u ak.i (l:=0) (h:=i) (m:=n) ki r4 gj Ω Ω Ω]
    have P:b7 O 1 (.slice (σ ⟨g,0,ν⟩) n n) n (ints .i64 (p9 i c++p9 (n-i) 0)):=(bV.full C (by simp<;>omega) (by simp[maxLen]<;>omega)).sl;have e:=P.part (l:=0) (h:=i) (m:=n) Ω Ω Ω Ω;have Q:((ints .i64 (p9 i c++p9 (n-i) 0)).drop (0*1)).take ((i-0)*1)=ints .i64 (p9 i c):=by
     simp[ints]
    rw[Q] at e;refine zA an.u ak.i C (o:=i) (λ_=>?_) (by simp<;>omega) e (pU _ _) ?_
    .rw[if_neg Ω];simp[S2]
    .intro aj R al E;have am:=p.size;have ao:=s.size;have S:over (ints .i64 (p9 i c++p9 (n-i) 0)) i ((ints .i64 (p9 i c)).take (n-i))=ints .i64 (p9 (i+min i (n-i)) c++p9 (n-(i+min i (n-i))) 0):=by
      apply Y6;intro j;rw[oG _ _ _ (by simp[ints]<;>omega)];simp only[ints,j6,List.map_replicate,List.getElem?_append,List.getElem?_take,List.getElem?_replicate,j5,List.length_replicate]
      repeat' split
      all_goals first|rfl|omega
     rw[S] at E;have U:min (i-0) (n-i)=min i (n-i):=Ω
     simp only[aM,U];have V:X7.wrap ((i:Int)+((min i (n-i):Nat):Int))=((i+min i (n-i):Nat):Int):=by rw[wrap_i64 Ω Ω];omega
     rw[V];refine⟨⟨(p.trans s).then R (by rintro r M rfl;omega),_,rfl,Ω,Ω,E⟩,?_⟩;simp only[b1,r8];omega
   .have:i=n:=Ω
    subst this;rw[U7,List.replicate_zero,W7] at q;exact⟨p,g,Ω,ap.of (n:=i) (bV.full q Ξ (by simp[maxLen];omega))⟩
  .intro au y;refine aT (λv a=>v= .bool false/\w2=a) ?_ ?_
   .rintro _ _ ⟨rfl,rfl⟩;rw[aW];exact y _ rfl
   .intro aq W;simp only[bS,ah];refine⟨λh=>Ω,λ_=>W _ _ ⟨?_,rfl⟩⟩;rw[decide_eq_false];omega
 .intro au y;simp only[aQ,ah];exact⟨λh=>Ω,λ_=>y _ rfl⟩
def leads (v:x1) (r:Nat):Prop:=∃a n c,v= .slice (σ a) n c/\a.block=r
theorem bU {g:Nat} (h:ap k e w g v l) {r:Nat} (f:leads v r):r=g/\g<w.heap.size:=by
 obtain⟨a,n,c,rfl,rfl⟩:=f;obtain⟨_,⟨h,_⟩|⟨cap,cs,h,j,_⟩⟩:=h
 .cases h
 .cases h;exact⟨rfl,j.lt⟩
theorem bq {g:Nat} (h:ap k e w g v l) (a:ae S w w') (f:∀r,leads v r->¬S r):ap k e w' g v l:=by
 refine⟨h.1,h.2.imp id λ⟨cap,cs,h1,j,p⟩=>⟨cap,cs,h1,j.U a (f g ⟨_,_,_,h1,rfl⟩),p⟩⟩
def dd (w:x3) (g a:Nat) (sv:x1) (ac:Λ) (k:Int) (cs:Λ):Prop:=
 (∃aY gs,aa w g cX [sv,Δ k,aY]/\ap .i64 ag w gs sv ac/\ap .i64 ak w a aY cs)/\(g≠a/\¬leads sv a/\aK ac<=4096)/\b2 ac/\cs.length=(aK ac).toNat
theorem dd.ext {g e:Nat} {k:Int} {cs:Λ} (h:dd w g e sv ac k cs) (a:Ext w w'):dd w' g e sv ac k cs:=by
 obtain⟨⟨aY,gs,h1,f,j⟩,p⟩:=h;exact⟨⟨aY,gs,h1.ext a,f.ext a,j.ext a⟩,p⟩
def zQ (w:x3) (l:Λ) (k a:Int) (v:x1) (w':x3):Prop:=
 Ext w w'/\
  (¬b2 l->v= .tuple #[.pointer ν,Δ 1])/\
  (b2 l->4096<aK l->v= .tuple #[.pointer ν,Δ 5])/\
  (b2 l->aK l<=4096->¬cv a k->v= .tuple #[.pointer ν,Δ 3])/\
  (b2 l->aK l<=4096->cv a k-> ∃g e sv,v= .tuple #[Γ g,Δ 0]/\w.heap.size<=g/\w.heap.size<=e/\(∀r,leads sv r->w.heap.size<=r)/\
   dd w' g e sv l k (p9 (aK l).toNat a))
theorem vj {k A:Int} (h:aF .i64 w sv l):ai x7 HJ [sv,Δ k,Δ A] w (zQ w l k A):=by
 refine aw func166 ?_;refine (I0 h).mono ?_;rintro v J _ ⟨L,Y,Z,aa⟩;obtain⟨aL,e,rfl,ab,he⟩:∃ (aL:x1) (e:Int),v= .tuple #[.agg #[aL],Δ e]/\aL.oneCell'=true/\
   ((e=1/\¬b2 l)\/(e=5/\b2 l/\4096<aK l)\/(e=0/\b2 l/\aK l<=4096/\ ∃g,w.heap.size<=g/\ap .i64 ag J g aL l)):=by
  by_cases I:b2 l
  .by_cases z:aK l<=4096
   .obtain⟨g,aL,rfl,h1,M⟩:=aa I z;exact⟨aL,0,rfl,M.ls.cells.2,.inr (.inr ⟨rfl,I,z,g,h1,M⟩)⟩
   .exact⟨_,_,Z I Ω,rfl,.inr (.inl ⟨rfl,I,Ω⟩)⟩
  .exact⟨_,_,Y I,rfl,.inl ⟨rfl,I⟩⟩
 rw[bu,bw];refine bt bA.i λaN w2 aO ac ad=>?_;refine bT (vs:=[aL]) bA.i rfl rfl (by intro u hu;simp at hu;subst hu;exact ab) ad ?_;intro ae af aP aj;have N:Ext J ae:=ac.then af (by rintro r j rfl;omega);have O:=L.trans N;simp only[bE,ah];refine⟨λal=>⟨O,?_⟩,λaQ=>?_⟩
 .rcases he with⟨rfl,B⟩|⟨rfl,I,z⟩|⟨rfl,_⟩
  .exact⟨λ_=>rfl,λh=>absurd h B,λh=>absurd h B,λh=>absurd h B⟩
  .exact⟨λh=>absurd I h,λ_ _=>rfl,λ_ h=>Ω,λ_ h=>Ω⟩
  .exact absurd rfl al
 .obtain⟨rfl,I,z,gs,aR,hm⟩:e=0/\b2 l/\aK l<=4096/\ ∃g,w.heap.size<=g/\ap .i64 ag J g aL l:=by
   rcases he with⟨rfl,B⟩|⟨rfl,I,z⟩|h
   .omega
   .omega
   .exact h
  have aS:=prod_bound I;refine jJ.mono ?_;rintro _ aT _ ⟨rfl,E⟩;have P:=O.trans E;simp only[bF,b0];refine⟨λao=>⟨P,λh=>absurd I h,λ_ h=>Ω,λ_ _ _=>rfl,λ_ _ h=>by simp[h] at ao⟩,λaq=>?_⟩;have au:cv A k:=by simpa using aq
  simp only[cr,ei];intro Q G _ _;have ax:=P.trans G;have C:=(N.trans E).trans G;have R:=(aj.ext E).ext G;rw[bx bA.p bA.i rfl R.range,bx bA.p bA.i rfl R.range];have aU:=L.size;have aV:=C.size;have S:((aK l).toNat:Int)=aK l:=Ω
  have U:∀ {x:x3} {s:x1} {y:Nat},Ext Q x->Q.heap.size<=y->ap .i64 ak x y s (p9 (aK l).toNat A)->
    V x7 (Instr.build cX #[(0,.agg #[aL]),(1,Δ k),(2,s)]) x λay=>av x7 (Instr.box cX ay) x λaz W=>zQ w l k A (.tuple #[az,Δ 0]) W:=by
   intro x s y q X j;rw[dq (cs:=#[aL,Δ k,s]) (by
    obtain⟨_,_,_,_,_,rfl,_⟩:=j.ls;obtain⟨_,_,_,_,_,rfl,_⟩:=hm.ls;kernel_rfl)]
   refine bn λg W aW H aA=>?_;have aX:=q.size;have aB:leads s y:=by
    obtain⟨aY,⟨_,aC⟩|⟨cap,cs,rfl,_⟩⟩:=j
    .simp at aC;omega
    .exact⟨_,_,_,rfl,rfl⟩
   have aZ:=(bU j aB).2;refine⟨(ax.trans q).trans H,λh=>absurd I h,λ_ h=>Ω,λ_ _ h=>absurd au h,λ_ _ _=>⟨g,y,aL,rfl,Ω,Ω,λr aD=>?_,⟨s,gs,aA,((hm.ext C).ext q).ext H,j.ext H⟩,⟨Ω,λaE=>?_,z⟩,I,Ξ⟩⟩
   .have:=(bU hm aD).1;omega
   .have:=bU hm aE;omega
  constructor
  .refine ej an.u ak.i rfl λeH am aG aH a K=>⟨.inl a,?_⟩;refine (oI ((hm.ext C).ext a).ls I).mono ?_;rintro _ aI _ ⟨rfl,f⟩;refine⟨.inl (a.trans f),?_⟩;rw[<-S];refine (zP (K.ext f).ls Ω).mono ?_;rintro s x _ ⟨q,y,X,j⟩;have aJ:=a.size;have aM:=f.size;exact⟨.inl ((a.trans f).trans q),U ((a.trans f).trans q) Ω j⟩
  .refine (oI (hm.ext C).ls I).mono ?_;rintro _ aG _ ⟨rfl,a⟩;refine⟨.inl a,?_⟩;refine ej an.u ak.i rfl λeH am aI aH f K=>⟨.inl (a.trans f),?_⟩;rw[<-S];refine (zP K.ls Ω).mono ?_;rintro s x _ ⟨q,y,X,j⟩;have aJ:=a.size;have aM:=f.size;exact⟨.inl ((a.trans f).trans q),U ((a.trans f).trans q) Ω j⟩
theorem nC {g:Nat} {a:List x1} {o:Nat} (h:aa w g e cs) (f:∀j v,a[j]? =σ v->cs[o+j]? =σ v):w.rangeAt g o a:=λj v p=>h.cell (f j v p)
theorem zR {g f:Nat} {t:Λ} {k:Int} {cs:Λ} (h:dd w g f sv ac k cs) (q:aF .i64 w aL t):
  ai x7 If [Γ g,aL] w λv w'=>v=kX ac t/\Ext w w':=by
 obtain⟨⟨aY,gs,r,hm,s⟩,_,I,_⟩:=h;refine aw func217 ?_;rw[dp eQ.u];simp only[Z7,aW];rw[bW,aP cX.p rfl,bx (cs:=[sv]) bA.p bA.i rfl (nC r (by
  intro j v a
  match j,a with
  |0,a=>exact a))]
 refine (zM hm.ls q I).mono ?_;rintro _ J _ ⟨rfl,e⟩;unfold kX;cases cH ac t 0 with
 |none=>rw[bu,bw];exact⟨rfl,e⟩
 |some n=>rw[bu,bw];exact⟨rfl,e⟩
def oJ (ac t cs:Λ):x1:=match cH ac t 0 with
 |some n=>.tuple #[Δ (cs.getD n.toNat 0),Δ 0]
 |none=>.tuple #[Δ 0,Δ 3]
theorem zS {t cs:Λ} {n:Int} (I:b2 ac) (a:cs.length=(aK ac).toNat) (h:cH ac t 0=σ n):n=(n.toNat:Int)/\n.toNat<cs.length:=by
 have:=nB I.2 h;simp only[Int.zero_mul,Int.zero_add,Int.one_mul] at this;omega
theorem vk {g f:Nat} {t:Λ} {k:Int} {cs:Λ} (h:dd w g f sv ac k cs) (j:aF .i64 w aL t):
  ai x7 H6 [Γ g,aL] w λv w'=>v=oJ ac t cs/\Ext w w':=by
 refine aw func202 ?_;refine (zR h j).mono ?_;rintro _ J _ ⟨rfl,a⟩;obtain⟨⟨aY,gs,q,hm,r⟩,_,I,s⟩:=h.ext a;unfold kX oJ;cases hi:cH ac t 0 with
 |none=>
  rw[bu,bw];simp only[bE,ah];exact⟨λ_=>⟨trivial,a⟩,λh=>by simp at h⟩
 |some n=>
  obtain⟨x,e⟩:=zS I s hi;rw[bu,bw];simp only[bE,ah];refine⟨λh=>absurd rfl h,λ_=>?_⟩;rw[aO cX.p 2 q rfl,
   fA x an.u ak.i Ψ r.ls (x6 e)]
  refine⟨?_,a⟩;rw[u4,x6 e];rfl
def sf (ac t:Λ) (k c:Int) (cs:Λ):Λ:=match cH ac t 0 with
 |some n=>if cv c k then cs.set n.toNat c else cs
 |none=>cs
def zT (ac t:Λ) (k c:Int):Int:=match cH ac t 0 with
 |some _=>if cv c k then 0 else 3
 |none=>3
theorem I2 {g f:Nat} {t:Λ} {k c:Int} {cs:Λ} (h:dd w g f sv ac k cs) (C:aF .i64 w aL t):
  ai x7 HL [Γ g,aL,Δ c] w λv w'=>v=Δ (zT ac t k c)/\ae (λr=>r=f) w w'/\dd w' g f sv ac k (sf ac t k c cs):=by
 refine aw func168 ?_;refine (zR h C).mono ?_;rintro _ J _ ⟨rfl,a⟩;have h1:=h.ext a;obtain⟨⟨aY,gs,e,hm,j⟩,_,I,q⟩:=h1;unfold kX zT sf;cases hi:cH ac t 0 with
 |none=>
  rw[bu,bw];simp only[bE,ah];exact⟨λ_=>⟨trivial,a.U _,h.ext a⟩,λh=>by simp at h⟩
 |some n=>
  obtain⟨P,Q⟩:=zS I q hi;rw[bu,bw];simp only[bE,ah];refine⟨λh=>absurd rfl h,λ_=>?_⟩;rw[aO cX.p 1 e rfl];refine jJ.mono ?_;rintro _ w2 _ ⟨rfl,s⟩;have y:=(h.ext a).ext s;by_cases z:cv c k
  .simp only[z,decide_true,bF,Y5,aW,if_true];obtain⟨⟨aY,gs,e,hm,j⟩,⟨E,A⟩,I,q⟩:=y;have R:=j;obtain⟨S,⟨rfl,V⟩|⟨cap,full,rfl,G,H,K,L,B⟩⟩:=j
   .omega
   .rw[aO cX.p 2 e rfl,
     zw (i:=n) an.u ak.i Ω Ω (λ_=>rfl)]
    refine bo ak.i rfl rfl G Ω ?_;intro W x X M;refine⟨trivial,((a.trans s).U _).trans x,⟨_,gs,e.U x Ω,bq hm x (λr N O=>A.1 (O▸N)),?_⟩,⟨E,A⟩,I,by simp[q]⟩;refine⟨Ξ,.inr ⟨cap,full.set (0+n.toNat*1) (Δ c),?_,M,by simpa using H,K,by simpa using L,?_⟩⟩
    .simp
    .simp only[Z5,W0,T5] at B ⊢;rw[List.take_set,B,ints,ints,U9]
  .simp only[z,decide_false,bF,V0,bO,if_false];exact⟨trivial,(a.trans s).U _,y⟩
def cw (b:Int):Bool:=decide (b=32\/b=9\/b=10\/b=13)
def bM (b:Int):Bool:=decide (33<=b/\b<=126)
def nD:Nat->Λ->List (Λ)×Bool
 |0,_=>([],true)
 |n+1,p=>
  match p.dropWhile cw with
  |[]=>([],true)
  |b::q=>
   if bM b then
    match (b::q).dropWhile bM with
    |[]=>([(b::q).takeWhile bM],true)
    |c::r=>if cw c then (((b::q).takeWhile bM)::(nD n (c::r)).1,(nD n (c::r)).2) else ([],false)
   else ([],false)
def lex (p:Λ):List (Λ)×Bool:=nD (p.length+1) p
theorem oK (f:Int->Bool):∀ (l:Λ),(l.dropWhile f).length<=l.length
 |[]=>o4 _
 |x::l=>by
  rw[List.dropWhile_cons];split
  .exact X0 (oK f l) (Nat.le_succ _)
  .exact o4 _
theorem sg {f:Int->Bool} {x:Int} (h:f x=true):((x::l).dropWhile f).length<=l.length:=by
 rw[List.dropWhile_cons,if_pos h];exact oK f l
theorem zU:∀ {n m:Nat} {p:Λ},p.length<n->p.length<m->nD n p=nD m p
 |n+1,m+1,p,j,hm=>by
  unfold nD;have h1:=oK cw p;cases f:p.dropWhile cw with
  |nil=>rfl
  |cons b q=>
   rw[f] at h1;simp only;by_cases a:bM b=true
   .rw[if_pos a,if_pos a];have e:=sg (l:=q) a;cases h:(b::q).dropWhile bM with
    |nil=>rfl
    |cons c r=>
     rw[h] at e;simp only[b8] at h1 e;simp only;rw[zU (n:=n) (m:=m) (p:=c::r) (by rw[b8];omega) (by rw[b8];omega)]
   .rw[if_neg a,if_neg a]
theorem ko (p:Λ):lex p=match p.dropWhile cw with
  |[]=>([],true)
  |b::q=>
   if bM b then
    match (b::q).dropWhile bM with
    |[]=>([(b::q).takeWhile bM],true)
    |c::r=>if cw c then (((b::q).takeWhile bM)::(lex (c::r)).1,(lex (c::r)).2) else ([],false)
   else ([],false):=by
 unfold lex
 conv=>lhs;unfold nD
 have h1:=oK cw p;cases f:p.dropWhile cw with
 |nil=>rfl
 |cons b q=>
  rw[f] at h1;simp only;by_cases a:bM b=true
  .rw[if_pos a,if_pos a];have e:=sg (l:=q) a;cases h:(b::q).dropWhile bM with
   |nil=>rfl
   |cons c r=>
    rw[h] at e;simp only[b8] at h1 e;simp only;rw[zU (n:=p.length) (m:=(c::r).length+1) (p:=c::r) (by rw[b8];omega) Ω]
  .rw[if_neg a,if_neg a]
theorem oL:∀ (n:Nat) (p:Λ),p.length<=n->(lex p).1.length<=p.length
 |n,p,s=>by
  rw[ko];have h1:=oK cw p;cases h:p.dropWhile cw with
  |nil=>simp
  |cons b q=>
   rw[h] at h1;simp only;by_cases a:bM b=true
   .rw[if_pos a];have e:=sg (l:=q) a;cases j:(b::q).dropWhile bM with
    |nil=>simp only[b8,List.length_nil] at h1 ⊢;omega
    |cons c r=>
     rw[j] at e;simp only[b8] at h1 e;simp only;by_cases f:cw c=true
     .rw[if_pos f]
      match n with
      |0=>omega
      |n+1=>
       have:=oL n (c::r) (by rw[b8];omega);simp only[b8] at this ⊢;omega
     .rw[if_neg f];simp
   .rw[if_neg a];simp
theorem sh:∀ (n:Nat) (p:Λ),p.length<=n-> ∀w∈(lex p).1,w≠[]/\(∀b∈w,bM b=true)/\w.length<=p.length
 |n,p,B,w,hw=>by
  rw[ko] at hw;have h1:=oK cw p;cases e:p.dropWhile cw with
  |nil=>rw[e] at hw;simp at hw
  |cons b q=>
   rw[e] at h1 hw;simp only at hw;have z:(b::q).length<=p.length:=h1;by_cases a:bM b=true
   .rw[if_pos a] at hw;have f:=sg (l:=q) a;have j:(b::q).takeWhile bM≠[]/\(∀x∈(b::q).takeWhile bM,bM x=true)/\((b::q).takeWhile bM).length<=p.length:=
     ⟨by rw[List.takeWhile_cons,if_pos a];simp,λx A=>List.all_takeWhile (l:=b::q) (p:=bM) |> List.all_eq_true.1 |> λh=>h x A,X0 (List.takeWhile_sublist _).length_le z⟩
    cases s:(b::q).dropWhile bM with
    |nil=>
     rw[s] at hw;simp only[n9] at hw;subst hw;exact j
    |cons c r=>
     rw[s] at f hw;simp only[b8] at h1 f;simp only at hw;by_cases y:cw c=true
     .rw[if_pos y] at hw;rcases V1.1 hw with rfl|hw
      .exact j
      .match n with
       |0=>omega
       |n+1=>
        have:=sh n (c::r) (by rw[b8];omega) w hw;exact⟨this.1,this.2.1,X0 this.2.2 (by rw[b8];omega)⟩
     .rw[if_neg y] at hw;simp at hw
   .rw[if_neg a] at hw;simp at hw
def ao:Int:=4611686018427387904
def gm (b:Int):Bool:=decide (48<=b/\b<=57)
def eW (n b:Int):Int:=min ao (10*n+(b-48))
def kp:Λ->Option Int
 |[]=>ν
 |l=>if l.all gm then σ (l.foldl eW 0) else ν
def gn:Λ->Option Int
 |45::l=>(kp l).map λn=>-n
 |l=>kp l
theorem I3 {n b:Int} (e:0<=n) (a:gm b=true):0<=eW n b/\eW n b<=ao:=by
 have a:=of_decide_eq_true a;unfold eW ao;omega
theorem si:∀ {l:Λ} {n:Int},l.all gm=true->0<=n/\n<=ao->0<=l.foldl eW n/\l.foldl eW n<=ao
 |[],n,_,a=>a
 |b::l,n,h,a=>by
  rw[List.all_cons,T0] at h;exact si (l:=l) h.2 (I3 a.1 h.1)
structure aA where
 toks:List (Λ)
 told:Int
 big:Bool
 shared:List (Λ×List (Λ×Int))
deriving DecidableEq
def dK (s:aA):Option (Λ×aA):=match s.toks with
 |[]=>ν
 |w::l=>σ (w,{s with toks:=l})
def bc (lo hi:Int) (s:aA):Option (Int×aA):=match dK s with
 |none=>ν
 |some (w,s)=>match gn w with
  |none=>ν
  |some n=>if lo<=n/\n<=hi then σ (n,s) else ν
def a6 (b:Bool) (s:aA):aA:={s with big:=s.big||b}
def cK {α:Type} (f:List α->aA->Option (α×aA)):Nat->List α->aA->Option (List α×aA)
 |0,acc,s=>σ (acc,s)
 |n+1,acc,s=>match f acc s with
  |none=>ν
  |some (a,s)=>cK f n (acc++[a]) s
def eR (n:Int) (a:Nat) (s:aA):Option (Λ×aA):=cK (λacc s=>match bc 0 (n-1) s with
 |none=>ν
 |some (v,s)=>if v∈acc then ν else σ (v,s)) a [] s
def iI:Λ->Λ->aA->Option (Λ×aA)
 |[],acc,s=>σ (acc,s)
 |k::l,acc,s=>match bc 0 (k-1) s with
  |none=>ν
  |some (v,s)=>iI l (acc++[v]) s
def dT (sizes:Λ) (acc:List (Λ×Int)) (s:aA):Option ((Λ×Int)×aA):=match iI sizes [] s with
 |none=>ν
 |some (t,s)=>match bc 0 ao s with
  |none=>ν
  |some (c,s)=>if t∈acc.map (·.1) then ν else σ ((t,c),s)
def dB (sizes:Λ) (s:aA):Option (List (Λ×Int)×aA):=match bc (-ao) ao s with
 |none=>ν
 |some (n,s)=>
  if n<0 then match s.shared[(-n-1).toNat]? with
   |none=>ν
   |some (z,l)=>if z=sizes then σ (l,s) else ν
  else cK (dT sizes) n.toNat [] (a6 (decide (16384<min (s.told+n) ao)) {s with told:=min (s.told+n) ao})
def dr (sizes:Λ):Bool:=decide (4096<aK (sizes.map λk=>min k 4097))
structure ch where
 scope:Λ
 sizes:Λ
 other:Int
 lines:List (Λ×Int)
deriving DecidableEq
def cY (all:Λ) (s:aA):Option (ch×aA):=match bc (-ao) ao s with
 |none=>ν
 |some (a,s)=>match eR all.length a.natAbs s with
  |none=>ν
  |some (scope,s)=>
   let sizes:=scope.map λv=>all.getD v.toNat 0
   match bc 0 ao (a6 (decide (6<a.natAbs)||dr sizes) s) with
   |none=>ν
   |some (other,s)=>match dB sizes s with
    |none=>ν
    |some (lines,s)=>σ (⟨scope,sizes,other,lines⟩,if a<0 then {s with shared:=s.shared++[(sizes,lines)]} else s)
def e5 (most:Int) (_:Λ) (s:aA):Option (Int×aA):=match bc 1 most s with
 |none=>ν
 |some (z,s)=>σ (z,a6 (decide (32<z)) s)
structure bZ where
 name:Λ
 k:Int
 sizes:Λ
 funs:List ch
deriving DecidableEq
def gY (s:aA):Option (bZ×aA):=match dK s with
 |none=>ν
 |some (name,s)=>match bc 1 ao (a6 (decide (64<name.length)) s) with
  |none=>ν
  |some (n,s)=>match bc 1 ao (a6 (decide (64<n)) s) with
   |none=>ν
   |some (most,s)=>match bc 0 ao s with
    |none=>ν
    |some (a,s)=>match bc 1 ao (a6 (decide (256<a)) s) with
     |none=>ν
     |some (k,s)=>match cK (e5 most) n.toNat [] (a6 (decide (2147483648<k)) s) with
      |none=>ν
      |some (sizes,s)=>match cK (λ_ s=>cY sizes s) a.toNat [] s with
       |none=>ν
       |some (funs,s)=>σ (⟨name,k,sizes,funs⟩,s)
def fh (p:Λ):Option bZ:=if 65536<p.length then ν else match gY ⟨(lex p).1,0,false,[]⟩ with
 |none=>ν
 |some (f,s)=>if s.toks=[]/\(lex p).2=true/\s.big=false then σ f else ν
def mu (n:Int) (a:Bool) (v:Int):Prop:=0<=n/\n<=4611686018427387909/\(a=true->v=ao)/\(a=false->v=min ao n)
theorem I4 {n b v:Int} {a:Bool} (h:mu n a v) (q:48<=b/\b<=57):
  mu (if a=true\/461168601842738790<n then n else 10*n+(b-48)) (a||decide (461168601842738790<n)) (eW v b):=by
 obtain⟨h1,f,j,p⟩:=h;unfold eW mu ao at*;cases a with
 |true=>
  have:=j rfl;rw[if_pos (.inl rfl)];exact⟨h1,f,λ_=>Ω,λh=>by cases h⟩
 |false=>
  have:=p rfl;by_cases e:461168601842738790<n
  .rw[if_pos (.inr e),decide_eq_true e];exact⟨h1,f,λ_=>Ω,λh=>by cases h⟩
  .rw[if_neg (by simp[e]),decide_eq_false e];exact⟨Ω,Ω,(λh=>by cases h),λ_=>Ω⟩
theorem I5:mu 0 false 0:=by unfold mu ao;exact⟨Ω,Ω,(λh=>by cases h),λ_=>Ω⟩
theorem I6 {n v:Int} {a:Bool} (h:mu n a v):v=if a=true\/4611686018427387904<n then 4611686018427387904 else n:=by
 obtain⟨h1,p,f,j⟩:=h;unfold ao at*;cases a with
 |true=>rw[if_pos (.inl rfl)];exact f rfl
 |false=>
  have:=j rfl;by_cases e:4611686018427387904<n
  .rw[if_pos (.inr e)];omega
  .rw[if_neg (by simp[e])];omega
structure Cell where
 v:Int
 st:Nat
structure kZ where
 i:Nat
 c:Cell
structure sj where
 olds:Nat
 cells:Nat
 st:Nat
structure aC where
 cells:List Cell
 olds:List kZ
 marks:List sj
 iJ:Nat
def aC.bD (t:aC):Λ:=t.cells.map (·.v)
def aC.set (t:aC) (i:Nat) (x:Int):aC:=match t.cells[i]? with
 |none=>t
 |some c=>match t.marks.getLast? with
  |none=>{t with cells:=t.cells.set i ⟨x,c.st⟩}
  |some m=>if c.st<m.st/\i<m.cells then {t with olds:=t.olds++[⟨i,c⟩],cells:=t.cells.set i ⟨x,m.st⟩} else {t with cells:=t.cells.set i ⟨x,c.st⟩}
def aC.grow (t:aC) (n:Nat):aC:={t with cells:=t.cells++p9 n ⟨0,0⟩}
def back (os:List kZ) (cs:List Cell):List Cell:=os.foldr (λo cs=>cs.set o.i o.c) cs
theorem pW:∀ (os:List kZ) (cs:List Cell),(back os cs).length=cs.length
 |[],_=>rfl
 |o::os,cs=>by
  have:=pW os cs;show ((back os cs).set o.i o.c).length=_;rw[Z5,this]
theorem back_append (a b:List kZ) (cs:List Cell):back (a++b) cs=back a (back b cs):=by unfold back;rw[List.foldr_append]
theorem vl:∀ {os:List kZ} {cs:List Cell} {n:Nat},(back os cs).take n=back (os.filter λo=>decide (o.i<n)) (cs.take n)
 |[],cs,n=>rfl
 |o::os,cs,n=>by
  show ((back os cs).set o.i o.c).take n=_;by_cases h:o.i<n
  .rw[List.filter_cons_of_pos (by simpa using h),List.take_set,vl];rfl
  .rw[List.filter_cons_of_neg (by simpa using h),List.take_set_of_le Ω,vl]
theorem zV {os:List kZ} {cs:List Cell} (h:∀o∈os,o.i<n):(back os cs).take n=back os (cs.take n):=by
 rw[vl,List.filter_eq_self.2 λo a=>by simpa using h o a]
theorem zW:∀ {os:List kZ} {cs a:List Cell} {i:Nat},cs.length=a.length->(∃o∈os,o.i=i)->(back os cs)[i]? =(back os a)[i]?
 |[],_,_,_,_,⟨_,h,_⟩=>by cases h
 |o::os,cs,a,i,f,hm=>by
  show ((back os cs).set o.i o.c)[i]? =((back os a).set o.i o.c)[i]?;rw[X6,X6];by_cases h:o.i=i
  .rw[if_pos h,if_pos h,pW,pW,f]
  .rw[if_neg h,if_neg h];obtain⟨x,e,he⟩:=hm;rcases V1.1 e with rfl|e
   .exact absurd he h
   .exact zW f ⟨x,e,he⟩
theorem zX:∀ {os:List kZ} {cs a:List Cell} {i:Nat},cs[i]? =a[i]? ->cs.length=a.length->(back os cs)[i]? =(back os a)[i]?
 |[],_,_,_,h,_=>h
 |o::os,cs,a,i,h,e=>by
  show ((back os cs).set o.i o.c)[i]? =((back os a).set o.i o.c)[i]?;rw[X6,X6,pW,pW,e,zX h e]
def en:aC->List aC->Prop
 |t,[]=>t.marks=[]/\t.olds=[]/\ ∀c∈t.cells,c.st<=t.iJ
 |t,s::h=>en s h/\(∀c∈t.cells,c.st<=t.iJ)/\ ∃m new,t.marks=s.marks++[m]/\m.olds=s.olds.length/\m.cells=s.cells.length/\t.olds=s.olds++new/\m.cells<=t.cells.length/\(back new t.cells).take m.cells=s.cells/\
   (∀c∈s.cells,c.st<m.st)/\(∀c∈t.cells,c.st<=m.st)/\(∀ (i:Nat) c,i<m.cells->t.cells[i]? =σ c->c.st=m.st-> ∃o∈new,o.i=i)/\(∀o∈new,o.i<m.cells)/\m.st<=t.iJ/\s.iJ<=t.iJ
theorem en.grow {h:List aC} {t:aC} (hk:en t h):en (t.grow n) h:=by
 cases h with
 |nil=>
  refine⟨hk.1,hk.2.1,λc a=>?_⟩;rcases l9.1 a with a|a
  .exact hk.2.2 c a
  .rw[(List.mem_replicate.1 a).2];exact X8 _
 |cons s h=>
  obtain⟨h1,j,m,new,p,q,a3,a4,a5,r,w,x,a9,e,y,z⟩:=hk;have f:∀ {b:Nat},(∀c∈t.cells,c.st<=b)-> ∀c∈(t.grow n).cells,c.st<=b:=λA c a=>by
   rcases l9.1 a with a|a
   .exact A c a
   .rw[(List.mem_replicate.1 a).2];exact X8 _
  refine⟨h1,f j,m,new,p,q,a3,a4,by show m.cells<=(t.cells++_).length;rw[p8];omega,?_,w,f x,λi c hi a he=>?_,e,y,z⟩
  .show (back new (t.cells++_)).take m.cells=_;rw[zV e,List.take_append_of_le_length a5,<-zV e];exact r
  .have a:(t.cells++p9 n ⟨0,0⟩)[i]? =σ c:=a;rw[Y8 Ω] at a;exact a9 i c hi a he
theorem I7 {s:aC} {m:sj} {l:List sj} (h:l=s.marks++[m]):l.getLast? =σ m:=by rw[h,List.getLast?_concat]
theorem en.set {h:List aC} {t:aC} {i:Nat} {x:Int} (hk:en t h):en (t.set i x) h:=by
 unfold aC.set;cases q:t.cells[i]? with
 |none=>exact hk
 |some c=>
  have F:=(x4.1 q).1;have y:=x5 q;have r:∀ {b st:Nat},(∀c∈t.cells,c.st<=b)->st<=b-> ∀d∈t.cells.set i ⟨x,st⟩,d.st<=b:=λM B d a=>by
   rcases W3 a with a|rfl
   .exact M d a
   .exact B
  cases h with
  |nil=>
   obtain⟨h1,w,G⟩:=hk;simp only[h1,List.getLast?_nil];exact⟨rfl,w,r G (G c y)⟩
  |cons s h=>
   obtain⟨h1,w,m,new,C,H,a3,a4,a5,I,J,z,a9,K,E,L⟩:=hk;simp only[I7 C];by_cases A:c.st<m.st/\i<m.cells
   .rw[if_pos A];refine⟨h1,r w E,m,new++[⟨i,c⟩],C,H,a3,by show t.olds++_=_;rw[a4,c9],by show m.cells<=(t.cells.set i _).length;rw[Z5];exact a5,?_,J,r z (o4 _),λj d e a he=>?_,λo p=>?_,E,L⟩
    .show (back (new++[⟨i,c⟩]) (t.cells.set i _)).take m.cells=_;rw[back_append];have:back [⟨i,c⟩] (t.cells.set i ⟨x,m.st⟩)=t.cells:=by
      show (t.cells.set i _).set i c=_;rw[List.set_set];refine Y6 λj=>?_;rw[X6];by_cases e:i=j
      .subst e;rw[if_pos rfl,if_pos F,q]
      .rw[if_neg e]
     rw[this];exact I
    .have a:(t.cells.set i ⟨x,m.st⟩)[j]? =σ d:=a;by_cases f:i=j
     .exact⟨⟨i,c⟩,Ξ,f⟩
     .rw[X6,if_neg f] at a;obtain⟨o,p,he⟩:=a9 j d e a he;exact⟨o,List.mem_append_left _ p,he⟩
    .rcases l9.1 p with p|p
     .exact K o p
     .rw[n9.1 p];exact A.2
   .rw[if_neg A];refine⟨h1,r w (w c y),m,new,C,H,a3,a4,by show m.cells<=(t.cells.set i _).length;rw[Z5];exact a5,?_,J,r z (z c y),λj d e a he=>?_,K,E,L⟩
    .rw[<-I];show (back new (t.cells.set i _)).take m.cells=_;refine Y6 λj=>?_;by_cases e:j<m.cells
     .rw[X4 e,X4 e];by_cases f:i=j
      .subst f;have B:c.st=m.st:=by
        have:=z c y;have:¬c.st<m.st:=λay=>A ⟨ay,e⟩;omega
       exact zW (by rw[Z5]) (a9 i c e q B)
      .exact zX (by rw[X6,if_neg f]) (by rw[Z5])
     .rw[Z4 (by rw[j5];omega),Z4 (by rw[j5];omega)]
    .have a:(t.cells.set i ⟨x,c.st⟩)[j]? =σ d:=a;by_cases f:i=j
     .subst f;rw[X6,if_pos rfl,if_pos F] at a;cases a;exact a9 i c e q he
     .rw[X6,if_neg f] at a;exact a9 j d e a he
theorem aC.pX {t:aC} {i:Nat} {x:Int}:(t.set i x).bD=t.bD.set i x:=by
 unfold aC.set aC.bD;cases a:t.cells[i]? with
 |none=>rw[List.set_eq_of_length_le (by rw[u7];exact S4.1 a)]
 |some c=>
  simp only;cases t.marks.getLast? with
  |none=>simp only;rw[U9]
  |some m=>simp only;split<;>rw[U9]
theorem aC.I8 {t:aC}:(t.grow n).bD=t.bD++p9 n 0:=by
 unfold aC.grow aC.bD;rw[j6,List.map_replicate]
end Go.Proofs.YtjjhhcfgfdepdaaGreatDoor
