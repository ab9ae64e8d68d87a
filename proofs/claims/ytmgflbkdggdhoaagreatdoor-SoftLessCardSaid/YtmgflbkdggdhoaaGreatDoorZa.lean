/- own texts, made small by a tool (wip/ holds them as they were written): no statement of the seat. -/
import Derived.RangeFuncNested
import Derived.RangeFuncLeaves
import Derived.OrdersIn
import Derived.KernelRfl
import Derived.Deep.Upon
import Derived.RangeFuncBound
import Derived.Deep.MidRow
import Derived.Laws.Cover3
import Derived.Laws.Pointers
import Derived.Laws.StructEq
import Derived.Laws.Tables
import Derived.Below
import Derived.Laws.MakeOwn
import Derived.Lib.Overlaps
import Derived.Lib.AppendZerosOnto
import Derived.Lib.SliceRun
import Derived.OpenShut
import Derived.Lib.ConvBytes
import Derived.Laws.BytesArg
import Derived.Laws.Concat
import Derived.MapKept
import Derived.Carry
import Derived.WideKeyArr
import Derived.WideKeyMaps
import Derived.Laws.IdiomRangeMap
import Derived.Shelf.SlSortCmp.NoneTotal
import Derived.Shelf.SlSortCmp.WholeK
import Derived.Ground.SlsfProg
import Derived.WideKeyEntry
import Derived.WalkKit
import Derived.Test.YtmgflbkdggdhoaaGreatDoorProg
import Derived.Test.YtmgflbkdggdhoaaGreatDoorChecked
set_option linter.unusedVariables false
set_option linter.unusedSimpArgs false
set_option linter.unnecessarySimpa false
open Array renaming getElem?_eq_some_iff→o8,getElem?_toList→S5
open BitVec renaming ofInt→U5
open Bool renaming not_true→Y7,not_false→W5,and_eq_true→V0,or_eq_false_iff→T4
open Decidable renaming not_not→Z9
open Go renaming Value→x1,World→x3,TypeId→r8,IntKind→o4,Builtin→Z0,Program→W0,Oper→U8,Operand→S2,FuncId→R4
open Go.Addr renaming add_mid→T1
open Go.Builtin renaming append_→b8,len_→W6
open Go.Instr renaming loadAt→u4,fieldAt→u5,storeAt→o6,indexAt→j5,extract→Z4,buildSlice→Y0,sliceAt→V3,alloc→R7
open Go.IntKind renaming i64→X2,u64→U1
open Go.Proofs.Tryz renaming prog→x7
open Go.Result renaming andThen→X9
open Go.Sem renaming run_bind→X8,run_pure→W7
open Go.Sort renaming Holds→S4
open Go.Value renaming int→W8
open Go.World renaming putObj_heap_other→R6
open Int renaming toNat_natCast→u6,eq_ofNat_of_zero_le→U4,le_refl→T2
open List renaming getElem?_eq_some_iff→x4,mem_of_getElem?→x5,getElem?_eq_getElem→x6,getElem?_map→x8,getD_eq_getElem?_getD→v8,length_map→u7,take_add_one→u9,replicate→r9,length_append→p9,take_length→o5,mem_append→o7,mem_singleton→o9,mem_map→n9,length_take→l9,take_of_length_le→j9,length_cons→c7,eq_nil_of_length_eq_zero→c8,getElem?_set_self→c9,map_append→b6,length_set→Z2,getElem?_eq_none→Z6,getElem?_take_of_lt→Z7,range→Z8,getElem?_append_left→Y1,getElem?_set_ne→Y2,getElem?_set→Y3,getElem?_append_right→Y4,ext_getElem?→Y6,mem_or_eq_of_mem_set→X6,drop_eq_getElem_cons→X7,length_eq_one_iff→W3,mem_cons→W9,map_set→V7,append_nil→U2,map_cons→U6,foldl_cons→U7,append_assoc→T0,set_append_right→T3,getElem_mem→T9,mem_of_mem_take→S3
open Nat renaming le_refl→p8,le_trans→Y9,zero_add→X0,zero_le→X3,mul_le_mul_right→X4,sub_self→V6,mul_one→V8,add_mul→V9,beq→T5,add_assoc→S9,lt_of_lt_of_le→R8,eq_zero_or_pos→Q0
open Option renaming toList_some→l7,isNone_some→b9,map_some→Z3,getD_some→V1,map→V4
open Option.some renaming injEq→Y8
open Prod.mk renaming injEq→S0
set_option maxHeartbeats 16000000
open Option renaming some→σ,none→ν
abbrev Λ:=List Int
namespace Go
theorem Ω{p:Prop}(h:p:=by omega):p:=h
theorem Ψ{p:Prop}(h:p:=by kernel_rfl):p:=h
theorem Φ{p:Prop}(h:p:=by decide):p:=h
theorem Ξ{p:Prop}(h:p:=by simp):p:=h
theorem Θ{p:Prop}(h:p:=by simp;omega):p:=h
abbrev Γ(n:Nat):Value:=.pointer (some ⟨n,0,none⟩)
abbrev Δ:Int→Value:=Value.int .i64
end Go
variable {a y:Int}{c w w':x3}{S:Nat->Prop}{N h j m n:Nat}{aL f sv v z:x1}{args cs vs xs:List x1}{K:x1->Prop}{aj l:Λ}{D:List Nat}{k:o4}{e t:r8}{cx cy:Bool}
namespace Go.Vc
open Go Go.RowKit
def fm:Obj->Bool
 | .loop _=>false
 | .deferred _=>false
 | .mapIter ..=>false
 |_=>true
def book:Obj->Bool
 | .loop _=>true
 | .deferred _=>true
 |_=>false
theorem xM {o:Obj} (h:book o=true):fm o=false:=by cases o<;>first|rfl|cases h
def ra:Obj->Bool
 | .mapIter ..=>true
 |_=>false
theorem EY {o:Obj} (h:ra o=true):fm o=false:=by cases o<;>first|rfl|cases h
structure Ext (w w':x3):Prop where
 size:w.heap.size<=w'.heap.size
 aZ:∀ (r:Nat) (o:Obj),w.heap[r]? =σ o->fm o=true->w'.heap[r]? =σ o
theorem Ext.refl (w:x3):Ext w w:=⟨p8 _,λ_ _ h _=>h⟩
theorem Ext.trans {a b:x3} (h:Ext a b) (k:Ext b c):Ext a c:=
 ⟨Y9 h.size k.size,λr o e J=>k.aZ r o (h.aZ r o e J) J⟩
structure ah (S:Nat->Prop) (w w':x3):Prop where
 size:w.heap.size<=w'.heap.size
 aZ:∀ (r:Nat) (o:Obj),w.heap[r]? =σ o->fm o=true->¬S r->w'.heap[r]? =σ o
theorem Ext.ab (S:Nat->Prop) (h:Ext w w'):ah S w w':=⟨h.size,λr o a J _=>h.aZ r o a J⟩
theorem ah.ext (h:ah S w w') (e:∀r,r<w.heap.size->¬S r):Ext w w':=
 ⟨h.size,λr o a J=>h.aZ r o a J (e r (o8.1 a).1)⟩
theorem ah.refl (S:Nat->Prop) (w:x3):ah S w w:=⟨p8 _,λ_ _ h _ _=>h⟩
theorem ah.trans {a b:x3} (h:ah S a b) (k:ah S b c):ah S a c:=
 ⟨Y9 h.size k.size,λr o f J e=>k.aZ r o (h.aZ r o f J e) J e⟩
theorem ah.mono {T:Nat->Prop} {a b:x3} (h:ah S a b) (f:∀r,r<a.heap.size->S r->T r):ah T a b:=
 ⟨h.size,λr o e J j=>h.aZ r o e J λm=>j (f r (o8.1 e).1 m)⟩
theorem Ext.then {a b:x3} (h:Ext a b) (k:ah S b c) (f:∀r,r<a.heap.size->¬S r):Ext a c:=
 ⟨Y9 h.size k.size,λr o e J=>k.aZ r o (h.aZ r o e J) J (f r (o8.1 e).1)⟩
def jm (w w':x3):Prop:=w'.tape=w.tape/\w.drawn<=w'.drawn
theorem jm.jS (h:w'.tape=w.tape:=by rfl) (k:w'.drawn=w.drawn:=by rfl):jm w w':=⟨h,Nat.le_of_eq k.symm⟩
theorem jm.trans {a b:x3} (k:jm b c) (h:jm a b):jm a c:=⟨k.1.trans h.1,Y9 h.2 k.2⟩
structure cL (w w':x3):Prop where
 os:w'.os=w.os
 tape:jm w w'
 output:w'.output=w.output
 size:w.heap.size<=w'.heap.size
 aZ:∀ (r:Nat) (o:Obj),w.heap[r]? =σ o->fm o=false->w'.heap[r]? =σ o
structure cB (n:Nat) (w w':x3):Prop where
 os:w'.os=w.os
 tape:jm w w'
 output:w'.output=w.output
 size:w.heap.size<=w'.heap.size
 aZ:∀ (r:Nat) (o:Obj),w.heap[r]? =σ o->book o=true->w'.heap[r]? =σ o
 old:∀ (r:Nat) (o:Obj),r<n->w.heap[r]? =σ o->fm o=false->w'.heap[r]? =σ o
theorem cL.b (h:cL w w'):cB n w w':=⟨h.os,h.tape,h.output,h.size,λr o a J=>h.aZ r o a (xM J),λr o _ a J=>h.aZ r o a J⟩
theorem cB.refl (n:Nat) (w:x3):cB n w w:=⟨rfl,.jS,rfl,p8 _,λ_ _ h _=>h,λ_ _ _ h _=>h⟩
theorem cB.trans {a b:x3} (h:cB n a b) (k:cB n b c):cB n a c:=
 ⟨k.os.trans h.os,k.tape.trans h.tape,k.output.trans h.output,Y9 h.size k.size,λr o e J=>k.aZ r o (h.aZ r o e J) J,λr o f e J=>k.old r o f (h.old r o f e J) J⟩
theorem cB.ct (h:cB n w w') (e:w.heap.size<=n):cL w w':=
 ⟨h.os,h.tape,h.output,h.size,λr o a J=>h.old r o (R8 (o8.1 a).1 e) a J⟩
structure fo (n:Nat) (w w':x3):Prop where
 os:w'.os=w.os
 tape:jm w w'
 output:w'.output=w.output
 size:w.heap.size<=w'.heap.size
 old:∀ (r:Nat) (o:Obj),r<n->w.heap[r]? =σ o->fm o=false->w'.heap[r]? =σ o
theorem cB.o (h:cB n w w'):fo n w w':=⟨h.os,h.tape,h.output,h.size,h.old⟩
theorem cL.o (h:cL w w'):fo n w w':=⟨h.os,h.tape,h.output,h.size,λr o _ a J=>h.aZ r o a J⟩
theorem fo.mono (h:fo n w w') (hm:m<=n):fo m w w':=⟨h.os,h.tape,h.output,h.size,λr o a=>h.old r o (R8 a hm)⟩
theorem cB.xN {a b:x3} (h:cB n a b) (k:fo m b c) (hm:a.heap.size<=m):cB n a c:=
 ⟨k.os.trans h.os,k.tape.trans h.tape,k.output.trans h.output,Y9 h.size k.size,
  λr o e J=>k.old r o (R8 (o8.1 e).1 hm) (h.aZ r o e J) (xM J),
  λr o f e J=>k.old r o (R8 (o8.1 e).1 hm) (h.old r o f e J) J⟩
def eU (w w':x3):Prop:=∀ (r:Nat) (o:Obj),w.heap[r]? =σ o->ra o=true->w'.heap[r]? =σ o
theorem eU.refl (w:x3):eU w w:=λ_ _ h _=>h
theorem eU.trans {a b:x3} (h:eU a b) (k:eU b c):eU a c:=λr o e J=>k r o (h r o e J) J
theorem cL.jT (h:cL w w'):eU w w':=λr o a J=>h.aZ r o a (EY J)
abbrev fp:=Bool×Nat
theorem cL.refl (w:x3):cL w w:=⟨rfl,.jS,rfl,p8 _,λ_ _ h _=>h⟩
theorem cL.trans {a b:x3} (h:cL a b) (k:cL b c):cL a c:=
 ⟨k.os.trans h.os,k.tape.trans h.tape,k.output.trans h.output,Y9 h.size k.size,λr o e J=>k.aZ r o (h.aZ r o e J) J⟩
theorem rb (w:x3) (n:Nat):Ext w {w with drawn:=n}:=⟨p8 _,λ_ _ h _=>h⟩
theorem px (w:x3) (n:Nat) (h:w.drawn<=n):cL w {w with drawn:=n}:=⟨rfl,⟨rfl,h⟩,rfl,p8 _,λ_ _ h _=>h⟩
theorem py (w:x3) (o:Obj):Ext w {w with heap:=w.heap.push o}:=
 ⟨Ξ,λr o' h _=>by
  have a:=(o8.1 h).1;simp only[Array.getElem?_push];rw[if_neg Ω];exact h⟩
theorem pz (w:x3) (o:Obj):cL w {w with heap:=w.heap.push o}:=
 ⟨rfl,.jS,rfl,Ξ,λr o' h _=>by
  have a:=(o8.1 h).1;simp only[Array.getElem?_push];rw[if_neg Ω];exact h⟩
inductive ep where
 |v (x:x1)
 |b (c:Bool)
 |u
def ep.val:ep->x1
 | .v x=>x
 | .b c=>.bool c
 | .u=>undef
def ep.ofConst:x1->ep
 | .bool c=>.b c
 |x=>.v x
theorem ep.EZ (x:x1):(ep.ofConst x).val=x:=by cases x<;>rfl
abbrev Env:=List (Nat×ep)
def look:Env->Nat->Option ep
 |[],_=>ν
 |(s,x)::r,t=>bif T5 s t then σ x else look r t
def eC (e:Env):S2->Option ep
 | .tmp t=>look e t
 | .const x=>σ (ep.ofConst x)
 | .global g=>σ (.v (Γ g))
 | .func f=>σ (.v (.func (.func f) #[] #[]))
def cU (e:Env) (x:S2):x1:=
 match eC e x with
 |some y=>y.val
 |none=>undef
def known (e:Env):List S2->Bool
 |[]=>true
 |x::r=>(eC e x).isSome&&known e r
def S4 (N:Nat) (e:Env) (a:Act):Prop:=
 a.tmps.size=N/\ ∀t x,look e t=σ x->a.tmps.getD t undef=x.val
theorem S4.eC {e:Env} {a:Act} (h:S4 N e a) {x:S2} {y:ep} (I:Vc.eC e x=σ y):a.eval x=y.val:=by
 cases x with
 |tmp t=>exact h.2 t y I
 |const v=>simp[Vc.eC] at I;subst I;simp[Act.eval,ep.EZ]
 |global g=>simp[Vc.eC] at I;subst I;rfl
 |func f=>simp[Vc.eC] at I;subst I;rfl
theorem S4.eval {e:Env} {a:Act} (h:S4 N e a) {x:S2} (I:(Vc.eC e x).isSome=true):a.eval x=cU e x:=by
 obtain⟨y,f⟩:=Option.isSome_iff_exists.1 I;rw[h.eC f];simp[cU,f]
theorem tU {e:Env}:∀ {l:List S2},known e l=true-> ∀x∈l,(eC e x).isSome=true
 |[],_,_,I=>by cases I
 |y::r,h,x,I=>by
  simp only[known,V0] at h;cases I with
  |head=>exact h.1
  |tail _ I=>exact tU h.2 x I
def dR (e:Env) (d:Option Tmp) (x:ep):Env:=
 match d with
 |some t=>(t,x)::e
 |none=>e
def jn (N:Nat) (d:Option Tmp):Bool:=
 match d with
 |some t=>Nat.blt t N
 |none=>true
theorem S4.put {e:Env} {a:Act} (h:S4 N e a) {d:Option Tmp} (m:jn N d=true) {x:ep} (ac:x.val=v):
  S4 N (dR e d x) (a.put d v):=by
 cases d with
 |none=>exact h
 |some t=>
  have p:t<N:=by simpa[jn,Nat.blt_eq] using m
  refine⟨by simp[Act.put,h.1],λs y J=>?_⟩;simp only[dR,look] at J;cases f:T5 t s with
  |true=>
   have j:t=s:=Nat.eq_of_beq_eq_true f;subst j;simp only[f,cond_true,Y8] at J;subst J;simp[Act.put,h.1,p,ac]
  |false=>
   have j:t≠s:=Nat.ne_of_beq_eq_false f;simp only[f,cond_false] at J;have:=h.2 s y J;simp only[Act.put,Array.getD_eq_getD_getElem?] at this ⊢;rw[Array.getElem?_setIfInBounds_ne j];exact this
def ek (r:Option Nat):Fence:={Fence.wide with round:=r}
theorem tV (r:Option Nat) (n:Nat):(ek r).depth.isSome=true->1<=n:=λh=>by simp[ek,Fence.wide] at h
theorem xO {r:Option Nat} {P:W0} {f:R4} {args:Array x1} {R:Ending->x3->Prop}
  (h:Calls P f args w R):CallsIn (ek r) n P f args w R:=by
 have:=(callsIn_wide (n:=n)).2 h;exact this
section
variable (P:W0)
def aC {α:Type} (s:Sem α) (w:x3) (K:α->x3->Prop):Prop:=∃v w',s.run P w= .ok v w'/\cL w w'/\K v w'
def re {α:Type} (free:fp) (s:Sem α) (w:x3) (K:α->x3->Prop):Prop:=∃v w',s.run P w= .ok v w'/\(free.1=false->cB free.2 w w')/\K v w'
def Split (x:x1) (A B:Prop):Prop:=∃c,x= .bool c/\(c=true->A)/\(c=false->B)
def a7:Bool->S2
 |true=>.const (.bool true)
 |false=>.tmp 0
def ob:S2->Bool
 | .const _=>true
 |_=>false
theorem E0 (op:BinOp) (t:r8) (x y:S2) (a b:x1):eqGuard op t x y a b=eqGuard op t (a7 (ob x)) (a7 (ob y)) a b:=by
 cases x<;>cases y<;>rfl
def aJ (op:BinOp) (t:r8) (cx cy:Bool) (a b:x1):Sem x1:=do eqGuard op t (a7 cx) (a7 cy) a b;binOp op t a b
def rf (s:Sem Next):Sem x1:=do
 match <-s with
 | .value v=>pure v
 |_=>stuck "no value"
def bK (x:x1):Sem x1:=rf (execOp (λ_=>x) {dst:=ν,op:=.nilCheck (.tmp 0),type:=0,pos:= "",after:=#[],guard:=ν})
def bP (a:S2->x1):List S2->List x1
 |[]=>[]
 |x::r=>a x::bP a r
theorem rg (a:S2->x1):∀l,bP a l=l.map a
 |[]=>rfl
 |x::r=>by simp[bP,rg a r]
theorem tW (a:S2->x1) (l:Array S2):(bP a l.toList).toArray=l.map a:=by
 apply Array.toList_inj.1;simp[rg]
def partsOf (a:S2->x1):List (Nat×S2)->List (Nat×x1)
 |[]=>[]
 |x::r=>(x.1,a x.2)::partsOf a r
theorem xP (a:S2->x1):∀l,partsOf a l=l.map λ(i,x)=>(i,a x)
 |[]=>rfl
 |x::r=>by simp[partsOf,xP a r]
theorem E1 (a:S2->x1) (l:Array (Nat×S2)):(partsOf a l.toList).toArray=l.map λ(i,x)=>(i,a x):=by
 apply Array.toList_inj.1;simp[xP]
def opsOf:Op->List S2
 | .alloc _| .ready _| .waits _=>[]
 | .move x| .assign x| .box _ x| .load _ x| .nilCheck x| .unOp _ _ x| .convert _ _ x| .sliceToArrayPointer _ x| .makeInterface _ x
 | .makeChan _ x| .fieldAddr _ x _| .field _ x _| .range _ x| .next x _| .entry x| .typeAssert x _ _ _| .extract x _| .panic x| .recv _ x _=>[x]
 | .pick c a b=>[c,a,b]
 | .build _ e| .buildSlice _ _ e=>e.toList.map (·.2)
 | .store _ a v| .binOp _ _ a v _| .makeSlice _ a v| .indexAddr _ a v| .index _ a v| .lookup _ a v _| .mapEntry _ a v| .send a v=>[a,v]
 | .makeFunc _ first j=>first.toList++j.toList
 | .makeMap _ r=>match r with
  |some x=>[x]
  |none=>[]
 | .slice _ x l h m=>x::((match l with
  |some y=>[y]
  |none=>[])++((match h with
  |some y=>[y]
  |none=>[])++(match m with
  |some y=>[y]
  |none=>[])))
 | .mapUpdate _ m k v| .entryStore _ m k v| .insert _ m k v=>[m,k,v]
 | .call c=>match c.callee with
  | .value f=>f::c.args.toList
  | .invoke r _=>r::c.args.toList
  | .builtin _=>c.args.toList
 | .go _| .defer _| .select ..=>[]
theorem E2 {op:Op} (h1:∀c,op≠ .go c) (a:∀c,op≠ .defer c) (e:∀cs b,op≠ .select cs b):∀x∈op.operands,x∈opsOf op:=by
 intro x I;cases op<;>simp only[Op.operands,opsOf] at I ⊢<;>try (first|(simp at I;done)|(simp at I ⊢;exact I))
 case go c=>exact absurd rfl (h1 c)
 case defer c=>exact absurd rfl (a c)
 case select cs b=>exact absurd rfl (e cs b)
 case makeMap t r=>cases r<;>simp at I ⊢<;>exact I
 case slice t y l h m=>cases l<;>cases h<;>cases m<;>simpa[or_assoc] using I
 case call c=>cases f:c.callee<;>simpa[Call.operands,f] using I
def pA (e:S2->x1):Op->Option (Sem x1)
 | .pick c a b=>σ (do pure (if <-asBool (e c) then e a else e b))
 | .alloc j=>σ (R7 j true (.tuple #[]))
 | .box j x=>σ (Instr.box j (e x))
 | .build t parts=>σ (Instr.build t (partsOf e parts.toList).toArray)
 | .buildSlice t len parts=>σ (Y0 t len (partsOf e parts.toList).toArray)
 | .load t a=>σ (u4 t (e a))
 | .nilCheck x=>σ (bK (e x))
 | .binOp op hR x y _=>σ (aJ op hR (ob x) (ob y) (e x) (e y))
 | .unOp op _ x=>σ (Op.unary op (e x))
 | .convert src dst x=>σ (convert src dst (e x))
 | .makeInterface hR x=>σ (Instr.makeInterface hR (e x))
 | .makeFunc fn first p=>σ (Instr.makeFunc fn (bP e first.toList).toArray (bP e p.toList).toArray)
 | .makeMap t r=>σ (Instr.makeMap t (r.map e))
 | .makeSlice t l c=>σ (Instr.makeSlice t (e l) (e c))
 | .slice t x lo hi mx=>σ (V3 t (e x) (lo.map e) (hi.map e) (mx.map e))
 | .fieldAddr s x f=>σ (u5 s (e x) f)
 | .field hR x f=>σ (Instr.field hR (e x) f)
 | .indexAddr t x h=>σ (j5 t (e x) (e h))
 | .index hR x h=>σ (Instr.index hR (e x) (e h))
 | .lookup hR x h ok=>σ (Instr.lookup hR (e x) (e h) ok)
 | .mapEntry t m k=>σ (Instr.mapEntry t (e m) (e k))
 | .range hR x=>σ (Instr.range hR (e x))
 | .entry q=>σ (Instr.entry (e q))
 | .typeAssert x hR w ok=>σ (Instr.typeAssert (e x) hR w ok)
 | .extract t h=>σ (Z4 (e t) h)
 |_=>ν
def tX (e:S2->x1):Op->Option (Sem Unit)
 | .store t a x=>σ (o6 t (e a) (e x))
 | .mapUpdate t m k x=>σ (Instr.mapUpdate t (e m) (e k) (e x))
 | .insert t m k x=>σ (Instr.mapUpdate t (e m) (e k) (e x))
 | .entryStore t m s x=>σ (Instr.entryStore t (e m) (e s) (e x))
 |_=>ν
def oc (b:Z0) (ats:Array r8) (a:r8) (args:Array x1):Option (Sem x1):=
 match b with
 | .append=>σ (b8 ats a args)
 | .cap=>σ (Z0.cap_ ats a args)
 | .clear=>σ (Z0.clear_ ats a args)
 | .copy=>σ (Z0.copy_ ats a args)
 | .delete=>σ (Z0.delete_ ats a args)
 | .len=>σ (W6 ats a args)
 | .max=>σ (Z0.max_ ats a args)
 | .min=>σ (Z0.min_ ats a args)
 |_=>ν
theorem E3 {s:Sem Next} (h:(rf s).run P w= .ok v w'):s.run P w= .ok (.value v) w':=by
 unfold rf at h;rw[X8] at h;cases J:s.run P w with
 |halt x U=>rw[J] at h;simp[X9] at h
 |ok x U=>
  rw[J] at h;cases x<;>simp_all [X9,stuck,W7]
theorem E4 (x:x1) (b:Bool) (t:r8):Instr.next x b 0=Instr.next x b t:=rfl
theorem tY {f:S2->x1} {o:U8} {s:Sem x1} (h:pA f o.op=σ s) (a:s.run P w= .ok v w'):
  (execOp f o).run P w= .ok (.value v) w':=by
 cases e:o.op with
 |nilCheck x=>
  rw[e] at h;cases h;have:=E3 P a;unfold execOp at this ⊢;simpa[e] using this
 |pick c x y=>
  rw[e] at h;cases h;unfold execOp;simp only[e,X8,W7] at a ⊢;cases j:(asBool (f c)).run P w with
  |halt x U=>rw[j] at a;simp[X9] at a
  |ok x U=>rw[j] at a;simp only[X9,Result.ok.injEq] at a ⊢;simp[a]
 |binOp op hR x y m=>
  rw[e] at h;cases h;unfold execOp;simp only[e];unfold aJ at a;rw[<-E0] at a;simp only[X8,W7] at a ⊢;rw[a];rfl
 |_=>
  rw[e] at h
  first
   |(cases h;done)
   |(cases h;simp only[tW,E1] at a;unfold execOp;simp only[e,X8,a,X9,W7])
   |(cases h;unfold execOp;simp only[e,X8,a,X9,W7])
theorem E5 {a:S2->x1} {o:U8} {s:Sem Unit} (h:tX a o.op=σ s) {v:Unit} (f:s.run P w= .ok v w'):
  (execOp a o).run P w= .ok .skip w':=by
 cases e:o.op with
 |_=>
  rw[e] at h
  first
   |(cases h;done)
   |(cases h;unfold execOp;simp only[e,X8,f,X9,W7])
def Enters (f:R4):Prop:=∀args w,(callFunc f args).run P w= .ok (.enter f args) w
inductive am (f:R4) (args:List x1) (w:x3) (K:x1->x3->Prop):Prop
 |code (h1:Enters P f) (h2:Calls P f args.toArray w λe w'=>∃v,e= .returned v/\cL w w'/\K v w')
 |ext (v:x1) (w':x3) (h1:(callFunc f args.toArray).run P w= .ok (.value v) w') (h2:cL w w') (h3:K v w')
inductive gB (f:R4) (args:List x1) (w:x3) (K:x1->x3->Prop):Prop
 |code (h1:Enters P f) (h2:Calls P f args.toArray w λe w'=>∃v,e= .returned v/\K v w')
 |ext (v:x1) (w':x3) (h1:(callFunc f args.toArray).run P w= .ok (.value v) w') (h3:K v w')
theorem gB.calls {f:R4} {K:x1->x3->Prop} (h:gB P f args w K) (a:Enters P f):Calls P f args.toArray w λe w'=>∃v,e= .returned v/\K v w':=by
 cases h with
 |code _ h=>exact h
 |ext v w' h1=>rw[a] at h1;cases h1
def hA (l:Nat) (args:List x1) (w:x3) (K:x1->x3->Prop):Prop:=
 YieldAt Fence.wide 0 P l args.toArray w λe w'=>∃v,e= .returned v/\K v w'
theorem hA.mono {P:W0} {l:Nat} {K a:x1->x3->Prop} (h:hA P l args w K) (e:∀v w',K v w'->a v w'):hA P l args w a:=by
 obtain⟨fn,tmps,f,body,j,m⟩:=h;exact⟨fn,tmps,f,body,j,RoundIn.mono m λ_ w' ⟨v,h1,p⟩=>⟨v,h1,e v w' p⟩⟩
def rh (free:Bool) (f:x1) (args:List x1) (w:x3) (K:x1->x3->Prop):Prop:=
 match f with
 | .func (.func g) first cap=>bif free then gB P g (first.toList++args++cap.toList) w K else am P g (first.toList++args++cap.toList) w K
 | .func (.yield l) first _=>bif free then free=true/\hA P l (first.toList++args) w K else hA P l (first.toList++args) w λv w'=>cL w w'/\K v w'
 |_=>False
def aa (s:Sem x1) (w:x3) (K:x1->Prop):Prop:=∃v,(∀w',Ext w w'->s.run P w'= .ok v w')/\K v
def E6:List (Nat×Nat):=[(9,22),(22,22)]
def E7 (s d:Nat):Bool:=E6.any λp=>T5 p.1 s&&T5 p.2 d
def iJ (o:U8):Bool:=
 match o.op with
 | .convert s d _=>!E7 s d
 | .move _| .assign _| .pick .. | .load .. | .nilCheck _| .binOp .. | .unOp .. | .makeInterface .. | .makeFunc .. | .slice .. | .fieldAddr .. | .field ..
 | .indexAddr .. | .index .. | .lookup .. | .extract .. | .build .. | .typeAssert ..=>true
 | .call c=>
  match c.callee with
  | .builtin .len| .builtin .cap| .builtin .min| .builtin .max=>true
  |_=>false
 |_=>false
def cC (s:Sem x1) (v:x1) (w':x3):Prop:=∀a,Ext w' a->s.run P a= .ok v a
def lg (o:U8) (e:Env) (w:x3) (K:Env->(x3->Prop)->Prop):Prop:=
 bif known e (opsOf o.op) then
  match o.op with
  | .move x| .assign x=>
   match eC e x with
   |some y=>K (dR e o.dst y) (λ_=>True)
   |none=>False
  | .pick c a b=>
   match eC e c with
   |some (.b true)=>(match eC e a with|some y=>K (dR e o.dst y) (λ_=>True)|none=>False)
   |some (.b false)=>(match eC e b with|some y=>K (dR e o.dst y) (λ_=>True)|none=>False)
   |some (.v x)=>Split x (K (dR e o.dst (.v (cU e a))) (λ_=>True)) (K (dR e o.dst (.v (cU e b))) (λ_=>True))
   |some .u=>False
   |none=>False
  | .call c=>
   match c.callee with
   | .builtin b=>
    match oc b c.argTypes o.type (bP (cU e) c.args.toList).toArray with
    |some s=>aa P s w λv=>K (dR e o.dst (.v v)) (cC P s v)
    |none=>False
   |_=>False
  |op=>
   match pA (cU e) op with
   |some s=>aa P s w λv=>K (dR e o.dst (.v v)) (cC P s v)
   |none=>False
 else False
def tZ (free:fp) (o:U8) (e:Env) (w:x3) (K:Env->x3->Prop):Prop:=
 bif known e (opsOf o.op) then
  match o.op with
  | .call c=>
   match c.callee with
   | .builtin b=>
    match oc b c.argTypes o.type (bP (cU e) c.args.toList).toArray with
    |some s=>aC P s w λv w'=>K (dR e o.dst (.v v)) w'
    |none=>False
   | .value (.func f)=>
    bif free.1 then gB P f (bP (cU e) c.args.toList) w λv w'=>K (dR e o.dst (.v v)) w'
    else am P f (bP (cU e) c.args.toList) w λv w'=>K (dR e o.dst (.v v)) w'
   | .value x=>rh P free.1 (cU e x) (bP (cU e) c.args.toList) w λv w'=>K (dR e o.dst (.v v)) w'
   | .invoke _ _=>False
  | .next x str=>re P free (Instr.next (cU e x) str 0) w λv w'=>K (dR e o.dst (.v v)) w'
  |op=>
   match pA (cU e) op with
   |some s=>aC P s w λv w'=>K (dR e o.dst (.v v)) w'
   |none=>
    match tX (cU e) op with
    |some s=>aC P s w λ_ w'=>K (dR e o.dst (.v undef)) w'
    |none=>False
 else False
def od (free:fp) (o:U8) (e:Env) (w:x3) (K:Env->x3->Prop):Prop:=
 bif iJ o then lg P o e w (λa _=>K a w) else tZ P free o e w K
theorem Enters.of {f:R4} {fn:Func} {c:Code} (ae:P.funcs[f]? =σ fn) (a:fn.body=σ c) (e:(fn.name == "runtime.NumGoroutine")=false):Enters P f:=by
 intro args w;have h:fn.name≠ "runtime.NumGoroutine":=by simpa using e
 unfold callFunc;simp[X8,program,Sem.run,X9,ae,h,a,W7]
variable {P}
variable {N:Nat} {r:Option Nat} {o:U8} {e:Env} {a:Act} {w:x3}
theorem jU (f:S4 N e a) (hk:known e (opsOf o.op)=true) (J:∀cs b,o.op≠ .select cs b) (h:∀c,o.op≠ .go c:=by simp_all) (j:∀c,o.op≠ .defer c:=by simp_all):
  execOp a.eval o=execOp (cU e) o:=
 execOp_congr o J λx I=>f.eval (tU hk x (E2 h j J x I))
theorem pB {next:Act->x3->Prop} {Q:Exit->Act->x3->Prop} (j:S4 N e a) (hk:known e (opsOf o.op)=true) (J:∀cs b,o.op≠ .select cs b)
  (f:∀c,o.op≠ .defer c) {v:x1} {w':x3} (m:(execOp (cU e) o).run P w= .ok (.value v) w') (h:next (a.put o.dst v) w') (p:∀c,o.op≠ .go c:=by simp_all):o.wpIn (ek r) 0 P a w next Q:=by
 refine⟨λ_ _=>trivial,?_⟩;rw[U8.semAt_eq _ _ _ f,jU j hk J p f,m,U8.uponIn_value];exact h
theorem E8 {next:Act->x3->Prop} {Q:Exit->Act->x3->Prop} (j:S4 N e a) (hk:known e (opsOf o.op)=true) (J:∀cs b,o.op≠ .select cs b)
  (f:∀c,o.op≠ .defer c) {w':x3} (m:(execOp (cU e) o).run P w= .ok .skip w') (h:next (a.put o.dst undef) w') (p:∀c,o.op≠ .go c:=by simp_all):o.wpIn (ek r) 0 P a w next Q:=by
 refine⟨λ_ _=>trivial,?_⟩;rw[U8.semAt_eq _ _ _ f,jU j hk J p f,m,U8.uponIn_skip];exact h
def fc (N:Nat) (free:fp) (K:Env->x3->Prop) (o:U8) (a:Act) (w:x3) (a':Act) (w':x3):Prop:=
 ∃e v,K e w'/\S4 N e a'/\a'=a.put o.dst v/\(free.1=false->cB free.2 w w')
theorem fc.of {free:fp} {K:Env->x3->Prop} {x:ep} (f:K (dR e o.dst x) w') (h:S4 N e a) (j:jn N o.dst=true) (I:x.val=v)
  (m:free.1=false->cB free.2 w w'):fc N free K o a w (a.put o.dst v) w':=⟨_,v,f,h.put j I,rfl,m⟩
theorem xQ {free:fp} {K:Env->x3->Prop} {Q:Exit->Act->x3->Prop} {f:R4} {args:Array x1} (m:S4 N e a) (p:jn N o.dst=true)
  (h:Calls P f args w λj w'=>∃v,j= .returned v/\(free.1=false->cB free.2 w w')/\K (dR e o.dst (.v v)) w'):
  o.uponIn (ek r) 0 P a (fc N free K o a w) Q (.ok (.enter f args) w):=by
 rw[U8.uponIn_enter];refine⟨tV _ _,CallsIn.mono (xO h) ?_⟩;rintro j w' ⟨v,rfl,q,s⟩;exact fc.of s m p rfl q
theorem lh {x:S2} {y:ep} (h:eC e x=σ y):cU e x=y.val:=by simp[cU,h]
theorem xR {l:List S2} {x:S2} (hk:known e l=true) (I:x∈l):∃y,eC e x=σ y:=Option.isSome_iff_exists.1 (tU hk x I)
theorem xS {K:Env->(x3->Prop)->Prop} (h:lg P o e w K) (r:S4 N e a) (L:jn N o.dst=true):
  ∃v,∃st:x3->Prop,(∀w',Ext w w'->(execOp a.eval o).run P w'= .ok (.value v) w')/\(∃A,K A st/\S4 N A (a.put o.dst v))/\(∀c,o.op≠ .defer c)/\
   (∀w',st w'-> ∀j,Ext w' j->(execOp a.eval o).run P j= .ok (.value v) j):=by
 unfold lg at h;cases hk:known e (opsOf o.op) with
 |false=>rw[hk] at h;exact h.elim
 |true=>
  rw[hk] at h;simp only[cond_true] at h;have put:∀ {x:ep} {v:x1} {st:x3->Prop},K (dR e o.dst x) st->x.val=v-> ∃A,K A st/\S4 N A (a.put o.dst v):=λh1 B=>⟨_,h1,r.put L B⟩;cases f:o.op with
  |move x=>
   rw[f] at h;simp only at h;cases I:eC e x with
   |none=>rw[I] at h;exact h.elim
   |some y=>
    rw[I] at h;have all:∀w':x3,(execOp a.eval o).run P w'= .ok (.value y.val) w':=λw'=>by
     rw[jU r hk (by simp[f])];unfold execOp;simp only[f,W7,lh I]
    exact⟨y.val,_,λw' _=>all w',put h rfl,Ξ,λ_ _ j _=>all j⟩
  |assign x=>
   rw[f] at h;simp only at h;cases I:eC e x with
   |none=>rw[I] at h;exact h.elim
   |some y=>
    rw[I] at h;have all:∀w':x3,(execOp a.eval o).run P w'= .ok (.value y.val) w':=λw'=>by
     rw[jU r hk (by simp[f])];unfold execOp;simp only[f,W7,lh I]
    exact⟨y.val,_,λw' _=>all w',put h rfl,Ξ,λ_ _ j _=>all j⟩
  |pick c x y=>
   rw[f] at h;simp only at h;have E:=hk;rw[f] at E;obtain⟨Q,I⟩:=xR E (x:=x) (by simp[opsOf]);obtain⟨R,H⟩:=xR E (x:=y) (by simp[opsOf]);have C:∀ (t:Bool) (w':x3),cU e c= .bool t->(execOp a.eval o).run P w'= .ok (.value (if t=true then cU e x else cU e y)) w':=by
    intro t w' F;rw[jU r hk (by simp[f])];unfold execOp;simp[f,F,asBool,W7]
   cases p:eC e c with
   |none=>rw[p] at h;exact h.elim
   |some M=>
    rw[p] at h;cases M with
    |b t=>
     cases t with
     |true=>
      simp only[I] at h;exact⟨_,_,λw' _=>C true w' (lh p),put h (by simp[lh I]),Ξ,λ_ _ w' _=>C true w' (lh p)⟩
     |false=>
      simp only[H] at h;exact⟨_,_,λw' _=>C false w' (lh p),put h (by simp[lh H]),Ξ,λ_ _ w' _=>C false w' (lh p)⟩
    |v z=>
     obtain⟨t,O,F,ae⟩:=h;have q:=λw'=>C t w' (by rw[lh p];exact O);cases t with
     |true=>exact⟨_,_,λw' _=>q w',put (F rfl) rfl,Ξ,λ_ _ w' _=>q w'⟩
     |false=>exact⟨_,_,λw' _=>q w',put (ae rfl) rfl,Ξ,λ_ _ w' _=>q w'⟩
    |u=>exact h.elim
  |call c=>
   rw[f] at h;simp only at h;cases p:c.callee with
   |builtin b=>
    rw[p] at h;simp only at h;rw[tW] at h;cases J:oc b c.argTypes o.type (c.args.map (cU e)) with
    |none=>rw[J] at h;exact h.elim
    |some s=>
     rw[J] at h;obtain⟨v,q,G⟩:=h;have all:∀w':x3,s.run P w'= .ok v w'->(execOp a.eval o).run P w'= .ok (.value v) w':=λw' q=>by
      rw[jU r hk (by simp[f])];unfold execOp;cases b<;>simp only[oc] at J<;>first|(cases J;done)|(cases J;simp[f,p,resolve,invoke,builtin,q,X9])
     exact⟨v,_,λw' hw=>all w' (q w' hw),put G rfl,Ξ,λw' h1 j B=>all j (h1 j B)⟩
   |value x=>rw[p] at h;exact h.elim
   |invoke x m=>rw[p] at h;exact h.elim
  |_=>
   rw[f] at h
   first
    |(simp only[pA] at h;done)
    |(obtain⟨v,q,G⟩:=h
      refine⟨v,_,λw' hw=>?_,put G rfl,Ξ,λw' h1 j B=>?_⟩
      .rw[jU r hk (by simp[f])];exact tY P (by rw[f];rfl) (q w' hw)
      .rw[jU r hk (by simp[f])];exact tY P (by rw[f];rfl) (h1 j B))
theorem E9 {free:fp} {K:Env->x3->Prop} {Q:Exit->Act->x3->Prop} (h:tZ P free o e w K) (p:S4 N e a) (C:jn N o.dst=true):
  o.wpIn (ek r) 0 P a w (fc N free K o a w) Q:=by
 unfold tZ at h;cases hk:known e (opsOf o.op) with
 |false=>rw[hk] at h;exact h.elim
 |true=>
  rw[hk] at h;simp only[cond_true] at h;cases j:o.op with
  |call c=>
   rw[j] at h;simp only at h;cases E:c.callee with
   |builtin b=>
    rw[E] at h;simp only at h;rw[tW] at h;cases J:oc b c.argTypes o.type (c.args.map (cU e)) with
    |none=>rw[J] at h;exact h.elim
    |some s=>
     rw[J] at h;obtain⟨v,w',q,A,B⟩:=h;refine pB p hk (by simp[j]) (by simp[j]) (v:=v) (w':=w') ?_ (fc.of B p C rfl λ_=>A.b);unfold execOp;cases b<;>simp only[oc] at J<;>first|(cases J;done)|(cases J;simp[j,E,resolve,invoke,builtin,q,X9])
   |value x=>
    rw[E] at h;have step:∀ (d:Deferred) (y:x1),cU e x=y->Deferred.ofValue y (c.args.map (cU e))=pure d->
      (invoke d.target d.args).run P w=(execOp (cU e) o).run P w:=by
     intro d y z S;unfold execOp;simp only[j,E,resolve,z,S,X8,W7,X9]
    have H:∀ (g:R4) (first cap:Array x1),cU e x= .func (.func g) first cap->
      (execOp (cU e) o).run P w=(callFunc g (first.toList++bP (cU e) c.args.toList++cap.toList).toArray).run P w:=by
     intro g first cap z
     rw[<-step {target:=.fn (.func g) cap,args:=first++c.args.map (cU e)} _ z rfl];simp only[invoke];have I:first++c.args.map (cU e)++cap=(first.toList++bP (cU e) c.args.toList++cap.toList).toArray:=by apply Array.toList_inj.1;simp[rg]
     rw[I]
    have enter:∀ (g:R4) (first cap:Array x1),cU e x= .func (.func g) first cap->Enters P g->
      (execOp (cU e) o).run P w= .ok (.enter g (first.toList++bP (cU e) c.args.toList++cap.toList).toArray) w:=by
     intro g first cap z F
     rw[H g first cap z,F]
    have go:∀ (g:R4) (first cap:Array x1),cU e x= .func (.func g) first cap->
      (bif free.1 then gB P g (first.toList++bP (cU e) c.args.toList++cap.toList) w λv w'=>K (dR e o.dst (.v v)) w'
       else am P g (first.toList++bP (cU e) c.args.toList++cap.toList) w λv w'=>K (dR e o.dst (.v v)) w')->
      o.wpIn (ek r) 0 P a w (fc N free K o a w) Q:=by
     intro g first cap z h
     obtain⟨fr,T⟩:=free;cases fr with
     |true=>
      rcases h with⟨F,L⟩|⟨v,w',q,B⟩
      .refine⟨λ_ _=>trivial,?_⟩;rw[U8.semAt_eq _ _ _ (by simp[j]),jU p hk (by simp[j])];rw[enter g first cap z F];exact xQ p C (L.mono λG w' ⟨v,h1,M⟩=>⟨v,h1,(λh=>by cases h),M⟩)
      .rw[<-H g first cap z] at q;exact pB p hk (by simp[j]) (by simp[j]) q (fc.of B p C rfl λh=>by cases h)
     |false=>
      rcases h with⟨F,L⟩|⟨v,w',q,A,B⟩
      .refine⟨λ_ _=>trivial,?_⟩;rw[U8.semAt_eq _ _ _ (by simp[j]),jU p hk (by simp[j])];rw[enter g first cap z F];exact xQ p C (L.mono λG w' ⟨v,h1,A,M⟩=>⟨v,h1,λ_=>A.b,M⟩)
      .rw[<-H g first cap z] at q;exact pB p hk (by simp[j]) (by simp[j]) q (fc.of B p C rfl λ_=>A.b)
    have O:rh P free.1 (cU e x) (bP (cU e) c.args.toList) w (λv w'=>K (dR e o.dst (.v v)) w')->
      o.wpIn (ek r) 0 P a w (fc N free K o a w) Q:=by
     intro h;unfold rh at h;split at h
     .rename_i g first cap z
      exact go g first cap z h
     .rename_i l first cap z
      obtain⟨fn,tmps,R,body,U,V⟩:hA P l (first.toList++bP (cU e) c.args.toList) w λv w'=>(free.1=false->cB free.2 w w')/\K (dR e o.dst (.v v)) w':=by
       obtain⟨fr,T⟩:=free;cases fr with
       |true=>exact hA.mono h.2 λv w' hk=>⟨(λh=>by cases h),hk⟩
       |false=>exact hA.mono h λv w' hk=>⟨λ_=>hk.1.b,hk.2⟩
      refine⟨λ_ _=>trivial,?_⟩;rw[U8.semAt_eq _ _ _ (by simp[j]),jU p hk (by simp[j])];have:(execOp (cU e) o).run P w= .ok (.round l fn tmps R body) w:=by
       rw[<-step {target:=.fn (.yield l) cap,args:=first++c.args.map (cU e)} _ z rfl,<-U];have I:(first.toList++bP (cU e) c.args.toList).toArray=first++c.args.map (cU e):=by apply Array.toList_inj.1;simp[rg]
       rw[I];rfl
      rw[this,U8.uponIn_round];refine⟨tV _ _,?_⟩;have W:RoundIn (ek r) (0-1) P l fn tmps R body w λG w'=>∃v,G= .returned v/\(free.1=false->cB free.2 w w')/\K (dR e o.dst (.v v)) w':=V;refine RoundIn.mono W ?_;rintro G w' ⟨v,rfl,A,B⟩;exact fc.of B p C rfl A
     .exact h.elim
    cases x with
    |func f=>exact go f #[] #[] rfl (by simpa using h)
    |tmp t=>exact O h
    |const v=>exact O h
    |global g=>exact O h
   |invoke x m=>rw[E] at h;exact h.elim
  |next x str=>
   rw[j] at h;obtain⟨v,w',q,A,B⟩:=h;refine pB p hk (by simp[j]) (by simp[j]) (v:=v) (w':=w') ?_ (fc.of B p C rfl A);rw[E4 _ _ o.type] at q;unfold execOp;simp only[j,X8,q,X9,W7]
  |_=>
   rw[j] at h
   first
    |(simp only[pA,tX] at h;done)
    |(obtain⟨v,w',q,A,B⟩:=h
      exact pB p hk (by simp[j]) (by simp[j]) (tY P (by rw[j];rfl) q) (fc.of B p C rfl λ_=>A.b))
    |(obtain⟨v,w',q,A,B⟩:=h
      exact E8 p hk (by simp[j]) (by simp[j]) (E5 P (by rw[j];rfl) q) (fc.of B p C rfl λ_=>A.b))
theorem ri {free:fp} {K:Env->x3->Prop} {Q:Exit->Act->x3->Prop} (h:od P free o e w K) (j:S4 N e a) (m:jn N o.dst=true):
  o.wpIn (ek r) 0 P a w (fc N free K o a w) Q:=by
 unfold od at h;cases p:iJ o with
 |false=>rw[p] at h;exact E9 h j m
 |true=>
  rw[p] at h;have h:lg P o e w (λf _=>K f w):=h;obtain⟨v,st,q,⟨f,s,x⟩,y,_⟩:=xS h j m;refine⟨λ_ _=>trivial,?_⟩;rw[U8.semAt_eq _ _ _ y,q w (Ext.refl _),U8.uponIn_value];exact⟨f,v,s,x,rfl,λ_=>cB.refl _ _⟩
end
section
variable {P:W0}
def Still {α:Type} (P:W0) (s:Sem α):Prop:=∀w v U,s.run P w= .ok v U->U=w/\ ∀w',s.run P w'= .ok v w'
theorem Still.pure {α:Type} (a:α):Still P (Pure.pure a:Sem α):=λw v U h=>by
 rw[W7] at h;cases h;exact⟨rfl,λw'=>by rw[W7]⟩
theorem Still.bind {α β:Type} {s:Sem α} {f:α->Sem β} (J:Still P s) (ae:∀a,Still P (f a)):Still P (s >>= f):=λw v U h=>by
 rw[X8] at h;cases e:s.run P w with
 |halt x V=>rw[e] at h;simp[X9] at h
 |ok a V=>
  rw[e] at h;obtain⟨rfl,j⟩:=J w a V e;obtain⟨rfl,m⟩:=ae a _ v U h;exact⟨rfl,λw'=>by rw[X8,j w'];exact m w'⟩
theorem Still.never {α:Type} {s:Sem α} (h:∀w v U,s.run P w≠ .ok v U):Still P s:=λw v U h'=>absurd h' (h w v U)
theorem Still.stuck {α:Type} (m:String):Still P (stuck m:Sem α):=.never λw v U h=>by simp[Go.stuck] at h
theorem Still.unsupported {α:Type} (m):Still P (unsupported m:Sem α):=.never λw v U h=>by simp[Go.unsupported] at h
theorem Still.program:Still P program:=λw v U h=>by cases h;exact⟨rfl,λ_=>rfl⟩
theorem Still.underlying (t:r8):Still P (underlying t):=Still.bind .program λp=>by
 cases p.underlying t with
 |some d=>exact Still.pure d
 |none=>exact Still.stuck _
theorem Still.typeInfo (t:r8):Still P (typeInfo t):=Still.bind .program λp=>by
 cases p.info? t with
 |some d=>exact Still.pure d
 |none=>exact Still.stuck _
theorem Still.sizeOf (t:r8):Still P (sizeOf t):=Still.bind (.typeInfo t) λ_=>Still.pure _
theorem Still.boundsPanic {α:Type} (k:o4) (x y:Int) (c:BoundsCode):Still P (boundsPanic k x y c:Sem α):=.never λw v U h=>by
 have e:∀ (s:Sem Bool) (w:x3) (v:α) (U:x3),(s >>= λb=>(runtimePanic (.bounds (X2.wrap x) y b c):Sem α)).run P w≠ .ok v U:=by
  intro s w v U h;rw[X8] at h;cases f:s.run P w with
  |halt x V=>rw[f] at h;simp[X9] at h
  |ok a V=>rw[f] at h;simp[X9,Go.runtimePanic,Go.goPanic] at h
 unfold Go.boundsPanic at h;dsimp only at h;split at h
 .exact e _ _ _ _ h
 .exact e _ _ _ _ h
theorem Still.asIntOf (v:x1):Still P (asIntOf v):=by
 unfold Go.asIntOf;split
 .exact Still.pure _
 .exact Still.unsupported _
 .exact Still.stuck _
theorem Still.sureAddr (v:x1):Still P (Instr.sureAddr v):=by
 unfold Instr.sureAddr;split
 .exact Still.pure _
 .exact Still.stuck _
theorem Still.extract (v:x1) (i:Nat):Still P (Z4 v i):=by
 unfold Z4;split
 .split
  .exact Still.pure _
  .exact Still.stuck _
 .exact Still.stuck _
theorem Still.indexAt (t:r8) (x i:x1):Still P (j5 t x i):=by
 have tail:∀ (t:r8) (k:o4) (i:Int) (base:Option Addr) (len:Nat) (e:r8),Still P (do
   let f:=len<=1&&(match <-Go.underlying t with| .array ..=>true|_=>false)
   match base with
   |some a=>
    if 0<=i/\i<len then Pure.pure (x1.pointer (σ (a.add (i.toNat*(<-Go.sizeOf e)))))
    else if f then Go.unsupported (.noEntry "op/indexAddr.an index out of range at an array of length 0 or 1 (ledger 616)")
    else Go.boundsPanic k i len .index
   |none=>Go.boundsPanic k i 0 .index):=by
  intro t k i base len e;refine .bind (.underlying t) λd=>?_;cases base with
  |none=>exact Still.boundsPanic _ _ _ _
  |some a=>
   dsimp only;split
   .exact .bind (.sizeOf e) λ_=>.pure _
   .split<;>split<;>first|exact Still.unsupported _|exact Still.boundsPanic _ _ _ _
 unfold j5;refine .bind (.asIntOf i) λh=>?_;refine .bind (.underlying t) λd=>?_;split
 .refine .bind (.sureAddr _) λb=>?_;refine .bind (.pure _) λy=>?_;exact tail _ _ _ _ _ _
 .refine .bind (.pure _) λy=>?_;exact tail _ _ _ _ _ _
 .refine .bind (.stuck _) λy=>?_;exact tail _ _ _ _ _ _
end
section
variable (P:W0)
def rj (free:fp) (ops:Array U8) (o:U8) (e:Env) (w:x3) (K:Env->x3->Prop):Prop:=
 match o.guard with
 |none=>od P free o e w K
 |some (j,b)=>
  match (ops[j]?).bind (·.dst) with
  |none=>False
  |some s=>
   match look e s with
   |some (.b c)=>bif xor c b then K (dR e o.dst .u) w else od P free o e w K
   |some (.v x)=>
    Split x (bif b then od P free o ((s,.b true)::e) w K else K (dR ((s,.b true)::e) o.dst .u) w)
     (bif b then K (dR ((s,.b false)::e) o.dst .u) w else od P free o ((s,.b false)::e) w K)
   |some .u=>K (dR e o.dst .u) w
   |none=>False
def oe (free:fp) (ops:Array U8):List U8->Env->x3->(Env->x3->Prop)->Prop
 |[],e,w,K=>K e w
 |o::l,e,w,K=>rj P free ops o e w λa w'=>oe free ops l a w' K
def ua (ops:Array U8) (o:U8) (e:Env) (w:x3) (K:Env->(x3->Prop)->Prop):Prop:=
 match o.guard with
 |none=>lg P o e w K
 |some (j,b)=>
  match (ops[j]?).bind (·.dst) with
  |none=>False
  |some s=>
   match look e s with
   |some (.b c)=>bif xor c b then K (dR e o.dst .u) (λ_=>True) else lg P o e w K
   |some (.v x)=>
    Split x (bif b then lg P o ((s,.b true)::e) w K else K (dR ((s,.b true)::e) o.dst .u) (λ_=>True))
     (bif b then K (dR ((s,.b false)::e) o.dst .u) (λ_=>True) else lg P o ((s,.b false)::e) w K)
   |some .u=>K (dR e o.dst .u) (λ_=>True)
   |none=>False
def li (o:U8):Bool:=
 match o.op with
 | .move _| .assign _| .extract .. | .indexAddr ..=>true
 |_=>false
def l1 (ops:Array U8):List Nat->Option Nat
 |[]=>ν
 |i::r=>match ops[i]? with
  |some o=>bif iJ o then σ i else l1 ops r
  |none=>l1 ops r
def ub (p:Nat->Prop):List Nat->Prop
 |[]=>True
 |[i]=>p i
 |i::r=>p i/\ub p r
def kA (bs:Array Nat) (j k:Nat):Bool:=!(T5 k j)&&(!((bs.getD j 0).testBit k)&& !((bs.getD k 0).testBit j))
def pC (same:Bool) (q:Nat) (w:x3) (st:x3->Prop) (a:List (x3×List (Nat×(x3->Prop)))):List (x3×List (Nat×(x3->Prop))):=
 match same,a with
 |true,g::r=>(g.1,(q,st)::g.2)::r
 |_,a=>(w,[(q,st)])::a
def pD (bs:Array Nat) (j:Nat):List (Nat×(x3->Prop))->Bool
 |[]=>false
 |x::r=>kA bs j x.1||pD bs j r
def og (bs:Array Nat) (j:Nat) (w':x3):List (Nat×(x3->Prop))->Prop
 |[]=>True
 |x::r=>bif kA bs j x.1 then x.2 w'/\og bs j w' r else og bs j w' r
def mS (bs:Array Nat) (j:Nat) (w':x3) (C:Prop):List (x3×List (Nat×(x3->Prop)))->Prop
 |[]=>C
 |g::r=>bif pD bs j g.2 then (Ext g.1 w'\/og bs j w' g.2)/\mS bs j w' C r else mS bs j w' C r
def l2 (free:fp) (ops:Array U8) (bs:Array Nat):Nat->Array Bool->Bool->List (x3×List (Nat×(x3->Prop)))->Env->x3->(Env->x3->Prop)->Prop
 |0,a,_,_,e,w,K=>match Region.ready .any ops a with|[]=>K e w|_=>False
 |fuel+1,a,same,f,e,w,K=>
  match Region.ready .any ops a with
  |[]=>K e w
  |i::r=>
   match l1 ops (i::r) with
   |some q=>
    bif Region.free .any ops a q then
     match ops[q]? with
     |some o=>ua P ops o e w λh st=>
       bif li o then l2 free ops bs fuel (a.setIfInBounds q true) same f h w K
       else l2 free ops bs fuel (a.setIfInBounds q true) true (pC same q w st f) h w K
     |none=>False
    else False
   |none=>
    ub (λj=>match ops[j]? with
     |some o=>rj P free ops o e w λh w'=>mS bs j w' (l2 free ops bs fuel (a.setIfInBounds j true) false f h w' K) f
     |none=>False) (i::r)
def uc (free:fp) (ops:Array U8) (e:Env) (w:x3) (K:Env->x3->Prop):Prop:=
 bif Region.noSelect ops then l2 P free ops (Region.before ops) ops.size (Array.replicate ops.size false) false [] e w K else False
end
section
variable {P:W0} {N:Nat} {r:Option Nat} {free:fp} {ops:Array U8}
theorem Fa {e:Env} {a:Act} (m:S4 N e a) {s:Nat} {c:Bool} (p:(ops[j]?).bind (·.dst)=σ s) {x:ep} (J:look e s=σ x) (I:x.val= .bool c):
  yielded ops a.tmps j=σ c:=by
 have h:=m.2 s x J;rw[I] at h;have q:a.tmps[s]? =σ (.bool c):=by
  rw[Array.getD_eq_getD_getElem?] at h;cases f:a.tmps[s]? with
  |none=>rw[f] at h;simp[undef] at h
  |some y=>rw[f] at h;simpa using h
 simp[yielded,p,q]
theorem rk {e:Env} {a:Act} (f:S4 N e a) {o:U8} {s:Nat} {b c:Bool} (h:o.guard=σ (j,b)) (m:(ops[j]?).bind (·.dst)=σ s) {x:ep}
  (J:look e s=σ x) (I:x.val= .bool c):Region.wanted o (yielded ops a.tmps)= !(xor c b):=by
 simp only[Region.wanted,h,Fa f m J I];cases c<;>cases b<;>rfl
theorem xT {e:Env} {a:Act} (m:S4 N e a) {o:U8} {s:Nat} {b:Bool} (p:o.guard=σ (j,b)) (q:(ops[j]?).bind (·.dst)=σ s)
  (J:look e s=σ .u):Region.wanted o (yielded ops a.tmps)=false:=by
 have h:=m.2 s .u J;have r:yielded ops a.tmps j=ν:=by
  rw[Array.getD_eq_getD_getElem?] at h;unfold yielded;rw[q];cases f:a.tmps[s]? with
  |none=>simp[f]
  |some y=>
   rw[f] at h;simp only[V1,ep.val] at h;subst h;simp[f,undef]
 simp[Region.wanted,p,r]
theorem S4.lit {e:Env} {a:Act} (h:S4 N e a) {s:Nat} {x:ep} {c:Bool} (J:look e s=σ x) (I:x.val= .bool c):S4 N ((s,.b c)::e) a:=by
 refine⟨h.1,λt y f=>?_⟩;simp only[look] at f;cases j:T5 s t with
 |true=>
  have:s=t:=Nat.eq_of_beq_eq_true j;subst this;simp only[j,cond_true,Y8] at f;subst f;rw[h.2 s x J,I];rfl
 |false=>simp only[j,cond_false] at f;exact h.2 t y f
theorem xU {o:U8} {e:Env} {a:Act} {K:Env->x3->Prop} {Q:Exit->Act->x3->Prop} (h:rj P free ops o e w K) (f:S4 N e a) (m:jn N o.dst=true):
  (Region.wanted o (yielded ops a.tmps)=true/\o.wpIn (ek r) 0 P a w (fc N free K o a w) Q)\/
  (Region.wanted o (yielded ops a.tmps)=false/\fc N free K o a w (a.put o.dst undef) w):=by
 unfold rj at h;cases p:o.guard with
 |none=>rw[p] at h;exact .inl ⟨by simp[Region.wanted,p],ri h f m⟩
 |some B=>
  obtain⟨j,b⟩:=B;rw[p] at h;simp only at h;cases q:(ops[j]?).bind (·.dst) with
  |none=>rw[q] at h;exact h.elim
  |some s=>
   rw[q] at h;simp only at h;cases J:look e s with
   |none=>rw[J] at h;exact h.elim
   |some x=>
    rw[J] at h;cases x with
    |b c=>
     simp only at h;have hw:=rk f p q J (c:=c) rfl;cases I:xor c b with
     |true=>
      rw[I] at h hw;exact .inr ⟨hw,fc.of h f m rfl λ_=>cB.refl _ _⟩
     |false=>
      rw[I] at h hw;exact .inl ⟨hw,ri h f m⟩
    |v y=>
     simp only at h;obtain⟨c,rfl,z,ae⟩:=h;have hw:=rk f p q J (c:=c) rfl;have A:=f.lit J (c:=c) rfl;cases c with
     |true=>
      have z:=z rfl;cases b with
      |true=>exact .inl ⟨hw,ri z A m⟩
      |false=>exact .inr ⟨hw,fc.of z A m rfl λ_=>cB.refl _ _⟩
     |false=>
      have ae:=ae rfl;cases b with
      |true=>exact .inr ⟨hw,fc.of ae A m rfl λ_=>cB.refl _ _⟩
      |false=>exact .inl ⟨hw,ri ae A m⟩
    |u=>exact .inr ⟨xT f p q J,fc.of h f m rfl λ_=>cB.refl _ _⟩
def gC (D:List Nat) (a a':Act):Prop:=a'.defers=a.defers/\ ∀t,t∉D->a'.tmps.getD t undef=a.tmps.getD t undef
theorem gC.refl (D:List Nat) (a:Act):gC D a a:=⟨rfl,λ_ _=>rfl⟩
theorem gC.trans {a b c:Act} (h:gC D a b) (k:gC D b c):gC D a c:=⟨k.1.trans h.1,λt e=>(k.2 t e).trans (h.2 t e)⟩
theorem gC.put (a:Act) {d:Option Tmp} (v:x1) (e:∀t,d=σ t->t∈D):gC D a (a.put d v):=by
 cases d with
 |none=>exact gC.refl _ _
 |some s=>
  refine⟨rfl,λt f=>?_⟩;have j:s≠t:=λh=>f (h▸e s rfl);simp only[Act.put,Array.getD_eq_getD_getElem?];rw[Array.getElem?_setIfInBounds_ne j]
def l3 (N:Nat) (free:fp) (K:Env->x3->Prop) (D:List Nat) (a:Act) (w:x3) (a':Act) (w':x3):Prop:=
 ∃e,K e w'/\S4 N e a'/\gC D a a'/\(free.1=false->cB free.2 w w')
theorem l3.step {K:Env->x3->Prop} {a e a':Act} {U:x3} (h:l3 N free K D e U a' w') (hk:gC D a e) (f:free.1=false->cB free.2 w U):
  l3 N free K D a w a' w':=by
 obtain⟨j,h1,m,p,q⟩:=h;exact⟨j,h1,m,hk.trans p,λae=>(f ae).trans (q ae)⟩
def mT (N:Nat) (l:List U8):Bool:=l.all λo=>jn N o.dst
theorem Fb {K:Env->x3->Prop} {Q:Exit->Act->x3->Prop} (z:∀o∈ops.toList,∀t,o.dst=σ t->t∈D) (s:mT N ops.toList=true):
  ∀ (l:List U8) (k:Nat) (e:Env) (a:Act) (w:x3),(∀j,l[j]? =ops[k+j]?)->oe P free ops l e w K->S4 N e a->
   (∀a' w',l3 N free K D a w a' w'->Q .normal a' w')->wpOpsIn (ek r) 0 P ops Q (List.range' k l.length) a w:=by
 intro l;induction l with
 |nil=>
  intro k e a w _ h f m;exact m a w ⟨e,h,f,gC.refl _ _,λ_=>cB.refl _ _⟩
 |cons o l A=>
  intro k e a w x h f m;have p:=x 0;simp only[List.getElem?_cons_zero,Nat.add_zero] at p;have y:o∈ops.toList:=by
   have:=p.symm;rw[<-S5] at this;exact x5 this
  have B:jn N o.dst=true:=by
   simp only[mT,List.all_eq_true] at s;exact s o y
  have C:∀j,l[j]? =ops[k+1+j]?:=λj=>by
   have:=x (j+1);rw[List.getElem?_cons_succ] at this;rw[this];congr 1;omega
  have next:∀q U,fc N free (λE w'=>oe P free ops l E w' K) o a w q U->wpOpsIn (ek r) 0 P ops Q (List.range' (k+1) l.length) q U:=by
   rintro q U ⟨F,v,G,H,rfl,J⟩;refine A (k+1) F _ U C G H λa' w' L=>m a' w' (L.step (gC.put a v λt M=>z o y t M) J)
  simp only[oe] at h;show wpOpsIn (ek r) 0 P ops Q (k::List.range' (k+1) l.length) a w;unfold wpOpsIn;rw[<-p];simp only;rcases xU (r:=r) (Q:=Q) h f B with⟨hw,I⟩|⟨hw,I⟩
  .rw[if_pos hw];exact U8.wpIn_mono next I
  .rw[hw];exact⟨λ_ _=>trivial,next _ _ I⟩
theorem Fc {K:Env->x3->Prop} {Q:Exit->Act->x3->Prop} {id:Nat} {e:Env} {a:Act} (f:∀o∈ops.toList,∀t,o.dst=σ t->t∈D)
  (m:mT N ops.toList=true) (h:oe P free ops ops.toList e w K) (p:S4 N e a) (q:∀a' w',l3 N free K D a w a' w'->Q .normal a' w'):
  (Code.region id ops false).wpIn (ek r) 0 P Q a w:=by
 refine wpIn_region ?_;have:=Fb (r:=r) f m ops.toList 0 e a w (λj=>Ξ) h p q;rw[List.range_eq_range'];simpa using this
end
section
variable {P:W0} {N:Nat} {r:Option Nat} {free:fp} {ops:Array U8} {Q:Exit->Act->x3->Prop}
theorem Fe (e:Option Nat) (o:U8) (J:∀cs b,o.op≠ .select cs b) (a:Act) (d:Option Tmp) (v:x1) (h:∀t,d=σ t->t∉o.looksAt ops):
  o.semAt e (a.put d v).eval=o.semAt e a.eval:=by
 have he:=execOp_put o J a d v h;unfold U8.semAt;split
 .rename_i l c f;have:resolve (a.put d v).eval c o.type=resolve a.eval c o.type:=resolve_congr c o.type λx I=>Act.eval_put λt j m=>h t j (by
   subst m;refine List.mem_append_left _ (List.mem_filterMap.2 ⟨.tmp t,?_,rfl⟩);rw[f];simpa[Op.operands] using I)
  rw[this]
 .exact he
def l4 (o:U8) (w0:x3) (st:x3->Prop) (w':x3):Prop:=li o=true\/Ext w0 w'\/ ∃U,st U/\Ext U w'
theorem l4.ext {o:U8} {w0:x3} {st:x3->Prop} (h:l4 o w0 st w) (k:Ext w w'):l4 o w0 st w':=by
 rcases h with h|h|⟨U,h1,a⟩
 .exact .inl h
 .exact .inr (.inl (h.trans k))
 .exact .inr (.inr ⟨U,h1,a.trans k⟩)
theorem Ff {o:U8} (hm:li o=true) {a:S2->x1} (h:(execOp a o).run P w= .ok (.value v) w):(execOp a o).run P w'= .ok (.value v) w':=by
 unfold li at hm;split at hm
 .rename_i x I;unfold execOp at h ⊢;simp only[I,W7,Result.ok.injEq,and_true] at h ⊢;exact h
 .rename_i x I;unfold execOp at h ⊢;simp only[I,W7,Result.ok.injEq,and_true] at h ⊢;exact h
 .rename_i x i I;unfold execOp at h ⊢;simp only[I] at h ⊢;exact ((Still.bind (Still.extract _ _) λ_=>Still.pure _) _ _ _ h).2 _
 .rename_i t x i I;unfold execOp at h ⊢;simp only[I] at h ⊢;exact ((Still.bind (Still.indexAt _ _ _) λ_=>Still.pure _) _ _ _ h).2 _
 .cases hm
def hS (P:W0) (ops:Array U8) (o:U8) (v:x1) (a:Act) (w0:x3->Prop):Prop:=
 (Region.wanted o (yielded ops a.tmps)=true/\(∀c,o.op≠ .defer c)/\ ∀w',w0 w'->(execOp a.eval o).run P w'= .ok (.value v) w')\/
 (Region.wanted o (yielded ops a.tmps)=false/\v=undef)
theorem hS.put {o e:U8} {a:Act} {w0:x3->Prop} (f:hS P ops o v a w0) (J:∀cs b,o.op≠ .select cs b) (h:∀t,e.dst=σ t->t∉o.looksAt ops) (u:x1):
  hS P ops o v (a.put e.dst u) w0:=by
 unfold hS at*;rw[execOp_put o J a e.dst u h,wanted_put o a e.dst u h];exact f
theorem hS.go {i:Nat} {e:U8} {a:Act} {w0:x3->Prop} (hi:ops[i]? =σ e) (f:hS P ops e v a w0) (hw:w0 w) {K:Act->x3->Prop} (h:K (a.put e.dst v) w):
  wpOpIn (ek r) 0 P ops Q i K a w:=by
 unfold wpOpIn;simp only[hi];rcases f with⟨h1,j,m⟩|⟨h1,rfl⟩
 .rw[if_pos h1];refine⟨λ_ _=>trivial,?_⟩;rw[U8.semAt_eq _ _ _ j,m w hw,U8.uponIn_value];exact h
 .rw[h1];exact⟨λ_ _=>trivial,h⟩
theorem Fg {m q:U8} (A:ops[j]? =σ q) (B:m.apart ops q=true) (C:∀cs b,m.op≠ .select cs b) (E:∀cs b,q.op≠ .select cs b)
  (y:∀c a w,¬Q (.panic c) a w) {K:Act->x3->Prop} {a:Act} {w:x3} {w0:x3->Prop} (p:hS P ops m v a w0) (h:wpOpIn (ek r) 0 P ops Q j K (a.put m.dst v) w):
  wpOpIn (ek r) 0 P ops Q j (λa' w'=>hS P ops m v a' w0/\K (a'.put m.dst v) w') a w:=by
 obtain⟨h1,s,F⟩:=U8.apart_spec B;have aZ:∀ (a:Act),hS P ops m v a w0-> ∀u,hS P ops m v (a.put q.dst u) w0:=λa p u=>p.put C F u;have G:∀d,hS P ops m v {a with defers:=d::a.defers} w0:=λd=>p;unfold wpOpIn at*;simp only[A] at*;rw[wanted_put q a m.dst v h1] at h;split
 .rename_i hw;simp only[hw,if_true] at h;obtain⟨_,h⟩:=h;refine⟨λ_ _=>trivial,?_⟩;rw[Fe _ q E a m.dst v h1] at h;generalize (q.semAt (ek r).round a.eval).run P w=res at*;cases res with
  |ok n w'=>
   cases n<;>simp only[U8.uponIn] at h ⊢
   case value u=>exact⟨aZ a p u,by rw[<-Act.put_comm a v u s];exact h⟩
   case skip=>exact⟨aZ a p _,by rw[<-Act.put_comm a v undef s];exact h⟩
   case defer d=>
    refine⟨aZ _ (G d) _,?_⟩;rw[<-Act.put_comm _ v undef s,<-Act.put_defers];exact h
   case enter f args=>
    refine⟨h.1,CallsIn.mono h.2 λe z he=>?_⟩;cases e with
    |returned u=>exact⟨aZ a p u,by rw[<-Act.put_comm a v u s];exact he⟩
    |panicked c=>exact absurd he (y _ _ _)
    |outgrown=>exact he
   case row row args=>exact⟨h.1,RowsIn.mono h.2 λu z he=>⟨aZ a p u,by rw[<-Act.put_comm a v u s];exact he⟩⟩
   case round l f tmps H body=>
    refine⟨h.1,RoundIn.mono h.2 λe z he=>?_⟩;cases e with
    |returned u=>exact⟨aZ a p u,by rw[<-Act.put_comm a v u s];exact he⟩
    |panicked c=>exact absurd he (y _ _ _)
    |outgrown=>exact he
  |halt x w'=>
   cases x<;>simp only[U8.uponIn] at h ⊢
   case panic u=>exact absurd h (y _ _ _)
 .rename_i hw;simp only[hw] at h;exact⟨λ_ _=>trivial,aZ a p _,by rw[<-Act.put_comm a v undef s];exact h.2⟩
def lj (ops:Array U8) (bs:Array Nat):Bool:=
 (Z8 ops.size).all λj=>(Z8 ops.size).all λk=>!((bs.getD j 0).testBit k)||
  (match ops[j]? with
   |some o=>o.after.any λe=>Region.binds .any e&&Nat.blt e.on j&&(T5 e.on k||(bs.getD e.on 0).testBit k)
   |none=>false)
def Down (ops:Array U8) (a:Array Bool):Prop:=
 ∀ (x:Nat) (o:U8),ops[x]? =σ o->a.getD x false=true-> ∀e∈o.after,Region.binds .any e=true->a.getD e.on false=true
theorem xV {bs:Array Nat} (a:lj ops bs=true) {k:Nat} (m:j<ops.size) (hk:k<ops.size) (h:(bs.getD j 0).testBit k=true):
  ∃o,ops[j]? =σ o/\ ∃e∈o.after,Region.binds .any e=true/\e.on<j/\(e.on=k\/(bs.getD e.on 0).testBit k=true):=by
 simp only[lj,List.all_eq_true,List.mem_range] at a;have:=a j m k hk;rw[h] at this;simp only[Y7,Bool.false_or] at this;cases f:ops[j]? with
 |none=>rw[f] at this;cases this
 |some o=>
  rw[f] at this;obtain⟨e,he,I⟩:=Array.any_eq_true'.1 this;simp only[V0,Nat.blt_eq,Bool.or_eq_true] at I;exact⟨o,rfl,e,he,I.1.1,I.1.2,I.2.imp (λh=>Nat.eq_of_beq_eq_true h) id⟩
theorem Fh {bs:Array Nat} {a:Array Bool} (m:lj ops bs=true) (p:Down ops a):∀ (j k:Nat),j<ops.size->k<ops.size->a.getD j false=true->
  (bs.getD j 0).testBit k=true->a.getD k false=true:=by
 intro j;induction j using Nat.strongRecOn with
 |_ j q=>
  intro k r hk s h;obtain⟨o,w,e,he,x,y,h⟩:=xV m r hk h;have f:=p j o w s e he x;rcases h with rfl|h
  .exact f
  .exact q e.on y k Ω hk f h
theorem xW {bs:Array Nat} {a:Array Bool} (f:lj ops bs=true) (r:Down ops a) {k:Nat} (hk:k<ops.size) (s:j∈Region.ready .any ops a)
  (h:(bs.getD j 0).testBit k=true):a.getD k false=true:=by
 obtain⟨_,o,m,w⟩:=mem_ready.1 s;have x:=(o8.1 m).1;obtain⟨o',p,e,he,y,z,h⟩:=xV f x hk h;rw[m] at p;cases p;have q:=w e he y;rcases h with rfl|h
 .exact q
 .exact Fh f r e.on k Ω hk q h
theorem Down.set {a:Array Bool} (p:Down ops a) {i:Nat} (q:i∈Region.ready .any ops a):Down ops (a.setIfInBounds i true):=by
 intro x o I f e he h;by_cases j:x=i
 .subst j;obtain⟨_,o',m,r⟩:=mem_ready.1 q;rw[I] at m;cases m;exact getD_set_true (r e he h)
 .rw[getD_set_ne false (Ne.symm j)] at f;exact getD_set_true (p x o I f e he h)
theorem ud {a:Array Bool} {k:Nat} (h:a.getD k true=false):a.getD k false=false:=by
 rcases Nat.lt_or_ge k a.size with h'|h'
 .simpa[h'] using h
 .simp[Array.getElem?_eq_none h'] at h
def l5 (ops:Array U8) (i:Nat):Bool:=match ops[i]? with
 |some o=>iJ o
 |none=>false
def l6 (bs:Array Nat) (a:List (x3×List (Nat×(x3->Prop)))) (j:Nat) (w':x3):Prop:=∀g∈a,∀x∈g.2,kA bs j x.1=true->Ext g.1 w'\/x.2 w'
theorem ue {bs:Array Nat} {j:Nat} {w':x3}:∀ {l:List (Nat×(x3->Prop))},og bs j w' l-> ∀x∈l,kA bs j x.1=true->x.2 w'
 |[],_,_,h,_=>by cases h
 |y::l,h,x,I,hu=>by
  unfold og at h;cases a:kA bs j y.1 with
  |true=>
   rw[a] at h;cases I with
   |head=>exact h.1
   |tail _ I=>exact ue h.2 x I hu
  |false=>
   rw[a] at h;cases I with
   |head=>rw[a] at hu;cases hu
   |tail _ I=>exact ue (show og bs j w' l from h) x I hu
theorem xX {bs:Array Nat} {j:Nat}:∀ {l:List (Nat×(x3->Prop))},pD bs j l=false-> ∀x∈l,kA bs j x.1=false
 |[],_,_,h=>by cases h
 |y::l,h,x,I=>by
  simp only[pD,T4] at h;cases I with
  |head=>exact h.1
  |tail _ I=>exact xX h.2 x I
theorem uf {bs:Array Nat} {j:Nat} {w':x3} {C:Prop}:∀ {p:List (x3×List (Nat×(x3->Prop)))},mS bs j w' C p->C/\l6 bs p j w'
 |[],h=>⟨h,λg q=>by cases q⟩
 |g::r,h=>by
  unfold mS at h;cases hu:pD bs j g.2 with
  |true=>
   rw[hu] at h;obtain⟨h1,f⟩:=uf h.2;refine⟨h1,λm a x I e=>?_⟩;cases a with
   |head=>exact h.1.imp id λh=>ue h x I e
   |tail _ a=>exact f m a x I e
  |false=>
   rw[hu] at h;obtain⟨h1,f⟩:=uf (show mS bs j w' C r from h);refine⟨h1,λm a x I e=>?_⟩;cases a with
   |head=>rw[xX hu x I] at e;cases e
   |tail _ a=>exact f m a x I e
def ug (ops:Array U8) (bs:Array Nat) (a:List (x3×List (Nat×(x3->Prop)))) (j:Nat) (w w':x3):Prop:=(l5 ops j=true->Ext w w')/\(l5 ops j=false->l6 bs a j w')
def ig (r:Option Nat) (P:W0) (ops:Array U8) (bs:Array Nat) (Q:Exit->Act->x3->Prop):Nat->Array Bool->List (x3×List (Nat×(x3->Prop)))->Act->x3->Prop
 |0,e,_,a,w=>Region.ready .any ops e=[]/\Q .normal a w
 |fuel+1,e,f,a,w=>(Region.ready .any ops e=[]->Q .normal a w)/\
  ∀i∈Region.ready .any ops e,wpOpIn (ek r) 0 P ops Q i (λa' w'=>ug ops bs f i w w'/\ig r P ops bs Q fuel (e.setIfInBounds i true) f a' w') a w
theorem ig.any {bs:Array Nat}:∀ (fuel:Nat) (e:Array Bool) (f:List (x3×List (Nat×(x3->Prop)))) (a:Act) (w:x3),ig r P ops bs Q fuel e f a w->wpAnyIn (ek r) 0 P .any ops Q fuel e a w
 |0,_,_,_,_,h=>h
 |fuel+1,_,_,_,_,h=>⟨h.1,λi hi=>wpOpIn_mono (λa' w' h'=>ig.any fuel _ _ a' w' h'.2) (h.2 i hi)⟩
theorem Fi {bs:Array Nat} {a:Array Bool} (e:lj ops bs=true) (f:Down ops a) {i:Nat} {q:U8} (hi:ops[i]? =σ q)
  (m:i∈Region.ready .any ops a) (p:j∈Region.ready .any ops a) (r:j≠i):kA bs j i=true:=by
 have s:=(o8.1 hi).1;obtain⟨w,A,x,_⟩:=mem_ready.1 p;have y:=(o8.1 x).1;have z:=(mem_ready.1 m).1;simp only[kA,V0,Bool.not_eq_true'];refine⟨?_,?_,?_⟩
 .cases h:T5 i j with
  |true=>exact absurd (Nat.eq_of_beq_eq_true h).symm r
  |false=>rfl
 .cases h:(bs.getD j 0).testBit i with
  |true=>have:=xW e f s p h;rw[ud z] at this;cases this
  |false=>rfl
 .cases h:(bs.getD i 0).testBit j with
  |true=>have:=xW e f y m h;rw[ud w] at this;cases this
  |false=>rfl
theorem ig.take {bs:Array Nat} (R:lj ops bs=true) (S:Region.noSelect ops=true) (T:∀c a w,¬Q (.panic c) a w) {i:Nat} {m:U8} (hi:ops[i]? =σ m) (U:iJ m=true)
  {w0:x3} {z ev':List (x3×List (Nat×(x3->Prop)))} (F:∀j w',l6 bs ev' j w'->l6 bs z j w') {st:x3->Prop} (V:li m=false-> ∀j w',kA bs j i=true->l6 bs ev' j w'->Ext w0 w'\/st w'):
  ∀ (fuel:Nat) (f:Array Bool) (a:Act) (w:x3),Down ops f->
   (∀j x,ops[j]? =σ x->j≠i->f.getD j true=false->(∀e∈x.after,Region.binds .any e=true->e.on≠i)->m.apart ops x=true)->
   i∈Region.ready .any ops f->hS P ops m v a (l4 m w0 st)->l4 m w0 st w->
   ig r P ops bs Q fuel (f.setIfInBounds i true) ev' (a.put m.dst v) w->ig r P ops bs Q (fuel+1) f z a w:=by
 have G:=Region.noSelect_spec S;have W:l5 ops i=true:=by simp[l5,hi,U]
 have hB:∀ (fuel:Nat) (f:Array Bool) (a:Act) (w:x3),ig r P ops bs Q fuel f ev' a w->ig r P ops bs Q fuel f z a w:=by
  intro fuel;induction fuel with
  |zero=>intro f a w h;exact h
  |succ fuel B=>intro f a w h;exact⟨h.1,λj q=>wpOpIn_mono (λa' w' h'=>⟨⟨h'.1.1,λC=>F _ _ (h'.1.2 C)⟩,B _ a' w' h'.2⟩) (h.2 j q)⟩
 have I:∀w,ug ops bs z i w w:=λw=>⟨λ_=>Ext.refl _,λh=>by rw[W] at h;cases h⟩;intro fuel;induction fuel with
 |zero=>
  intro f a w _ _ s A hw H;refine⟨λh=>(by rw[h] at s;cases s),λj q=>?_⟩;by_cases p:j=i
  .subst p;exact A.go hi hw ⟨I w,hB _ _ _ _ H⟩
  .have:=ready_mono q p;rw[H.1] at this;cases this
 |succ fuel B=>
  intro f a w J K s A hw H;refine⟨λh=>(by rw[h] at s;cases s),λj q=>?_⟩;by_cases p:j=i
  .subst p;exact A.go hi hw ⟨I w,hB _ _ _ _ H⟩
  .have h1:=H.2 j (ready_mono q p);have hu:=Fi R J hi s q p;obtain⟨L,x,E,X⟩:=mem_ready.1 q;have Y:∀e∈x.after,Region.binds .any e=true->e.on≠i:=λe he Z aa=>by
    have h1:=X e he Z;rw[aa,ud (mem_ready.1 s).1] at h1;cases h1
   have ab:=Fg E (K j x E p L Y) (λcs b=>G i m cs b hi) (λcs b=>G j x cs b E) T A h1;have ac:∀k ok,ops[k]? =σ ok->k≠i->(f.setIfInBounds j true).getD k true=false->
     (∀e∈ok.after,Region.binds .any e=true->e.on≠i)->m.apart ops ok=true:=λk ok hk ad M ae=>by
    refine K k ok hk ad ?_ ae;by_cases N:j=k
    .subst N;exact L
    .rw[getD_set_ne true N] at M;exact M
   refine wpOpIn_mono (λa' w' y=>⟨⟨y.2.1.1,λC=>F _ _ (y.2.1.2 C)⟩,B (f.setIfInBounds j true) a' w' (J.set q) ac (ready_mono s (Ne.symm p)) y.1 ?_ ?_⟩) ab
   .cases hm:li m with
    |true=>exact .inl hm
    |false=>
     cases O:l5 ops j with
     |true=>exact hw.ext (y.2.1.1 O)
     |false=>exact .inr ((V hm j w' hu (y.2.1.2 O)).imp id λh=>⟨w',h,Ext.refl _⟩)
   .rw[Array.setIfInBounds_comm _ _ p];exact y.2.2
theorem xY {p:Nat->Prop}:∀ {l:List Nat},ub p l-> ∀i∈l,p i
 |[],_,_,h=>by cases h
 |[i],h,j,a=>by cases a with
  |head=>exact h
  |tail _ h=>cases h
 |i::k::l,h,j,a=>by
  obtain⟨h1,e⟩:=h;cases a with
  |head=>exact h1
  |tail _ a=>exact xY e j a
theorem uh:∀ {l:List Nat} {q:Nat},l1 ops l=σ q->q∈l/\ ∃o,ops[q]? =σ o/\iJ o=true
 |[],q,h=>by cases h
 |i::l,q,h=>by
  simp only[l1] at h;cases a:ops[i]? with
  |none=>rw[a] at h;obtain⟨h1,e⟩:=uh h;exact⟨.tail _ h1,e⟩
  |some o=>
   rw[a] at h;simp only at h;cases f:iJ o with
   |true=>rw[f] at h;simp only[cond_true,Y8] at h;subst h;exact⟨.head _,o,a,f⟩
   |false=>rw[f] at h;obtain⟨h1,e⟩:=uh h;exact⟨.tail _ h1,e⟩
theorem Fj {o:U8} {e:Env} {a:Act} {K:Env->(x3->Prop)->Prop} (h:ua P ops o e w K) (f:S4 N e a) (B:jn N o.dst=true):
  ∃v st,hS P ops o v a (l4 o w st)/\ ∃m,K m st/\S4 N m (a.put o.dst v):=by
 unfold ua at h;have r:∀ {e:Env},S4 N e a->lg P o e w K->Region.wanted o (yielded ops a.tmps)=true-> ∃v st,hS P ops o v a (l4 o w st)/\ ∃m,K m st/\S4 N m (a.put o.dst v):=λf h hw=>by
  obtain⟨v,st,h1,C,E,F⟩:=xS h f B;exact⟨v,st,.inl ⟨hw,E,λw' I=>I.elim (λhm=>Ff hm (h1 w (Ext.refl w))) λh=>h.elim (h1 w') λ⟨U,G,H⟩=>F U G w' H⟩,C⟩
 have skip:∀ {e:Env},S4 N e a->K (dR e o.dst .u) (λ_=>True)->Region.wanted o (yielded ops a.tmps)=false-> ∃v st,hS P ops o v a (l4 o w st)/\ ∃m,K m st/\S4 N m (a.put o.dst v):=λf h hw=>
  ⟨undef,_,.inr ⟨hw,rfl⟩,_,h,f.put B rfl⟩
 cases p:o.guard with
 |none=>rw[p] at h;exact r f h (by simp[Region.wanted,p])
 |some L=>
  obtain⟨j,b⟩:=L;rw[p] at h;simp only at h;cases q:(ops[j]?).bind (·.dst) with
  |none=>rw[q] at h;exact h.elim
  |some s=>
   rw[q] at h;simp only at h;cases J:look e s with
   |none=>rw[J] at h;exact h.elim
   |some x=>
    rw[J] at h;cases x with
    |b c=>
     simp only at h;have hw:=rk f p q J (c:=c) rfl;cases I:xor c b with
     |true=>rw[I] at h hw;exact skip f h hw
     |false=>rw[I] at h hw;exact r f h hw
    |v y=>
     simp only at h;obtain⟨c,rfl,z,ae⟩:=h;have hw:=rk f p q J (c:=c) rfl;have A:=f.lit J (c:=c) rfl;cases c with
     |true=>
      have z:=z rfl;cases b with
      |true=>exact r A z hw
      |false=>exact skip A z hw
     |false=>
      have ae:=ae rfl;cases b with
      |true=>exact skip A ae hw
      |false=>exact r A ae hw
    |u=>exact skip f h (xT f p q J)
theorem ui:∀ {l:List Nat},l1 ops l=ν-> ∀j∈l,l5 ops j=false
 |[],_,_,h=>by cases h
 |i::l,h,j,a=>by
  simp only[l1] at h;cases e:ops[i]? with
  |none=>
   rw[e] at h;cases a with
   |head=>simp[l5,e]
   |tail _ a=>exact ui h j a
  |some o=>
   rw[e] at h;simp only at h;cases f:iJ o with
   |true=>rw[f] at h;cases h
   |false=>
    rw[f] at h;cases a with
    |head=>simp[l5,e,f]
    |tail _ a=>exact ui h j a
theorem Fk {bs:Array Nat} {same:Bool} {q:Nat} {st:x3->Prop} {a:List (x3×List (Nat×(x3->Prop)))} (J:same=true-> ∃ks r,a=(w,ks)::r):
  (∀j w',l6 bs (pC same q w st a) j w'->l6 bs a j w')/\(∀j w',kA bs j q=true->l6 bs (pC same q w st a) j w'->Ext w w'\/st w')/\ ∃ks r,pC same q w st a=(w,ks)::r:=by
 cases same with
 |true=>
  obtain⟨ks,r,rfl⟩:=J rfl;refine⟨λj w' h g e x I hu=>?_,λj w' hu h=>h (w,(q,st)::ks) (.head _) (q,st) (.head _) hu,_,_,rfl⟩;cases e with
  |head=>exact h (w,(q,st)::ks) (.head _) x (.tail _ I) hu
  |tail _ e=>exact h g (.tail _ e) x I hu
 |false=>
  refine⟨λj w' h g e x I hu=>h g (.tail _ e) x I hu,λj w' hu h=>h (w,[(q,st)]) (.head _) (q,st) (.head _) hu,_,_,rfl⟩
theorem Fl {K:Env->x3->Prop} {bs:Array Nat} (T:lj ops bs=true) (V:Region.noSelect ops=true) (W:∀c a w,¬Q (.panic c) a w)
  (L:∀o∈ops.toList,∀t,o.dst=σ t->t∈D) (X:mT N ops.toList=true):
  ∀ (fuel:Nat) (m:Array Bool) (same:Bool) (p:List (x3×List (Nat×(x3->Prop)))) (e:Env) (a:Act) (w:x3),Down ops m->(same=true-> ∃ks r,p=(w,ks)::r)->
   l2 P free ops bs fuel m same p e w K->S4 N e a->
   (∀a' w',l3 N free K D a w a' w'->Q .normal a' w')->ig r P ops bs Q fuel m p a w:=by
 have E:∀ {j:Nat} {o:U8},ops[j]? =σ o->o∈ops.toList:=λh=>by
  rw[<-S5] at h;exact x5 h
 have ok:∀ {j:Nat} {o:U8},ops[j]? =σ o->jn N o.dst=true:=λh=>by
  simp only[mT,List.all_eq_true] at X;exact X _ (E h)
 intro fuel;induction fuel with
 |zero=>
  intro m same p e a w z M h B A;unfold l2 at h;cases x:Region.ready .any ops m with
  |nil=>rw[x] at h;exact⟨x,A a w ⟨e,h,B,gC.refl _ _,λ_=>cB.refl _ _⟩⟩
  |cons i l=>rw[x] at h;exact h.elim
 |succ fuel O=>
  intro m same p e a w z M h B A;unfold l2 at h;cases x:Region.ready .any ops m with
  |nil=>
   rw[x] at h;refine⟨λ_=>A a w ⟨e,h,B,gC.refl _ _,λ_=>cB.refl _ _⟩,λi hi=>?_⟩;rw[x] at hi;cases hi
  |cons i l=>
   rw[x] at h;simp only at h;cases F:l1 ops (i::l) with
   |some q=>
    rw[F] at h;simp only at h;obtain⟨ad,o,f,Y⟩:=uh F;cases G:Region.free .any ops m q with
    |false=>rw[G] at h;exact h.elim
    |true=>
     rw[G,f] at h;simp only[cond_true] at h;obtain⟨v,st,Z,H,y,aa⟩:=Fj h B (ok f);have J:q∈Region.ready .any ops m:=by rw[x];exact ad
     cases hm:li o with
     |true=>
      rw[hm] at y;refine ig.take T V W f Y (w0:=w) (ev':=p) (λ_ _ h=>h) (λh=>by rw[hm] at h;cases h) fuel m a w z (Region.free_spec f G) J Z (.inr (.inl (Ext.refl _))) ?_;exact O _ same p H _ w (z.set J) M y aa λa' w' s=>A a' w' (s.step (gC.put a v λt C=>L o (E f) t C) λ_=>cB.refl _ _)
     |false=>
      rw[hm] at y;obtain⟨h1,ae,af⟩:=Fk (bs:=bs) (q:=q) (st:=st) M;refine ig.take T V W f Y (w0:=w) (ev':=pC same q w st p) h1 (λ_=>ae) fuel m a w z (Region.free_spec f G) J Z (.inr (.inl (Ext.refl _))) ?_;exact O _ true _ H _ w (z.set J) (λ_=>af) y aa λa' w' s=>A a' w' (s.step (gC.put a v λt C=>L o (E f) t C) λ_=>cB.refl _ _)
   |none=>
    rw[F] at h;simp only at h;refine⟨(λab=>by rw[x] at ab;cases ab),λj ac=>?_⟩;have R:=ac;rw[x] at R;have ag:=ui F j R;have s:=xY h j R;cases f:ops[j]? with
    |none=>rw[f] at s;exact s.elim
    |some o=>
     rw[f] at s;simp only at s;unfold wpOpIn;simp only[f];have next:∀S U,fc N free (λH w'=>mS bs j w' (l2 P free ops bs fuel (m.setIfInBounds j true) false p H w' K) p) o a w S U->
       ug ops bs p j w U/\ig r P ops bs Q fuel (m.setIfInBounds j true) p S U:=by
      rintro S U ⟨ah,v,y,ai,rfl,aj⟩;obtain⟨y,ak⟩:=uf y;exact⟨⟨λh=>(by rw[ag] at h;cases h),λ_=>ak⟩,
       O _ false p ah _ U (z.set ac) (λh=>by cases h) y ai λa' w' s=>A a' w' (s.step (gC.put a v λt C=>L o (E f) t C) aj)⟩
     rcases xU (r:=r) (Q:=Q) s B (ok f) with⟨hw,I⟩|⟨hw,I⟩
     .rw[if_pos hw];exact U8.wpIn_mono next I
     .rw[hw];exact⟨λ_ _=>trivial,next _ _ I⟩
theorem Fm (hm:P.follows .mixedOrders=true) {K:Env->x3->Prop} {id:Nat} {e:Env} {a:Act} (m:lj ops (Region.before ops)=true) (p:∀c a w,¬Q (.panic c) a w)
  (q:∀o∈ops.toList,∀t,o.dst=σ t->t∈D) (s:mT N ops.toList=true)
  (h:∀w',Ext w w'->Ext w' w->cL w w'->uc P free ops e w' K) (y:S4 N e a) (z:∀a' w',l3 N free K D a w a' w'->Q .normal a' w'):
  (Code.region id ops true).wpIn (ek r) 0 P Q a w:=by
 refine wpIn_region_any hm ?_;have h:=h {w with drawn:=w.drawn+1} (rb w _) ⟨p8 _,λ_ _ h _=>h⟩ (px w _ (Nat.le_succ _));unfold uc at h;cases f:Region.noSelect ops with
 |false=>rw[f] at h;exact h.elim
 |true=>
  rw[f] at h;refine ig.any _ _ _ _ _ (Fl m f p q s ops.size _ false [] e a _ ?_ (λh=>by cases h) h y λa' w' A=>z a' w' (A.step (gC.refl _ _) λ_=>(px w _ (Nat.le_succ _)).b));intro x o _ j;rcases Nat.lt_or_ge x ops.size with h'|h'
  .simp[h'] at j
  .simp[h'] at j
end
def iK (t:Nat):List Nat->Bool
 |[]=>false
 |s::r=>bif T5 s t then true else iK t r
theorem uj {t:Nat}:∀ {l:List Nat},iK t l=true↔t∈l
 |[]=>by simp[iK]
 |s::r=>by
  simp only[iK];cases h:T5 s t with
  |true=>simp[Nat.eq_of_beq_eq_true h]
  |false=>
   have:=Nat.ne_of_beq_eq_false h;simp[uj (l:=r),Ne.symm this]
def mU:List U8->List Nat
 |[]=>[]
 |o::l=>match o.dst with
  |some d=>d::mU l
  |none=>mU l
def tmpsOf:List S2->List Nat
 |[]=>[]
 | .tmp t::l=>t::tmpsOf l
 |_::l=>tmpsOf l
def Fo (ops:Array U8) (o:U8):List Nat:=
 match o.guard with
 |some (j,_)=>match (ops[j]?).bind (·.dst) with
  |some s=>[s]
  |none=>[]
 |none=>[]
def rl (D:List Nat):List Nat->List Nat
 |[]=>[]
 |t::r=>bif iK t D then rl D r else t::rl D r
def uk (D:List Nat):List Nat->List Nat
 |[]=>[]
 |t::r=>bif iK t D then t::uk D r else uk D r
def xZ (ops:Array U8):List U8->List Nat->List Nat
 |[],_=>[]
 |o::l,D=>rl D (tmpsOf (opsOf o.op)++Fo ops o)++xZ ops l (match o.dst with
  |some d=>d::D
  |none=>D)
def dv:Code->List Nat
 | .region _ ops _=>mU ops.toList
 | .seq a b=>dv a++dv b
 | .cond _ a b=>dv a++dv b
 | .block _ c=>dv c
 | .loop c=>dv c
 | .scope c=>dv c
 |_=>[]
def jo (id:Nat):Code->Nat
 | .seq a b=>jo id a+jo id b
 | .cond _ a b=>jo id a+jo id b
 | .block _ c=>jo id c
 | .loop c=>jo id c
 | .scope c=>jo id c
 | .exit i=>bif T5 i id then 1 else 0
 | .rangeFunc _ _ _ b=>jo id b
 |_=>0
def Fp (ops:Array U8):Bool:=
 let bs:=Region.before ops;let a:=λ(i:Nat)=>match ops[i]? with|some o=>!(iJ o)|none=>false
 (Z8 ops.size).any λj=>a j&&((Z8 j).any λi=>a i&&(!((bs.getD j 0).testBit i)&& !((bs.getD i 0).testBit j)))
def kB:Code->Nat
 | .region _ ops e=>bif (e&&Fp ops)||ops.any (·.guard.isSome) then 2 else 1
 | .seq a b=>bif T5 (kB a) 0 then 0 else kB b
 | .cond _ a b=>kB a+kB b
 | .block id c=>kB c+jo id c
 | .loop _=>0
 | .scope c=>kB c
 | .exit _=>0
 | .goto _=>0
 | .ret=>0
 | .refuse _=>0
 |_=>1
def lk:Code->List Nat
 | .region _ ops _=>mU ops.toList
 | .seq a b=>lk a++lk b
 | .cond _ a b=>bif T5 (kB a) 0 then lk b else bif T5 (kB b) 0 then lk a else uk (lk a) (lk b)
 | .block id c=>bif T5 (jo id c) 0 then lk c else[]
 | .scope c=>lk c
 |_=>[]
def reads:Code->List Nat
 | .region _ ops _=>xZ ops ops.toList []
 | .seq a b=>reads a++rl (lk a) (reads b)
 | .cond c a b=>tmpsOf [c]++(reads a++reads b)
 | .block _ c=>reads c
 | .loop c=>reads c
 | .scope c=>reads c
 | .rangeFunc f _ a b=>tmpsOf [f]++(reads a++reads b)
 |_=>[]
def jV:Code->Bool
 | .seq a b=>jV a||jV b
 | .cond _ a b=>jV a||jV b
 | .block _ c=>jV c
 | .loop c=>jV c
 | .scope c=>jV c
 | .rangeFunc ..=>true
 |_=>false
def wf (N:Nat):Code->Bool
 | .region _ ops e=>mT N ops.toList&&(!e||lj ops (Region.before ops))
 | .seq a b=>wf N a&&wf N b
 | .cond _ a b=>wf N a&&wf N b
 | .block _ c=>wf N c
 | .loop c=>wf N c
 | .scope c=>wf N c
 | .rangeFunc _ f a b=>(f.toList.all λt=>Nat.blt t N)&&(wf N a&&wf N b)
 |_=>true
def mV:Nat->Type->Type
 |0,β=>β
 |n+1,β=>x1->mV n β
def app {β:Type}:(n:Nat)->mV n β->List x1->β
 |0,f,_=>f
 |n+1,f,[]=>app n (f undef) []
 |n+1,f,v::r=>app n (f v) r
def lam {β:Type}:(n:Nat)->(List x1->β)->mV n β
 |0,f=>f []
 |n+1,f=>λv=>lam n λr=>f (v::r)
def rm:(n:Nat)->mV n Prop->Prop
 |0,p=>p
 |n+1,p=>∀v,rm n (p v)
theorem rn {β:Type}:∀ (n:Nat) (f:List x1->β) (vs:List x1),vs.length=n->app n (lam n f) vs=f vs
 |0,f,[],_=>rfl
 |n+1,f,v::r,h=>by
  simp only[app,lam];exact rn n _ r (by simpa using h)
theorem rp:∀ (n:Nat) (p:mV n Prop) (vs:List x1),rm n p->app n p vs
 |0,_,_,h=>h
 |n+1,_,[],h=>rp n _ [] (h undef)
 |n+1,_,v::r,h=>rp n _ r (h v)
def Fq (n:Nat) (vs:List x1) (w:x3) (B:List x1->x3->(List x1->x3->Prop)->Prop):Prop:=
 ∃ (a:mV n (x3->Prop)) (e:mV n (x3->Nat)),app n a vs w/\
  rm n (lam n λus=>∀w',app n a us w'->B us w' λf h=>app n a f h/\app n e f h<app n e us w')
def Fr (w:x3) (B:x3->(x3->Prop)->Prop):Prop:=
 ∃ (a:x3->Prop) (e:x3->Nat),a w/\ ∀w',a w'->B w' λf=>a f/\e f<e w'
def ch (a:x1) (w:x3) (B:x1->x3->(x1->x3->Prop)->Prop):Prop:=
 ∃ (e:x1->x3->Prop) (f:x1->x3->Nat),e a w/\ ∀a w',e a w'->B a w' λa' h=>e a' h/\f a' h<f a w'
def bX (a b:x1) (w:x3) (B:x1->x1->x3->(x1->x1->x3->Prop)->Prop):Prop:=
 ∃ (e:x1->x1->x3->Prop) (f:x1->x1->x3->Nat),e a b w/\ ∀a b w',e a b w'->B a b w' λa' h j=>e a' h j/\f a' h j<f a b w'
def l8 (a b c:x1) (w:x3) (B:x1->x1->x1->x3->(x1->x1->x1->x3->Prop)->Prop):Prop:=
 ∃ (e:x1->x1->x1->x3->Prop) (f:x1->x1->x1->x3->Nat),e a b c w/\
  ∀a b c w',e a b c w'->B a b c w' λa' h j m=>e a' h j m/\f a' h j m<f a b c w'
def rq (a b c d:x1) (w:x3) (B:x1->x1->x1->x1->x3->(x1->x1->x1->x1->x3->Prop)->Prop):Prop:=
 ∃ (e:x1->x1->x1->x1->x3->Prop) (f:x1->x1->x1->x1->x3->Nat),e a b c d w/\
  ∀a b c d w',e a b c d w'->B a b c d w' λa' h j m p=>e a' h j m p/\f a' h j m p<f a b c d w'
def oh (a b c d e:x1) (w:x3) (B:x1->x1->x1->x1->x1->x3->(x1->x1->x1->x1->x1->x3->Prop)->Prop):Prop:=
 ∃ (f:x1->x1->x1->x1->x1->x3->Prop) (h:x1->x1->x1->x1->x1->x3->Nat),f a b c d e w/\ ∀a b c d e w',f a b c d e w'->B a b c d e w' λa' j m p q r=>f a' j m p q r/\h a' j m p q r<h a b c d e w'
def Fs (a b c d e f:x1) (w:x3) (B:x1->x1->x1->x1->x1->x1->x3->(x1->x1->x1->x1->x1->x1->x3->Prop)->Prop):Prop:=
 ∃ (h:x1->x1->x1->x1->x1->x1->x3->Prop) (j:x1->x1->x1->x1->x1->x1->x3->Nat),h a b c d e f w/\ ∀a b c d e f w',h a b c d e f w'->B a b c d e f w' λa' m p q r s x=>h a' m p q r s x/\j a' m p q r s x<j a b c d e f w'
def cu {α:Type} (ay:α) (B:α->Prop):Prop:=B ay
def ul (n:Nat) (w:x3) (K:x3->Prop):Prop:=∀w',Ext w w'->Ext w' w/\fo n w w'->K w'
def Over (n:Nat) (w:x3) (K:x3->Prop):Prop:=∀w',Ext w w'->Ext w' w/\fo n w w'->eU w w'->K w'
def en (w:x3) (K:x3->Prop):Prop:=∀w',Ext w w'->Ext w' w->cL w w'->K w'
def jW (e:Env):List Nat->Option (List x1)
 |[]=>σ []
 |t::r=>match look e t with
  |some x=>match jW e r with
   |some vs=>σ (x.val::vs)
   |none=>ν
  |none=>ν
def iL:List Nat->List x1->Env->Env
 |t::r,v::vs,e=>(t,.v v)::iL r vs e
 |_,_,e=>e
def ll (D:List Nat):Env->Env
 |[]=>[]
 |(t,x)::r=>bif iK t D then ll D r else (t,x)::ll D r
def pE (N:Nat) (D R:List Nat):List Nat:=(Z8 N).filter λt=>iK t D&&iK t R
def pF (N:Nat) (D R:List Nat) (e:Env):List Nat:=(Z8 N).filter λt=>iK t D&&((look e t).isSome&&iK t R)
def iM:Code->Bool
 | .seq a b=>iM a||iM b
 | .cond _ a b=>iM a||iM b
 | .block _ c=>iM c
 | .loop c=>iM c
 | .scope c=>iM c
 | .rangeFunc _ _ a b=>iM a||iM b
 | .ret=>true
 |_=>false
def Ft (i:Nat) (l:List Nat):List Nat:=bif iK i l then l else i::l
def rr:List Nat->List Nat->List Nat
 |[],l=>l
 |i::r,l=>Ft i (rr r l)
def um (i:Nat):List Nat->List Nat
 |[]=>[]
 |j::r=>bif T5 i j then um i r else j::um i r
def jp:Code->List Nat
 | .seq a b=>rr (jp a) (jp b)
 | .cond _ a b=>rr (jp a) (jp b)
 | .block id c=>um id (jp c)
 | .loop c=>jp c
 | .scope c=>jp c
 | .rangeFunc _ _ a b=>rr (jp a) (jp b)
 | .exit i=>[i]
 |_=>[]
def mW:List (Nat×(x3->Prop))->Nat->x3->Prop
 |[],_,_=>False
 |(j,k)::r,i,w=>(i=j/\k w)\/mW r i w
def uo (K:Nat->x3->Prop):List Nat->List (Nat×(x3->Prop))
 |[]=>[]
 |i::r=>(i,λw=>K i w)::uo K r
theorem x0 {K:Nat->x3->Prop}:∀ {l:List Nat} {i:Nat} {w:x3},mW (uo K l) i w->K i w
 |[],_,_,h=>h.elim
 |j::r,i,w,h=>by
  rcases h with⟨rfl,h⟩|h
  .exact h
  .exact x0 h
section
variable (P:W0)
def oi {a:Type} (G:Bool) (g:R4) (cap:List x1) (m:a) (p:a->Prop) (q:a->List x1->a->x3->Prop) (h:x3->Prop):Prop:=
 Enters P g/\ ∀ (l:Nat) (ay e:a->x3->Prop) (w:x3),
  (∀k U V,Ext U V->cB w.heap.size U V->ay k U->ay k V)->(∀k U V,Ext U V->cB w.heap.size U V->e k U->e k V)->
  (∀k j vs w',h w'->q k vs j w'->ay k w'->hA P l vs w' λv f=>(v= .bool true/\h f/\ay j f/\(G=true->cL w' f))\/(v= .bool false/\e k f))->
  h w->ay m w->gB P g (.func (.yield l) #[] #[]::cap) w λ_ w'=>(∃k,p k/\ay k w')\/ ∃k,e k w'
def uq (G:Bool) (g:R4) (cap:List x1) (n:Nat) (h:Nat->List x1->x3->Prop) (f:x3->Prop):Prop:=
 Enters P g/\ ∀ (l:Nat) (ay a:Nat->x3->Prop) (w:x3),
  (∀k U V,Ext U V->cB w.heap.size U V->ay k U->ay k V)->(∀k U V,Ext U V->cB w.heap.size U V->a k U->a k V)->
  (∀k vs w',k<n->f w'->h k vs w'->ay k w'->hA P l vs w' λv e=>(v= .bool true/\f e/\ay (k+1) e/\(G=true->cL w' e))\/(v= .bool false/\a k e))->
  f w->ay 0 w->gB P g (.func (.yield l) #[] #[]::cap) w λ_ w'=>ay n w'\/ ∃k,k<n/\a k w'
def pG {e:Type} (o G:Bool) (g:R4) (cap:List x1) (m:e) (p:e->Prop) (q:e->List x1->e->x3->Prop) (h:(Nat->Prop)->x3->Prop):Prop:=
 Enters P g/\ ∀ (l:Nat) (ay f:(Nat->Prop)->e->x3->Prop) (w:x3),
  (∀D k U V,ah (λr=>o=true/\w.heap.size<=r/\¬D r) U V->fo w.heap.size U V->ay D k U->ay D k V)->
  (∀D k U V,ah (λr=>o=true/\w.heap.size<=r/\¬D r) U V->fo w.heap.size U V->f D k U->f D k V)->
  (∀D k j vs w',(∀r,D r->w.heap.size<=r/\r<w'.heap.size)->w.heap.size<=w'.heap.size->h D w'->q k vs j w'->ay D k w'->hA P l vs w' λv a=>
   (v= .bool true/\(∃D',(∀r,D' r->D r\/w'.heap.size<=r/\r<a.heap.size)/\(∀r,D r->D' r)/\h D' a/\ay D' j a)/\(G=true\/o=true->cL w' a)/\w'.heap.size<=a.heap.size/\(o=true->ah (λr=>r<w.heap.size\/D r) w' a))\/(o=false/\v= .bool false/\f D k a))->
  (h (λ_=>False) w)->ay (λ_=>False) m w->gB P g (.func (.yield l) #[] #[]::cap) w λ_ w'=>(∃D k,p k/\ay D k w')\/ ∃D k,f D k w'
abbrev oj (g:R4) (cap:List x1) (n:Nat) (a:Nat->List x1->x3->Prop) (e:x3->Prop):Prop:=uq P false g cap n a e
def Fu (z:x1) (q:Nat) (w:x3) (B:List x1->x3->(Exit->x3->Prop)->Prop) (A C:x3->Prop) (E:List (Nat×(x3->Prop))):Prop:=
 ∃ (h:Type) (o G:Bool) (g:R4) (cap:Array x1) (x:h) (y:h->Prop) (s:h->List x1->h->x3->Prop) (e:(Nat->Prop)->x3->Prop) (f:(Nat->Prop)->h->x3->Prop) (j:(Nat->Prop)->h->Exit->x3->Prop),
  z= .func (.func g) #[] cap/\pG P o G g cap.toList x y s e/\(∀k vs p w,s k vs p w->vs.length=q)/\
  (∀m w w',Ext w w'->e m w->e m w')/\(∀m k U V,ah (λr=>o=true/\w.heap.size<=r/\¬m r) U V->fo w.heap.size U V->f m k U->f m k V)/\(∀m k ex U V,ah (λr=>o=true/\w.heap.size<=r/\¬m r) U V->fo w.heap.size U V->j m k ex U->j m k ex V)/\
  e (λ_=>False) w/\f (λ_=>False) x w/\
  rm q (lam q λvs=>∀m k p w',(∀r,m r->w.heap.size<=r/\r<w'.heap.size)->w.heap.size<=w'.heap.size->e m w'->s k vs p w'->f m k w'->B vs w' λex a=>match ex with
   | .normal=>bif o then (∃ci,(∀r,ci r->m r\/w'.heap.size<=r/\r<a.heap.size)/\(∀r,m r->ci r)/\e ci a/\f ci p a)/\eU w' a/\ah (λr=>r<w.heap.size\/m r) w' a else e m a/\f m p a/\(G=true->eU w' a)
   |ex=>bif o then False else j m k ex a)/\
  (∀m k w',y k->f m k w'->A w')/\(∀m k w',j m k .ret w'->C w')/\(∀m k i w',j m k (.exit i) w'->mW E i w')
def ln (z:x1) (w:x3) (B:x1->x3->(Exit->x3->Prop)->Prop) (A C:x3->Prop) (E:List (Nat×(x3->Prop))):Prop:=
 ∃ (j:Type) (o G:Bool) (g:R4) (cap:Array x1) (x:j) (y:j->Prop) (s:j->List x1->j->x3->Prop) (f:(Nat->Prop)->x3->Prop) (h:(Nat->Prop)->j->x3->Prop) (p:(Nat->Prop)->j->Exit->x3->Prop),
  z= .func (.func g) #[] cap/\pG P o G g cap.toList x y s f/\(∀k vs q w,s k vs q w->vs.length=1)/\
  (∀m w w',Ext w w'->f m w->f m w')/\(∀m k U V,ah (λr=>o=true/\w.heap.size<=r/\¬m r) U V->fo w.heap.size U V->h m k U->h m k V)/\(∀m k ex U V,ah (λr=>o=true/\w.heap.size<=r/\¬m r) U V->fo w.heap.size U V->p m k ex U->p m k ex V)/\
  f (λ_=>False) w/\h (λ_=>False) x w/\
  (∀a,∀m k q w',(∀r,m r->w.heap.size<=r/\r<w'.heap.size)->w.heap.size<=w'.heap.size->f m w'->s k [a] q w'->h m k w'->B a w' λex e=>match ex with
   | .normal=>bif o then (∃ci,(∀r,ci r->m r\/w'.heap.size<=r/\r<e.heap.size)/\(∀r,m r->ci r)/\f ci e/\h ci q e)/\eU w' e/\ah (λr=>r<w.heap.size\/m r) w' e else f m e/\h m q e/\(G=true->eU w' e)
   |ex=>bif o then False else p m k ex e)/\
  (∀m k w',y k->h m k w'->A w')/\(∀m k w',p m k .ret w'->C w')/\(∀m k i w',p m k (.exit i) w'->mW E i w')
def ol (z:x1) (w:x3) (B:x1->x1->x3->(Exit->x3->Prop)->Prop) (A C:x3->Prop) (E:List (Nat×(x3->Prop))):Prop:=
 ∃ (j:Type) (o G:Bool) (g:R4) (cap:Array x1) (x:j) (y:j->Prop) (s:j->List x1->j->x3->Prop) (f:(Nat->Prop)->x3->Prop) (h:(Nat->Prop)->j->x3->Prop) (p:(Nat->Prop)->j->Exit->x3->Prop),
  z= .func (.func g) #[] cap/\pG P o G g cap.toList x y s f/\(∀k vs q w,s k vs q w->vs.length=2)/\
  (∀m w w',Ext w w'->f m w->f m w')/\(∀m k U V,ah (λr=>o=true/\w.heap.size<=r/\¬m r) U V->fo w.heap.size U V->h m k U->h m k V)/\(∀m k ex U V,ah (λr=>o=true/\w.heap.size<=r/\¬m r) U V->fo w.heap.size U V->p m k ex U->p m k ex V)/\
  f (λ_=>False) w/\h (λ_=>False) x w/\
  (∀a b,∀m k q w',(∀r,m r->w.heap.size<=r/\r<w'.heap.size)->w.heap.size<=w'.heap.size->f m w'->s k [a,b] q w'->h m k w'->B a b w' λex e=>match ex with
   | .normal=>bif o then (∃ci,(∀r,ci r->m r\/w'.heap.size<=r/\r<e.heap.size)/\(∀r,m r->ci r)/\f ci e/\h ci q e)/\eU w' e/\ah (λr=>r<w.heap.size\/m r) w' e else f m e/\h m q e/\(G=true->eU w' e)
   |ex=>bif o then False else p m k ex e)/\
  (∀m k w',y k->h m k w'->A w')/\(∀m k w',p m k .ret w'->C w')/\(∀m k i w',p m k (.exit i) w'->mW E i w')
theorem uq.s {P:W0} {G:Bool} {g:R4} {cap:List x1} {f:Nat->List x1->x3->Prop} {a:x3->Prop} (h:uq P G g cap n f a):
  oi P G g cap 0 (λk=>k=n) (λk vs j w=>k<n/\j=k+1/\f k vs w) a:=by
 refine⟨h.1,λl ay m w p q r ha x=>?_⟩;have:=h.2 l ay (λk w=>m k w) w p q (λk vs w' hk hy z A=>r k (k+1) vs w' hy ⟨hk,rfl,z⟩ A) ha x;cases this with
 |code h1 B=>exact .code h1 (B.mono λ_ _ ⟨v,C,e⟩=>⟨v,C,e.elim (λh=>.inl ⟨n,rfl,h⟩) (λ⟨k,_,h⟩=>.inr ⟨k,h⟩)⟩)
 |ext v w' h1 e=>exact .ext v w' h1 (e.elim (λh=>.inl ⟨n,rfl,h⟩) (λ⟨k,_,h⟩=>.inr ⟨k,h⟩))
theorem oi.x {P:W0} {p:Type} {G:Bool} {g:R4} {cap:List x1} {B:p} {C:p->Prop} {E:p->List x1->p->x3->Prop} {q:x3->Prop} (h:oi P G g cap B C E q):pG P false G g cap B C E λ_=>q:=by
 refine⟨h.1,λl ay F w H K L hq M=>?_⟩;have:=h.2 l (λk w'=>w.heap.size<=w'.heap.size/\ ∃D,(∀r,D r->w.heap.size<=r/\r<w'.heap.size)/\ay D k w') (λk w'=>∃D,F D k w') w
  (λk U V I y ⟨J,D,a,f⟩=>⟨Y9 J I.size,D,λr s=>⟨(a r s).1,R8 (a r s).2 I.size⟩,H D k U V (I.ab _) y.o f⟩) (λk U V I y ⟨D,f⟩=>⟨D,K D k U V (I.ab _) y.o f⟩)
  (λk N vs w' hO Q ⟨J,D,a,f⟩=>hA.mono (L D k N vs w' a J hO Q f) λv T R=>R.imp (λ⟨h1,⟨D',d1,_,j,z⟩,m,e,_⟩=>⟨h1,j,⟨Y9 J e,D',λr s=>(d1 r s).elim (λh=>⟨(a r h).1,R8 (a r h).2 e⟩) λh=>⟨Y9 J h.1,h.2⟩,z⟩,λS=>m (.inl S)⟩) λ⟨_,h1,j⟩=>⟨h1,D,j⟩) hq ⟨p8 _,_,λ_ h=>h.elim,M⟩
 cases this with
 |code h1 j=>exact .code h1 (j.mono λ_ _ ⟨v,z,m⟩=>⟨v,z,m.imp (λ⟨k,e,_,D,_,A⟩=>⟨D,k,e,A⟩) (λ⟨k,D,h⟩=>⟨D,k,h⟩)⟩)
 |ext v w' h1 m=>exact .ext v w' h1 (m.imp (λ⟨k,e,_,D,_,A⟩=>⟨D,k,e,A⟩) (λ⟨k,D,h⟩=>⟨D,k,h⟩))
theorem ln.old {P:W0} {A:x1} {B:x1->x3->(Exit->x3->Prop)->Prop} {C E:x3->Prop} {F:List (Nat×(x3->Prop))}
 (h:∃ (f:Type) (G:Bool) (g:R4) (cap:Array x1) (r:f) (s:f->Prop) (q:f->List x1->f->x3->Prop) (e:x3->Prop) (j:f->x3->Prop) (m:f->Exit->x3->Prop),
  A= .func (.func g) #[] cap/\oi P G g cap.toList r s q e/\(∀k vs p w,q k vs p w->vs.length=1)/\
  (∀w w',Ext w w'->e w->e w')/\(∀k w w',Ext w w'->j k w->j k w')/\(∀k ex w w',Ext w w'->m k ex w->m k ex w')/\
  e w/\j r w/\
  (∀a,∀k p w',e w'->q k [a] p w'->j k w'->B a w' λex y=>match ex with
   | .normal=>e y/\j p y/\(G=true->eU w' y)
   |ex=>m k ex y)/\
  (∀k w',s k->j k w'->C w')/\(∀k w',m k .ret w'->E w')/\(∀k i w',m k (.exit i) w'->mW F i w')):ln P A w B C E F:=by
 obtain⟨f,G,g,cap,r,s,q,e,j,m,h1,H,I,J,K,L,M,N,O,Q,R,S⟩:=h;exact⟨f,false,G,g,cap,r,s,q,λ_=>e,λ_=>j,λ_=>m,h1,H.x,I,λ_=>J,λ_ k U V z _=>K k U V (z.ext λ_ _ h=>nomatch h.1),λ_ k ex U V z _=>L k ex U V (z.ext λ_ _ h=>nomatch h.1),M,N,
  λa _ k p w' _ _ he T W=>O a k p w' he T W,λ_=>Q,λ_=>R,λ_=>S⟩
theorem ol.old {P:W0} {A:x1} {B:x1->x1->x3->(Exit->x3->Prop)->Prop} {C E:x3->Prop} {F:List (Nat×(x3->Prop))}
 (h:∃ (f:Type) (G:Bool) (g:R4) (cap:Array x1) (r:f) (s:f->Prop) (q:f->List x1->f->x3->Prop) (e:x3->Prop) (j:f->x3->Prop) (m:f->Exit->x3->Prop),
  A= .func (.func g) #[] cap/\oi P G g cap.toList r s q e/\(∀k vs p w,q k vs p w->vs.length=2)/\
  (∀w w',Ext w w'->e w->e w')/\(∀k w w',Ext w w'->j k w->j k w')/\(∀k ex w w',Ext w w'->m k ex w->m k ex w')/\
  e w/\j r w/\
  (∀a b,∀k p w',e w'->q k [a,b] p w'->j k w'->B a b w' λex y=>match ex with
   | .normal=>e y/\j p y/\(G=true->eU w' y)
   |ex=>m k ex y)/\
  (∀k w',s k->j k w'->C w')/\(∀k w',m k .ret w'->E w')/\(∀k i w',m k (.exit i) w'->mW F i w')):ol P A w B C E F:=by
 obtain⟨f,G,g,cap,r,s,q,e,j,m,h1,H,I,J,K,L,M,N,O,Q,R,S⟩:=h;exact⟨f,false,G,g,cap,r,s,q,λ_=>e,λ_=>j,λ_=>m,h1,H.x,I,λ_=>J,λ_ k U V z _=>K k U V (z.ext λ_ _ h=>nomatch h.1),λ_ k ex U V z _=>L k ex U V (z.ext λ_ _ h=>nomatch h.1),M,N,
  λa b _ k p w' _ _ he T W=>O a b k p w' he T W,λ_=>Q,λ_=>R,λ_=>S⟩
def er (N:Nat) (free:fp):Code->List Nat->Env->x3->(Exit->Env->x3->Prop)->Prop
 | .skip,_,e,w,K=>K .normal e w
 | .label _,_,e,w,K=>K .normal e w
 | .ret,_,e,w,K=>K .ret e w
 | .exit i,_,e,w,K=>K (.exit i) e w
 | .region _ ops m,_,e,w,K=>
  bif m then en w λw'=>uc P free ops e w' (K .normal)
  else oe P free ops ops.toList e w (K .normal)
 | .seq x y,rd,e,w,K=>
  bif Nat.ble 2 (kB x) then
   cu (lam (pE N (dv x) (reads y++rd)).length λvs=>λw'=>er N free y rd (iL (pE N (dv x) (reads y++rd)) vs (ll (dv x) e)) w' K)
    λay=>er N free x (reads y++rd) e w λex a w'=>match ex with
     | .normal=>match jW a (pE N (dv x) (reads y++rd)) with
      |some vs=>app (pE N (dv x) (reads y++rd)).length ay vs w'
      |none=>False
     |ex=>K ex a w'
  else er N free x (reads y++rd) e w λex a w'=>match ex with
   | .normal=>er N free y rd a w' K
   |ex=>K ex a w'
 | .cond c x y,rd,e,w,K=>
  match eC e c with
  |some (.b true)=>er N free x rd e w K
  |some (.b false)=>er N free y rd e w K
  |some (.v v)=>Split v (er N free x rd e w K) (er N free y rd e w K)
  |some .u=>False
  |none=>False
 | .block id c,rd,e,w,K=>er N free c rd e w λex a w'=>match ex with
  | .exit i=>bif T5 i id then K .normal a w' else K (.exit i) a w'
  |ex=>K ex a w'
 | .loop c,rd,e,w,K=>
  match jW e (pF N (dv c) (reads c++rd) e) with
  |some vs=>
   Fq (pF N (dv c) (reads c++rd) e).length vs w λus w' k=>
    er N free c (reads c++rd) (iL (pF N (dv c) (reads c++rd) e) us (ll (dv c) e)) w' λex a h=>match ex with
     | .normal=>match jW a (pF N (dv c) (reads c++rd) e) with
      |some p=>k p h
      |none=>False
     |ex=>K ex a h
  |none=>False
 | .scope c,rd,e,w,K=>er N free c rd e w K
 | .rangeFunc f j q body,_,e,w,K=>
  bif free.1 then False else
  match eC e f with
  |some r=>
   Fu P r.val j.size w
    (λvs w' k=>er N free q (reads body) (iL j.toList.reverse vs.reverse e) w' λex a h=>match ex with
     | .normal=>Over w.heap.size h λs=>er N free body [] a s λex _ z=>k ex z
     |_=>False)
    (λw'=>K .normal e w') (bif iM body then λw'=>K .ret e w' else λ_=>False) (uo (λi w'=>K (.exit i) e w') (jp body))
  |none=>False
 | .goto _,_,_,_,_=>False
 | .refuse _,_,_,_,_=>False
end
theorem rt {w0:x3} (h:cB n w0 w) {l:Nat} (j:w0.heap.size<=l) (o:Obj):cB n w0 (w.putObj l o):=
 ⟨h.os,h.tape,h.output,by simpa using h.size,λr x a J=>by
  have e:=(o8.1 a).1;rw[R6 Ω];exact h.aZ r x a J,λr x f a J=>by
  have e:=(o8.1 a).1;rw[R6 Ω];exact h.old r x f a J⟩
theorem Fv {w0:x3} (h:eU w0 w) {l:Nat} {a:Obj} (f:w.heap[l]? =σ a) (j:ra a=false) (o:Obj):eU w0 (w.putObj l o):=λr x m J=>by
 have h1:=h r x m J;by_cases e:r=l
 .subst e;rw[f] at h1;cases h1;rw[j] at J;cases J
 .rw[R6 e];exact h1
theorem pH {l:Nat} {e:Obj} (h:w.heap[l]? =σ e) (j:fm e=false) (o:Obj):Ext w (w.putObj l o):=
 ⟨Ξ,λr x a J=>by
  by_cases f:r=l
  .subst f;rw[h] at a;cases a;rw[j] at J;cases J
  .rw[R6 f];exact a⟩
theorem x2 {l:Nat} {o:Obj} (f:fm o=false):Ext (w.putObj l o) w:=
 ⟨Ξ,λr x a J=>by
  by_cases e:r=l
  .subst e;rcases Nat.lt_or_ge r w.heap.size with h|h
   .rw[x3.putObj_heap_same h] at a;cases a;rw[f] at J;cases J
   .rw[Array.getElem?_eq_none (by simpa using h)] at a;cases a
  .rw[R6 e] at a;exact a⟩
theorem om (w:x3) (o:Obj):Ext w (w.alloc o):=py w o
theorem oo (w:x3) (o:Obj):cL w (w.alloc o):=pz w o
def jX (D:Nat):Deferred:={target:=.collected D,args:=#[]}
def lp (w:x3) (e:List Deferred):Prop:=∃a:List Nat,e=a.map jX/\a.Nodup/\ ∀D∈a,w.heap[D]? =σ (.deferred (σ []))
theorem lp.ct {a:List Deferred} (h:lp w a) (e:cB n w w'):lp w' a:=by
 obtain⟨f,h1,j,m⟩:=h;exact⟨f,h1,j,λD p=>e.aZ D _ (m D p) rfl⟩
section
variable {P:W0} {N:Nat}
def Fw (w:x3) (e f:List Deferred):Prop:=∃a:List Nat,f=a.map jX++e/\ ∀D∈a,w.heap.size<=D
def gD (n:Nat) (w:x3) (e:List Deferred) (w':x3) (a:List Deferred):Prop:=cB n w w'/\lp w' a/\Fw w e a
theorem gD.refl {a:List Deferred} (h:lp w a):gD n w a w a:=⟨cB.refl _ _,h,[],rfl,λ_ h=>by cases h⟩
theorem gD.trans {U:x3} {a e f:List Deferred} (h:gD n w a U e) (k:gD n U e w' f):gD n w a w' f:=by
 obtain⟨j,z,m,a3,a4⟩:=h;obtain⟨p,q,r,s,x⟩:=k;refine⟨j.trans p,q,r++m,by simp[s,a3],λD y=>?_⟩;rcases o7.1 y with h|h
 .exact Y9 j.size (x D h)
 .exact a4 D h
theorem gD.same {a:List Deferred} (h:lp w a) (e:cB n w w'):gD n w a w' a:=⟨e,h.ct e,[],rfl,λ_ h=>by cases h⟩
def kC:Exit->Bool
 | .panic _=>false
 | .outgrown=>false
 | .goto _=>false
 |_=>true
def ma (N:Nat) (free:fp) (f:Bool) (K:Exit->Env->x3->Prop) (D:List Nat) (a:Act) (w:x3) (ex:Exit) (a':Act) (w':x3):Prop:=
 kC ex=true/\ ∃e,K ex e w'/\S4 N e a'/\(∀t,t∉D->a'.tmps.getD t undef=a.tmps.getD t undef)/\(f=true->a'.defers=a.defers)/\
  (free.1=false->gD free.2 w a.defers w' a'.defers)
theorem ma.step {free:fp} {f j:Bool} {K:Exit->Env->x3->Prop} {D':List Nat} {a e a':Act} {U:x3} {ex:Exit} (h:ma N free j K D' e U ex a' w')
  (p:∀t,t∈D'->t∈D) (hk:∀t,t∉D->e.tmps.getD t undef=a.tmps.getD t undef) (q:f=true->j=true) (ae:f=true->e.defers=a.defers)
  (r:free.1=false->gD free.2 w a.defers U e.defers):ma N free f K D a w ex a' w':=by
 obtain⟨s,x,h1,y,z,A,B⟩:=h;exact⟨s,x,h1,y,λt m=>(z t λh=>m (p t h)).trans (hk t m),λh=>(A (q h)).trans (ae h),λh=>(r h).trans (B h)⟩
theorem ru {D:List Nat} {t:Nat} {x:ep}:∀ {e:Env},look (ll D e) t=σ x->look e t=σ x/\t∉D
 |[],h=>by cases h
 |(s,y)::r,h=>by
  simp only[ll] at h;cases hm:iK s D with
  |true=>
   rw[hm] at h;simp only[cond_true] at h;obtain⟨h1,f⟩:=ru h;refine⟨?_,f⟩;simp only[look];cases a:T5 s t with
   |true=>exact absurd (uj.1 hm) (by rw[Nat.eq_of_beq_eq_true a];exact f)
   |false=>exact h1
  |false=>
   rw[hm] at h;simp only[cond_false,look] at h ⊢;cases a:T5 s t with
   |true=>
    rw[a] at h;refine⟨h,λj=>?_⟩;rw[<-Nat.eq_of_beq_eq_true a] at j;rw[uj.2 j] at hm;cases hm
   |false=>
    rw[a] at h;exact ru h
theorem ur {a:Act} {e:Env}:∀ {S:List Nat} {vs:List x1},S4 N e a->(∀p∈S.zip vs,a.tmps.getD p.1 undef=p.2)->S4 N (iL S vs e) a
 |[],_,h,_=>by simpa[iL] using h
 |t::r,[],h,_=>by simpa[iL] using h
 |t::r,v::vs,h,j=>by
  have m:=ur (S:=r) (vs:=vs) h λp q=>j p (by simp[q]);refine⟨m.1,λs x J=>?_⟩;simp only[iL,look] at J;cases f:T5 t s with
  |true=>
   rw[f] at J;simp only[cond_true,Y8] at J;subst J;rw[<-Nat.eq_of_beq_eq_true f];exact j (t,v) Ξ
  |false=>rw[f] at J;exact m.2 s x J
theorem rv {e:Env} {a:Act} (m:S4 N e a):∀ {S:List Nat} {vs:List x1},jW e S=σ vs->vs.length=S.length/\ ∀p∈S.zip vs,a.tmps.getD p.1 undef=p.2
 |[],vs,h=>by simp[jW] at h;subst h;simp
 |t::r,vs,h=>by
  simp only[jW] at h;cases j:look e t with
  |none=>rw[j] at h;cases h
  |some x=>
   rw[j] at h;simp only at h;cases ac:jW e r with
   |none=>rw[ac] at h;cases h
   |some us=>
    rw[ac] at h;simp only[Y8] at h;subst h;obtain⟨h1,q⟩:=rv m ac;refine⟨by simp[h1],λp f=>?_⟩;simp only[List.zip_cons_cons,W9] at f;rcases f with rfl|f
    .exact m.2 t x j
    .exact q p f
theorem Fx {a a':Act} {e f:Env} (j:S4 N e a) (m:S4 N f a') (hk:∀t,t∉D->a'.tmps.getD t undef=a.tmps.getD t undef):S4 N (ll D e) a':=
 ⟨m.1,λt x h=>by
  obtain⟨h1,p⟩:=ru h;rw[hk t p];exact j.2 t x h1⟩
theorem Fy {o:U8} {t:Nat} (a:o.dst=σ t) (l:List U8) (hm:o∈l):t∈mU l:=by
 induction l with
 |nil=>cases hm
 |cons o' l e=>
  simp only[mU];rcases W9.1 hm with h|h
  .rw[<-h,a];simp
  .have:=e h;cases o'.dst with
   |none=>exact this
   |some d=>exact .tail _ this
theorem x9 {free:fp} {f:Bool} {K:Exit->Env->x3->Prop} {a a':Act} (j:free.1=false->lp w a.defers) (h:l3 N free (K .normal) D a w a' w'):
  ma N free f K D a w .normal a' w':=by
 obtain⟨m,h1,p,e,q⟩:=h;exact⟨rfl,m,h1,p,e.2,λ_=>e.1,λae=>by rw[e.1];exact gD.same (j ae) (q ae)⟩
theorem ya:∀ (a:List Nat) (vs:List x1) (p:Nat) (v:x1) (e:Env),a.length=vs.length->iL (a++[p]) (vs++[v]) e=iL a vs ((p,.v v)::e)
 |[],[],_,_,_,_=>rfl
 |[],_::_,_,_,_,h=>by simp at h
 |_::_,[],_,_,_,h=>by simp at h
 |q::a,u::vs,p,v,e,h=>by
  simp only[List.cons_append,iL];rw[ya a vs p v e (by simpa using h)]
theorem yb:∀ (a:List Nat) (vs:List x1) (ih:Array x1) (e:Env),a.length=vs.length->(a.all λt=>Nat.blt t N)=true->S4 N e {tmps:=ih,defers:=[]}->
  S4 N (iL a.reverse vs.reverse e) {tmps:=(a.zip vs).foldl (λih (p:Nat×x1)=>ih.setIfInBounds p.1 p.2) ih,defers:=[]}
 |[],[],_,_,_,_,h=>h
 |[],_::_,_,_,h,_,_=>by simp at h
 |_::_,[],_,_,h,_,_=>by simp at h
 |p::a,v::vs,ih,e,m,f,h=>by
  have j:a.length=vs.length:=by simpa using m
  simp only[List.all_cons,V0] at f;simp only[List.zip_cons_cons,U7,List.reverse_cons];rw[ya _ _ _ _ _ (by simpa using j)];exact yb a vs _ _ j f.2 (h.put (d:=σ p) (x:=.v v) (v:=v) f.1 rfl)
def iN (free:fp) (c:Code):Bool:=free.1|| !jV c
theorem yc:∀f a b:Bool,(f|| !(a||b))=true->(f|| !a)=true:=Φ
theorem yd:∀f a b:Bool,(f|| !(a||b))=true->(f|| !b)=true:=Φ
def exitCode:Exit->Option Code
 | .ret=>σ .ret
 | .exit id=>σ (.exit id)
 |_=>ν
end
section
variable {P:W0} {N:Nat}
def Sound (P:W0) (N:Nat) (c:Code):Prop:=
 ∀ (free:fp) (r:Option Nat) (rd:List Nat) (e:Env) (a:Act) (w:x3) (K:Exit->Env->x3->Prop) (Q:Exit->Act->x3->Prop),
  wf N c=true->(∀l,r=σ l->free.1=false/\ ∃f,w.heap[l]? =σ (.loop f))->(free.1=false->lp w a.defers)->
  er P N free c rd e w K->S4 N e a->(∀ex a' w',ma N free (iN free c) K (dv c) a w ex a' w'->Q ex a' w')->(∀h a w,¬Q (.panic h) a w)->
  c.wpIn (ek r) 0 P Q a w
theorem Fz {x y:Code} (I:Sound P N x) (Y:Sound P N y):Sound P N (.seq x y):=by
 intro free r rd e a w K Q B J Z h L M O;simp only[wf,V0] at B;have R:∀t,t∈dv x->t∈dv (.seq x y):=λt p=>by simp[dv,p]
 have aa:∀t,t∈dv y->t∈dv (.seq x y):=λt p=>by simp[dv,p]
 have S:iN free (.seq x y)=true->iN free x=true:=λh=>yc _ _ _ h;have ab:iN free (.seq x y)=true->iN free y=true:=λh=>yd _ _ _ h;refine wpIn_seq ?_;have T:∀ (f:Env) (j:Act) (U:x3),er P N free y rd f U K->S4 N f j->(∀t,t∉dv x->j.tmps.getD t undef=a.tmps.getD t undef)->
   (iN free (.seq x y)=true->j.defers=a.defers)->(free.1=false->gD free.2 w a.defers U j.defers)->y.wpIn (ek r) 0 P Q j U:=by
  intro f j U h1 q hk ae m;refine Y free r rd f j U K Q B.2 ?_ (λh=>(m h).2.1) h1 q ?_ O
  .intro l ad;obtain⟨V,af,A⟩:=J l ad;exact⟨V,af,(m V).1.aZ _ _ A rfl⟩
  .intro ex a' w' z;exact M ex a' w' (z.step aa (λt p=>hk t λh=>p (R t h)) ab ae m)
 have W:∀ (s:Exit->Env->x3->Prop),er P N free x (reads y++rd) e w s->
   (∀f j U,ma N free (iN free x) s (dv x) a w .normal j U->S4 N f j->s .normal f U->(∀t,t∉dv x->j.tmps.getD t undef=a.tmps.getD t undef)->
    (iN free (.seq x y)=true->j.defers=a.defers)->(free.1=false->gD free.2 w a.defers U j.defers)->y.wpIn (ek r) 0 P Q j U)->
   (∀ex f U,ex≠ .normal->s ex f U->K ex f U)->x.wpIn (ek r) 0 P (Exit.then (y.wpIn (ek r) 0 P Q) Q) a w:=by
  intro s ac m ag;refine I free r _ e a w s _ B.1 J Z ac L ?_ ?_
  .intro ex j U z;cases ex with
   |normal=>
    have ah:=z;obtain⟨A,f,h1,C,E,F,G⟩:=z;exact m f j U ah C h1 E (λh=>F (S h)) G
   |_=>
    obtain⟨A,f,h1,C,E,F,G⟩:=z;refine M _ j U ⟨A,f,ag _ f U Ξ h1,C,λt p=>E t λh=>p (R t h),λh=>F (S h),G⟩
  .intro ai a w aj;exact O ai a w aj
 simp only[er] at h;cases X:Nat.ble 2 (kB x) with
 |false=>
  rw[X] at h;refine W _ h (λf j U _ q h1 hk ae m=>T f j U h1 q hk ae m) ?_;intro ex f U H h1;cases ex<;>first|exact absurd rfl H|exact h1
 |true=>
  rw[X] at h;refine W _ h (λf j U _ q h1 hk ae m=>?_) ?_
  .simp only at h1;cases ac:jW f (pE N (dv x) (reads y++rd)) with
   |none=>rw[ac] at h1;exact h1.elim
   |some vs=>
    rw[ac] at h1;obtain⟨ak,al⟩:=rv q ac;simp only at h1;rw[rn _ _ _ ak] at h1;exact T _ j U h1 (ur (Fx L q hk) al) hk ae m
  .intro ex f U H h1;cases ex<;>first|exact absurd rfl H|exact h1
theorem FA {c:Code} (Z:Sound P N c):Sound P N (.loop c):=by
 intro free r rd e a w K Q M aa ab h C ad af;simp only[wf] at M;simp only[er] at h;generalize aw:pF N (dv c) (reads c++rd) e=S at h;cases ac:jW e S with
 |none=>rw[ac] at h;exact h.elim
 |some vs=>
  rw[ac] at h;simp only at h;obtain⟨ag,ah,m,ai⟩:=h;obtain⟨aj,ak⟩:=rv C ac;let Inv:Act->x3->Prop:=λf U=>∃us,us.length=S.length/\app S.length ag us U/\(∀p∈S.zip us,f.tmps.getD p.1 undef=p.2)/\f.tmps.size=N/\
   (∀t,t∉dv c->f.tmps.getD t undef=a.tmps.getD t undef)/\(iN free c=true->f.defers=a.defers)/\(free.1=false->gD free.2 w a.defers U f.defers)
  let q:Act->List x1:=λf=>S.map λt=>f.tmps.getD t undef;have O:∀ (f:Act) (us:List x1),us.length=S.length->(∀p∈S.zip us,f.tmps.getD p.1 undef=p.2)->q f=us:=by
   intro f us s y;apply List.ext_getElem
   .simp[q,s]
   .intro i h1 j;have hi:i<S.length:=by simpa[q] using h1
    have al:(S[i],us[i])∈S.zip us:=by
     have:=T9 (l:=S.zip us) (n:=i) (by simp[List.length_zip,s,hi]);simpa using this
    simpa[q] using y _ al
  refine wpIn_loop Inv (λf U=>app S.length ah (q f) U) ⟨vs,aj,m,ak,C.1,λ_ _=>rfl,λ_=>rfl,λae=>gD.refl (ab ae)⟩ ?_;rintro f U ⟨us,s,am,y,an,hk,ae,z⟩;have A:=rp S.length _ us ai;rw[rn _ _ _ s] at A;have A:=A U am;have ao:S4 N (iL S us (ll (dv c) e)) f:=by
   refine ur (a:=f) (e:=ll (dv c) e) ⟨an,λt x B=>?_⟩ y;obtain⟨h1,j⟩:=ru B;rw[hk t j];exact C.2 t x h1
  refine Z free r _ _ f U _ _ M ?_ (λh=>(z h).2.1) A ao ?_ ?_
  .intro l ap;obtain⟨R,aq,m⟩:=aa l ap;exact⟨R,aq,(z R).1.aZ _ _ m rfl⟩
  .intro ex E V F;have T:∀t,t∉dv c->E.tmps.getD t undef=a.tmps.getD t undef:=by
    obtain⟨_,_,_,_,G,_,_⟩:=F;exact λt B=>(G t B).trans (hk t B)
   cases ex with
   |normal=>
    obtain⟨m,H,h1,j,G,I,J⟩:=F;simp only at h1;cases L:jW H S with
    |none=>rw[L] at h1;exact h1.elim
    |some W=>
     rw[L] at h1;obtain⟨X,Y⟩:=rv j L;refine⟨⟨W,X,h1.1,Y,j.1,T,λh=>(I h).trans (ae h),λh=>(z h).trans (J h)⟩,?_⟩;rw[O f us s y,O E W X Y];exact h1.2
   |_=>
    obtain⟨m,H,h1,j,G,I,J⟩:=F;exact ad _ E V ⟨m,H,h1,j,T,λh=>(I h).trans (ae h),λh=>(z h).trans (J h)⟩
  .intro au a w av;exact af au a w av
theorem FB {o:Obj} (h:fm o=false):book o=true\/ra o=true:=by cases o<;>first|exact .inl rfl|exact .inr rfl|cases h
theorem FC {l:Nat} {f q h:x3} {s w:Obj} (y:f.heap[l]? =σ s) (a:cB n f q) (e:cB n (q.putObj l w) h) (z:l<h.heap.size) (hi:eU f h):cL f (h.putObj l s):=
 ⟨e.os.trans a.os,jm.trans e.tape a.tape,e.output.trans a.output,by have h1:=a.size;have A:=e.size;simp at A ⊢;omega,λr x j J=>by
  by_cases p:r=l
  .subst p;rw[y] at j;cases j;exact x3.putObj_heap_same z
  .rw[R6 p];rcases FB J with m|m
   .exact e.aZ r x (by rw[R6 p];exact a.aZ r x j m) m
   .exact hi r x j m⟩
theorem FD {f:S2} {T:Array Tmp} {X body:Code} (bd:Sound P N X) (aj:Sound P N body):Sound P N (.rangeFunc f T X body):=by
 intro free r rd e a w K Q aL S aw h ac be b0;simp only[wf,V0] at aL;obtain⟨bf,bg,bh⟩:=aL;simp only[er] at h;obtain⟨fr,b⟩:=free;cases fr with
 |true=>exact h.elim
 |false=>
  simp only[cond_false] at h;cases ae:eC e f with
  |none=>rw[ae] at h;exact h.elim
  |some b1=>
   rw[ae] at h;obtain⟨aM,o,G,g,cap,b2,b3,b4,ak,aN,ax,bi,⟨aO,bj⟩,bk,haP,al,az,hbl,bm,bn,bo,bp,bq⟩:=h;have br:∀m k ex w',kC ex=true->ex≠ .normal->ax m k ex w'->K ex e w':=by
    intro m k ex w' ad aA I;cases ex with
    |normal=>exact absurd rfl aA
    |ret=>
     have:=bp m k w' I;cases S:iM body with
     |true=>rw[S] at this;exact this
     |false=>rw[S] at this;exact this.elim
    |exit i=>exact x0 (bq m k i w' I)
    |_=>cases ad
   have bt:a.eval f= .func (.func g) #[] cap:=by rw[ac.eC ae];exact bi
   refine wpIn_rangeFunc ?_;intro fn _;obtain⟨D,mark,l,z,s,bu,C,aQ,am,M,aR,an⟩:∃ (D:Nat) (mark:List Deferred) (l:Nat) (z:x3) (s:LoopState->Option Code->Loop),
     (Instr.enterLoop fn a.tmps T X body (ek r).round).run P w= .ok (l,mark) z/\
     s=(λst bw=>{state:=st,pending:=bw,fn,tmps:=a.tmps,params:=T,assign:=X,body,defers:=D})/\
     z.heap[l]? =σ (.loop (s .ready ν))/\(mark=[]\/(mark=[jX D]/\z.heap[D]? =σ (.deferred (σ []))/\w.heap.size<=D/\D≠l))/\Ext w z/\cL w z/\w.heap.size<=l:=by
    cases r with
    |none=>
     refine⟨w.heap.size,[jX w.heap.size],w.heap.size+1,_,_,run_enterLoop_outer _ _ _ _ _,rfl,?_,.inr ⟨rfl,?_,p8 _,Ω⟩,?_,?_,Ω⟩
     .have:=x3.alloc_heap_new (w.alloc (.deferred (σ []))) (.loop {state:=.ready,pending:=ν,fn,tmps:=a.tmps,params:=T,assign:=X,body,defers:=w.heap.size});rwa [x3.size_alloc] at this
     .exact (Below.heap_alloc _ _ _ Ξ).trans (x3.alloc_heap_new w _)
     .exact (om w _).trans (om _ _)
     .exact (oo w _).trans (oo _ _)
    |some bx=>
     obtain⟨_,bz,O⟩:=S bx rfl;exact⟨bz.defers,[],w.heap.size,_,_,run_enterLoop_inner O _ _ _ _ _,rfl,x3.alloc_heap_new w _,.inl rfl,om _ _,oo _ _,p8 _⟩
   let R:x3->Prop:=λj=>mark=[]\/(mark=[jX D]/\j.heap[D]? =σ (.deferred (σ []))/\w.heap.size<=D/\D≠l);have aB:∀ {m:Nat} {A B:x3},cB m A B->R A->R B:=λE h=>h.imp id λ⟨h1,q,y⟩=>⟨h1,E.aZ _ _ q rfl,y⟩;have ao:∀ {A:x3} (o:Obj),R A->R (A.putObj l o):=λo h=>h.imp id λ⟨h1,q,y,H⟩=>⟨h1,(R6 H).trans q,y,H⟩;have bA:cB b w z:=aR.b;have aS:=(o8.1 aQ).1;have aT:∀ {A B:x3},fo z.heap.size A B->R A->R B:=λE h=>h.imp id λ⟨h1,q,y⟩=>⟨h1,E.old _ _ (by
    rcases am with hm|⟨_,aw,_⟩
    .rw[hm] at h1;cases h1
    .exact (o8.1 aw).1) q rfl,y⟩
   have af:∀ {A:x3} (o:Obj),fo w.heap.size A (A.putObj l o):=λ{A} o=>⟨rfl,.jS,rfl,Ξ,λr x S I _=>by rw[R6 Ω];exact I⟩;let ay:(Nat->Prop)->aM->x3->Prop:=λm k j=>aN m k j/\j.heap[l]? =σ (.loop (s .ready ν))/\cB b w j/\R j;let aU:(Nat->Prop)->aM->x3->Prop:=λm k j=>∃ex c,kC ex=true/\exitCode ex=σ c/\ax m k ex j/\j.heap[l]? =σ (.loop (s .done (σ c)))/\cB b w j/\R j;have own:∀ {m:Nat->Prop} {A B:x3},ah (λr=>o=true/\z.heap.size<=r/\¬m r) A B->ah (λr=>o=true/\w.heap.size<=r/\¬m r) A B:=λh=>h.mono λr _ h=>⟨h.1,Y9 M.size h.2.1,h.2.2⟩;have aC:=bj l ay aU z (λm k A B he E ⟨h1,q,y,H⟩=>⟨al m k A B (own he) (E.mono M.size) h1,E.old _ _ aS q rfl,y.xN E M.size,aT E H⟩)
    (λm k A B he E ⟨ex,c,O,h1,q,y,H,ag⟩=>⟨ex,c,O,h1,az m k ex A B (own he) (E.mono M.size) q,E.old _ _ aS y rfl,H.xN E M.size,aT E ag⟩) ?round (haP _ _ _ M hbl) ⟨al _ _ _ _ (M.ab _) aR.o bm,aQ,bA,am⟩
   case round=>
    intro m k ap vs j aV bB hak aW ⟨hi,aq,bC,bD⟩;have aD:=bk k vs ap j aW;have aX:=run_yield (P:=P) (args:=vs.toArray) aq (by rw[C];simp[aD]);rw[C] at aX;refine⟨fn,_,X,body,aX,roundIn_of_wpIn trivial ?_⟩;have bE:(T.zip vs.toArray).foldl (λtmps x=>match x with|(t,a)=>tmps.setIfInBounds t a) a.tmps=(T.toList.zip vs).foldl (λih (p:Nat×x1)=>ih.setIfInBounds p.1 p.2) a.tmps:=by
     rw[<-Array.foldl_toList,Array.toList_zip]
    have aY:=yb (N:=N) T.toList vs a.tmps e (by simp[aD]) bf (show S4 N e {tmps:=a.tmps,defers:=[]} from⟨ac.1,ac.2⟩);rw[<-bE] at aY;have bF:j.heap[l]? =σ (.loop (s .ready ν)):=aq;refine bd (false,b) (σ l) _ _ _ j _ _ bg (λl' aE=>⟨rfl,by cases aE;exact⟨_,aq⟩⟩) (λ_=>⟨[],rfl,List.nodup_nil,λD am=>by cases am⟩) (by have aj:=rp _ _ vs bn;rw[rn _ _ _ aD] at aj;exact aj m k ap j (λr S=>⟨Y9 M.size (aV r S).1,(aV r S).2⟩) (Y9 M.size bB) hak aW hi) aY ?_ (λ_ _ _ h=>h);intro ex a1 F aF;obtain⟨O,b5,h1,q,y,H,ag⟩:=aF;obtain⟨U,bG,_⟩:=ag rfl;cases ex with
    |normal=>
     have Y:F.heap[l]? =σ (.loop (s .ready ν)):=U.aZ _ _ aq rfl;have bH:=(o8.1 Y).1;refine⟨_,run_beginRound Y (by rw[C]),?_⟩;have bI:Ext F (F.putObj l (.loop {s .ready ν with state:=.busy})):=pH Y rfl _;have a2:(F.putObj l (.loop {s .ready ν with state:=.busy})).heap[l]? =σ (.loop {s .ready ν with state:=.busy}):=x3.putObj_heap_same bH;have bJ:lp (F.putObj l (.loop {s .ready ν with state:=.busy})) a1.defers:=by
      obtain⟨au,Z,aa,ai⟩:=bG;refine⟨au,Z,aa,λD' V=>?_⟩;have:=ai D' V;have aA:D'≠l:=λhe=>by rw[he,Y] at this;cases this
      rw[R6 aA];exact this
     have a6:cB b w (F.putObj l (.loop {s .ready ν with state:=.busy})):=rt (bC.trans U) an _;have a7:=ao (.loop {s .ready ν with state:=.busy}) (aB U bD);have bK:=h1 _ bI ⟨x2 rfl,af _⟩ (Fv (eU.refl _) Y rfl _);refine aj (false,b) (σ l) _ _ a1 _ _ _ bh (λl' aE=>⟨rfl,by cases aE;exact⟨_,a2⟩⟩) (λ_=>bJ) bK q ?_ (λ_ _ _ h=>h);intro bL b6 J aF;obtain⟨aG,b7,g1,b8,b9,ca,bM⟩:=aF;obtain⟨L,_,_⟩:=bM rfl;have aH:J.heap[l]? =σ (.loop {s .ready ν with state:=.busy}):=L.aZ _ _ a2 rfl;have aI:=(o8.1 aH).1;have a8:=λbN=>run_endRound (P:=P) bN aH;have av:∀ (o:Obj),Ext J (J.putObj l o):=λo=>pH aH rfl o;have ba:∀ (ex:Exit) (c:Code),kC ex=true->exitCode ex=σ c->(bif o then False else ax m k ex J)->
       ∃v w',(Instr.endRound l (σ c)).run P J= .ok v w'/\ ∃aJ,Ending.returned v= .returned aJ/\((aJ= .bool true/\(∃ci,(∀r,ci r->m r\/j.heap.size<=r/\r<w'.heap.size)/\(∀r,m r->ci r)/\ak ci w'/\ay ci ap w')/\(G=true\/o=true->cL j w')/\j.heap.size<=w'.heap.size/\(o=true->ah (λr=>r<z.heap.size\/m r) j w'))\/(o=false/\aJ= .bool false/\aU m k w')):=by
      intro ex c ad bO bb;cases o with
      |true=>exact bb.elim
      |false=>
       refine⟨_,_,a8 (σ c),_,rfl,.inr ⟨rfl,rfl,ex,c,ad,bO,az m k ex _ _ ((av _).ab _) (af _) bb,?_,rt (a6.trans L) an _,ao _ (aB L a7)⟩⟩;rw[x3.putObj_heap_same aI,C];rfl
     cases bL with
     |normal=>
      have bP:j.heap.size<=J.heap.size:=by
       have h1:=U.size;have q:=L.size;simp at q;omega
      obtain⟨⟨ci,d1,d2,Z,aa⟩,bQ,bR⟩:(∃ci,(∀r,ci r->m r\/j.heap.size<=r/\r<J.heap.size)/\(∀r,m r->ci r)/\ak ci J/\aN ci ap J)/\(G=true\/o=true->eU j J)/\(o=true->ah (λr=>r<z.heap.size\/m r) j J):=by
       cases o with
       |true=>exact⟨g1.1,λ_=>g1.2.1,λ_=>g1.2.2.mono λr _ h=>h.imp (λh=>R8 h M.size) id⟩
       |false=>exact⟨⟨m,λr h=>.inl h,λ_ h=>h,g1.1,g1.2.1⟩,λh=>g1.2.2 (h.elim id λh=>nomatch h),λh=>nomatch h⟩
      refine⟨_,_,a8 ν,_,rfl,.inl ⟨rfl,⟨ci,by simpa using d1,d2,haP _ _ _ (av _) Z,al _ _ _ _ ((av _).ab _) (af _) aa,?_,rt (a6.trans L) an _,ao _ (aB L a7)⟩,λbS=>?_,?_,λbT=>(bR bT).trans ((av _).ab _)⟩⟩
      .rw[x3.putObj_heap_same aI,C];rfl
      .have:=FC bF U L aI (bQ bS);subst C;exact this
      .simpa using bP
     |ret=>exact ba .ret _ rfl rfl g1
     |exit id=>exact ba (.exit id) _ rfl rfl g1
     |goto t=>cases aG
     |panic bU=>cases aG
     |outgrown=>cases aG
    |_=>exact h1.elim
   have aC:=gB.calls P aC aO;refine⟨l,mark,z,{target:=.fn (.func g) cap,args:=#[.func (.yield l) #[] #[]]},z,g,#[.func (.yield l) #[] #[]]++cap,z,bu,?_,λ_ _=>trivial,?_,tV _ _,?_⟩
   .simp only[resolve,bt];simp[go_sem]
   .simp only[invoke];exact aO _ _
   .have bV:(#[.func (.yield l) #[] #[]]++cap:Array x1)=(x1.func (.yield l) #[] #[]::cap.toList).toArray:=by apply Array.toList_inj.1;simp
    rw[bV];refine CallsIn.mono (xO aC) ?_;rintro cb F ⟨v,rfl,bW⟩;have left:∀ (W:Loop) (ex:Exit),kC ex=true->F.heap[l]? =σ (.loop W)->W.state≠ .busy->cB b w F->R F->K ex e (F.putObj l (.loop {W with state:=.exhausted}))->
      Q ex {a with defers:=mark++a.defers} (F.putObj l (.loop {W with state:=.exhausted})):=by
     intro W ex ad Y cc U bc bX;have L:cB b w (F.putObj l (.loop {W with state:=.exhausted})):=rt U an _;refine be ex _ _ ⟨ad,e,bX,⟨ac.1,ac.2⟩,λ_ _=>rfl,(λh=>by simp[iN,jV] at h),λ_=>⟨L,?_,?_⟩⟩
     case refine_2=>
      rcases bc with hm|⟨hm,_,bY,_⟩
      .exact⟨[],by simp[hm],λ_ h=>by cases h⟩
      .exact⟨[D],by simp[hm],λD' V=>by simp at V;omega⟩
     obtain⟨au,Z,aa,ai⟩:=aw rfl;have aK:=ao (.loop {W with state:=.exhausted}) bc;rcases aK with hm|⟨hm,aK,bY,_⟩
     .exact⟨au,by simp[hm,Z],aa,λD' V=>L.aZ _ _ (ai D' V) rfl⟩
     .refine⟨D::au,by simp[hm,Z],List.nodup_cons.2 ⟨λbZ=>?_,aa⟩,λD' V=>?_⟩
      .have:=(o8.1 (ai D bZ)).1;omega
      .rcases W9.1 V with h|h
       .rw[h];exact aK
       .exact L.aZ _ _ (ai D' h) rfl
    rcases bW with⟨m,k,hk,h1,q,y,H⟩|⟨m,k,ex,c,O,h1,q,y,H,ag⟩
    .refine⟨ν,_,by have:=run_endLoop (P:=P) q (by rw[C];simp);rw[C] at this;exact this,?_⟩;have:=left (s .ready ν) .normal rfl q (by rw[C];simp) y H (bo m _ _ hk (al m _ _ _ ((pH q rfl _).ab _) (af _) h1));rw[C] at this;exact this
    .refine⟨σ c,_,by have:=run_endLoop (P:=P) y (by rw[C];simp);rw[C] at this;exact this,?_⟩;have:=left (s .done (σ c)) ex O y (by rw[C];simp) H ag (br m k ex _ O (by intro he;rw[he] at h1;cases h1) (az m _ _ _ _ ((pH y rfl _).ab _) (af _) q));rw[C] at this;cases ex with
     |normal=>cases h1
     |ret=>cases h1;exact wpIn_ret this
     |exit id=>cases h1;exact wpIn_exit this
     |goto t=>cases O
     |panic bU=>cases O
     |outgrown=>cases O
theorem rx {b:Frame} {a:Act} {k:List Item} {cs:List Frame} {c:Code}:
  step P (lone (b.atR a (.code (.scope c)::k)) cs w)= .next (lone (b.atR a (.code c:: .inScope c::k)) cs w):=
 step_lone_go (by simp[stepG,stepG.exec,Frame.atR])
theorem FE {b:Frame} {a:Act} {k:List Item} {cs:List Frame} {c:Code}:
  step P (lone (b.atR a (.inScope c::k)) cs w)= .next (lone (b.atR a k) cs w):=
 step_lone_go (by simp[stepG,stepG.exec,Frame.atR])
theorem FF {F:Fence} {c:Code} {Q:Exit->Act->x3->Prop} {a:Act} (h:c.wpIn F n P (λex a' w'=>kC ex=true/\Q ex a' w') a w):
  (Code.scope c).wpIn F n P Q a w:=by
 intro b k cs y m p;have f:(lone (b.atR a (.code (.scope c)::k)) cs w).fenced P F:=fenced_calm m p rfl;obtain⟨e,q,r,⟨s,x⟩,j⟩:=h b (.inScope c::k) cs y m p;have I:∀id,exitTo id (.inScope c::k)=exitTo id k:=λid=>by simp[exitTo]
 cases e with
 |normal=>exact⟨.normal,q,r,x,.head f rx (StepsIn.trans j (.one (fenced_calm m p rfl) FE))⟩
 |exit id=>
  exact⟨.exit id,q,r,x,λz hk=>.head f rx (j.1 z (by rw[I];exact hk)),
   λA hk=>let⟨B,h1,C⟩:=j.2 A (by rw[I];exact hk);⟨B,h1,.head f rx C⟩⟩
 |ret=>exact⟨_,q,r,x,.of_steps (.one f rx) j⟩
 |goto l=>cases s
 |panic E=>cases s
 |outgrown=>cases s
theorem sound (hm:P.follows .mixedOrders=true) (c:Code):Sound P N c:=by
 induction c with
 |skip=>exact λfree r rd e a w K Q _ _ m h j p _=>wpIn_skip (p _ _ _ ⟨rfl,e,h,j,λ_ _=>rfl,λ_=>rfl,λae=>gD.refl (m ae)⟩)
 |label l=>exact λfree r rd e a w K Q _ _ m h j p _=>wpIn_label (p _ _ _ ⟨rfl,e,h,j,λ_ _=>rfl,λ_=>rfl,λae=>gD.refl (m ae)⟩)
 |ret=>exact λfree r rd e a w K Q _ _ m h j p _=>wpIn_ret (p _ _ _ ⟨rfl,e,h,j,λ_ _=>rfl,λ_=>rfl,λae=>gD.refl (m ae)⟩)
 |exit i=>exact λfree r rd e a w K Q _ _ m h j p _=>wpIn_exit (p _ _ _ ⟨rfl,e,h,j,λ_ _=>rfl,λ_=>rfl,λae=>gD.refl (m ae)⟩)
 |goto l=>exact λfree r rd e a w K Q _ _ m h j p _=>h.elim
 |refuse s=>exact λfree r rd e a w K Q _ _ m h j p _=>h.elim
 |region id ops Y=>
  intro free r rd e a w K Q q C m h j p E;simp only[wf,V0] at q;have U:∀o∈ops.toList,∀t,o.dst=σ t->t∈mU ops.toList:=λo Z t H=>Fy H _ Z;simp only[er] at h;cases Y with
  |false=>exact Fc U q.1 h j λa' w' A=>p _ _ _ (x9 m A)
  |true=>
   simp only[Y7,Bool.false_or] at q;exact Fm hm q.2 E U q.1 (λw' h1 F G=>h w' h1 F G) j λa' w' A=>p _ _ _ (x9 m A)
 |seq x y I O=>exact Fz I O
 |cond c x y I O=>
  intro free r rd e a w K Q q C m h j p E;simp only[wf,V0] at q;have V:∀ex a' w',ma N free (iN free x) K (dv x) a w ex a' w'->Q ex a' w':=λex a' w' A=>p ex a' w' (by
   obtain⟨M,J,h1,F,G,L,R⟩:=A;exact⟨M,J,h1,F,λt H=>G t λh=>H (by simp[dv,h]),(λh=>L (yc _ _ _ h)),R⟩)
  have W:∀ex a' w',ma N free (iN free y) K (dv y) a w ex a' w'->Q ex a' w':=λex a' w' A=>p ex a' w' (by
   obtain⟨M,J,h1,F,G,L,R⟩:=A;exact⟨M,J,h1,F,λt H=>G t λh=>H (by simp[dv,h]),(λh=>L (yd _ _ _ h)),R⟩)
  simp only[er] at h;cases B:eC e c with
  |none=>rw[B] at h;exact h.elim
  |some v=>
   rw[B] at h;cases v with
   |b t=>
    cases t with
    |true=>exact wpIn_cond (t:=true) (j.eC B) (I free r rd e a w K Q q.1 C m h j V E)
    |false=>exact wpIn_cond (t:=false) (j.eC B) (O free r rd e a w K Q q.2 C m h j W E)
   |v z=>
    obtain⟨t,aa,H,ae⟩:=h;refine wpIn_cond (t:=t) ((j.eC B).trans aa) ?_;cases t with
    |true=>exact I free r rd e a w K Q q.1 C m (H rfl) j V E
    |false=>exact O free r rd e a w K Q q.2 C m (ae rfl) j W E
   |u=>exact h.elim
 |block id c B=>
  intro free r rd e a w K Q q C m h j p E;simp only[wf] at q;simp only[er] at h;refine wpIn_block (B free r rd e a w _ _ q C m h j ?_ λX a w S=>E X a w S);intro ex a' w' A;obtain⟨M,J,h1,F,G,L⟩:=A;cases ex with
  |exit i=>
   simp only[Exit.inBlock];simp only at h1;by_cases hi:i=id
   .rw[if_pos hi];rw[hi,Nat.beq_refl] at h1;exact p _ _ _ ⟨rfl,J,h1,F,G,L⟩
   .rw[if_neg hi];have:T5 i id=false:=by
     cases T:T5 i id with
     |true=>exact absurd (Nat.eq_of_beq_eq_true T) hi
     |false=>rfl
    rw[this] at h1;exact p _ _ _ ⟨rfl,J,h1,F,G,L⟩
  |_=>exact p _ _ _ ⟨M,J,h1,F,G,L⟩
 |loop c B=>exact FA B
 |scope c B=>
  intro free r rd e a w K Q q C m h j p E;exact FF (B free r rd e a w K (λex a' w'=>kC ex=true/\Q ex a' w') q C m h j (λex a' w' A=>⟨A.1,p ex a' w' A⟩) λX a w S=>by cases S.1)
 |rangeFunc f ac ad body ab T=>exact FD ab T
def kD:Nat->List x1->Env
 |_,[]=>[]
 |i,v::r=>(i,.v v)::kD (i+1) r
def mX (P:W0) (e:Env) (w:x3):List ResultVar->(List x1->Prop)->Prop
 |[],K=>K []
 | .tmp t::r,K=>match look e t with
  |some x=>mX P e w r λvs=>K (x.val::vs)
  |none=>False
 | .cell a t::r,K=>match look e a with
  |some x=>aa P (do loadVar t (<-asAddr x.val)) w λv=>mX P e w r λvs=>K (v::vs)
  |none=>False
def ry:List x1->x1
 |[v]=>v
 |vs=>.tuple vs.toArray
def lq (P:W0) (a:List ResultVar) (marks:Bool) (n:Nat) (Q:x1->x3->Prop):Exit->Env->x3->Prop
 | .normal,e,w| .ret,e,w=>mX P e w a λvs=>bif marks then ul n w λw'=>Q (ry vs) w' else Q (ry vs) w
 |_,_,_=>False
def mb:List ResultVar->List Nat
 |[]=>[]
 | .tmp t::r=>t::mb r
 | .cell a _::r=>a::mb r
theorem ye:∀ (vs:List x1) (i t:Nat) (x:ep),look (kD i vs) t=σ x-> ∃j v,t=i+j/\vs[j]? =σ v/\x= .v v
 |[],_,_,_,h=>by cases h
 |v::r,i,t,x,h=>by
  simp only[kD,look] at h;cases a:T5 i t with
  |true=>
   rw[a] at h;simp only[cond_true,Y8] at h;exact⟨0,v,by rw[Nat.eq_of_beq_eq_true a];rfl,rfl,h.symm⟩
  |false=>
   rw[a] at h;obtain⟨j,u,h1,e,f⟩:=ye r (i+1) t x h;exact⟨j+1,u,Ω,by simpa using e,f⟩
theorem ut (vs:List x1) (h:vs.length<=n):S4 n (kD 0 vs) {tmps:=vs.toArray++Array.replicate (n-vs.toArray.size) undef,defers:=[]}:=by
 refine⟨Θ,λt x I=>?_⟩;obtain⟨j,v,h1,a,rfl⟩:=ye vs 0 t x I;have h1:t=j:=Ω
 subst h1;have e:t<vs.length:=(x4.1 a).1;rw[Array.getD_eq_getD_getElem?,Array.getElem?_append_left (by simpa using e)];simp[a,ep.val]
def rz (ih:Array x1):ResultVar->Sem x1
 | .tmp t=>pure (ih.getD t undef)
 | .cell b t=>do loadVar t (<-asAddr (ih.getD b undef))
theorem FG (fn:Func) (ih:Array x1):results fn ih=(do let vs <-fn.results.mapM (rz ih);pure (if h:vs.size=1 then vs[0] else .tuple vs)):=by
 unfold results;congr 2
theorem uu {e:Env} {a:Act} {w:x3} (j:S4 N e a):∀ (m:List ResultVar) (K:List x1->Prop),mX P e w m K->
  ∃vs,K vs/\vs.length=m.length/\ ∀w',Ext w w'->(m.mapM (rz a.tmps)).run P w'= .ok vs w'
 |[],K,h=>⟨[],h,rfl,λw' _=>by simp[W7]⟩
 | .tmp t::r,K,h=>by
  simp only[mX] at h;cases f:look e t with
  |none=>rw[f] at h;exact h.elim
  |some x=>
   rw[f] at h;obtain⟨vs,h1,p,q⟩:=uu j r _ h;refine⟨x.val::vs,h1,by simp[p],λw' hw=>?_⟩;rw[List.mapM_cons];simp only[rz,X8,W7,X9,q w' hw,j.2 t x f]
 | .cell b t::r,K,h=>by
  simp only[mX] at h;cases f:look e b with
  |none=>rw[f] at h;exact h.elim
  |some x=>
   rw[f] at h;obtain⟨v,ac,h⟩:=h;obtain⟨vs,h1,p,q⟩:=uu j r _ h;refine⟨v::vs,h1,by simp[p],λw' hw=>?_⟩;rw[List.mapM_cons];have:=ac w' hw;rw[<-j.2 b x f] at this;rw[rz,X8,this];simp only[X9,X8,q w' hw,W7]
theorem uv {fn:Func} {e:Env} {a:Act} (j:S4 N e a) {K:List x1->Prop} (h:mX P e w fn.results.toList K):
  ∃vs,K vs/\ ∀w',Ext w w'->(results fn a.tmps).run P w'= .ok (ry vs) w':=by
 obtain⟨vs,h1,m,f⟩:=uu j _ _ h;refine⟨vs,h1,λw' hw=>?_⟩;have f:=f w' hw;rw[FG,X8,Array.mapM_eq_mapM_toList,map_eq_pure_bind,X8,f];simp only[X9,W7];cases vs with
 |nil=>rfl
 |cons v r=>
  cases r with
  |nil=>rfl
  |cons u r=>simp[ry]
theorem yf {fn:Func} {tmps:Array x1} {R:Ending->x3->Prop}:∀ (a:List Nat) (w:x3),a.Nodup->(∀D∈a,w.heap[D]? =σ (.deferred (σ [])))->
  (∀w',Ext w w'->Ext w' w->w'.os=w.os->jm w w'->w'.output=w.output->w.heap.size=w'.heap.size->
   (∀r,r∉a->w'.heap[r]? =w.heap[r]?)-> ∃v,(results fn tmps).run P w'= .ok v w'/\R (.returned v) w')->
  LeavesInM Fence.wide 0 P fn tmps R (a.map jX) .returning w
 |[],w,_,_,h=>by
  obtain⟨v,h1,e⟩:=h w (Ext.refl _) (Ext.refl _) rfl .jS rfl rfl λ_ _=>rfl;exact⟨v,h1,e⟩
 |D::a,w,f,j,h=>by
  rw[List.nodup_cons] at f;have m:=j D (.head _);refine⟨Ξ,.inl ⟨D,_,rfl,run_takeDeferred m,?_⟩⟩;refine yf a _ f.2 (λD' p=>?_) λw' h1 e s x y z A=>?_
  .rw[R6 (λhe=>f.1 (by rw[<-he];exact p))];exact j D' (.tail _ p)
  .refine h w' ((pH m rfl _).trans h1) (e.trans (x2 rfl)) s x y (by simpa using z) λr q=>?_;rw[A r λhm=>q (.tail _ hm),R6 λhe=>q (by rw[he];exact .head _)]
theorem am.enter (hm:P.follows .mixedOrders=true) {f:R4} {fn:Func} {c:Code} (ae:P.funcs[f]? =σ fn) (x:fn.body=σ c) (y:(fn.name == "runtime.NumGoroutine")=false)
  (L:wf fn.ntmps c=true) {args:List x1} (M:Nat.ble args.length fn.ntmps=true) {w:x3} {Q:x1->x3->Prop}
  (h:er P fn.ntmps (false,w.heap.size) c (mb fn.results.toList) (kD 0 args) w (lq P fn.results.toList true w.heap.size Q)):am P f args w Q:=by
 refine .code (Enters.of P ae x y) (callsIn_wide (n:=0).1 (callsIn_of_wp_marks ae x trivial ?_));have N:=ut (n:=fn.ntmps) args (Nat.le_of_ble_eq_true M);refine wpIn_mono (Q:=λex a' w'=>kC ex=true/\bodyPostM Fence.wide 0 P fn (λe w'=>∃v,e= .returned v/\cL w w'/\Q v w') ex a' w') ?_ λ_ _ _ h=>h.2;refine sound hm c (false,w.heap.size) ν _ _ _ w _ _ L (λl O=>by cases O) (λ_=>⟨[],rfl,List.nodup_nil,λD p=>by cases p⟩) h N ?_ (λ_ _ _ h=>by cases h.1)
 .intro ex a' w' R;obtain⟨S,T,j,U,_,_,J⟩:=R;obtain⟨a,⟨q,z,W,p⟩,X,Y,Z⟩:=J rfl;have A:∀D∈q,w.heap.size<=D:=by
   intro D aa;have h1:jX D∈X.map jX:=by
    have:jX D∈q.map jX:=n9.2 ⟨D,aa,rfl⟩;rw[<-z,Y] at this;simpa using this
   obtain⟨B,s,ab⟩:=n9.1 h1;have:B=D:=by simpa[jX] using ab
   exact this▸Z B s
  have C:lq P fn.results.toList true w.heap.size Q .ret T w'->LeavesInM Fence.wide 0 P fn a'.tmps (λe E=>∃v,e= .returned v/\cL w E/\Q v E) a'.defers .returning w':=by
   intro j;rw[z];obtain⟨vs,h1,s⟩:=uv (fn:=fn) U j;refine yf q w' W p λV g1 ac F G H I K=>⟨_,s V g1,_,rfl,?_,h1 V g1 ⟨ac,F,G,H,Nat.le_of_eq I,λr o y m _=>by rw[K r λhm=>by have:=A r hm;omega];exact m⟩⟩;have a:=a.ct (p8 _);refine⟨F.trans a.os,G.trans a.tape,H.trans a.output,by rw[<-I];exact a.size,λr o m ad=>?_⟩;have af:=(o8.1 m).1;rw[K r λhm=>by have:=A r hm;omega];exact a.aZ r o m ad
  cases ex with
  |normal=>exact⟨rfl,C j⟩
  |ret=>exact⟨rfl,C j⟩
  |exit id=>exact j.elim
  |_=>cases S
theorem am.FH (hm:P.follows .mixedOrders=true) {f:R4} {fn:Func} {c:Code} (ae:P.funcs[f]? =σ fn) (j:fn.body=σ c) (q:(fn.name == "runtime.NumGoroutine")=false)
  (r:wf fn.ntmps c=true) {args:List x1} (s:Nat.ble args.length fn.ntmps=true) (aG:jV c=false) {w:x3} {Q:x1->x3->Prop}
  (h:er P fn.ntmps (false,w.heap.size) c (mb fn.results.toList) (kD 0 args) w (lq P fn.results.toList false 0 Q)):am P f args w Q:=by
 refine .code (Enters.of P ae j q) (callsIn_wide (n:=0).1 (callsIn_of_wp ae j trivial ?_));have x:=ut (n:=fn.ntmps) args (Nat.le_of_ble_eq_true s);refine wpIn_mono (Q:=λex a' w'=>kC ex=true/\bodyPost P fn (λe w'=>∃v,e= .returned v/\cL w w'/\Q v w') ex a' w') ?_ λ_ _ _ h=>h.2;refine sound hm c (false,w.heap.size) ν _ _ _ w _ _ r (λl y=>by cases y) (λ_=>⟨[],rfl,List.nodup_nil,λD z=>by cases z⟩) h x ?_ (λ_ _ _ h=>by cases h.1);intro ex a' w' A;obtain⟨B,C,a,E,_,F,J⟩:=A;have G:a'.defers=[]:=F (by simp[iN,aG]);have m:lq P fn.results.toList false 0 Q .ret C w'->a'.defers=[]/\ ∃v,(results fn a'.tmps).run P w'= .ok v w'/\ ∃p,Ending.returned v= .returned p/\cL w w'/\Q p w':=by
  intro a;obtain⟨vs,h1,H⟩:=uv (fn:=fn) E a;exact⟨G,_,H w' (Ext.refl _),_,rfl,(J rfl).1.ct (p8 _),h1⟩
 cases ex with
 |normal=>exact⟨rfl,m a⟩
 |ret=>exact⟨rfl,m a⟩
 |exit id=>exact a.elim
 |_=>cases B
theorem gB.enter (hm:P.follows .mixedOrders=true) {f:R4} {fn:Func} {c:Code} (ae:P.funcs[f]? =σ fn) (j:fn.body=σ c) (q:(fn.name == "runtime.NumGoroutine")=false)
  (r:wf fn.ntmps c=true) {args:List x1} (s:Nat.ble args.length fn.ntmps=true) {w:x3} {Q:x1->x3->Prop}
  (h:er P fn.ntmps (true,0) c (mb fn.results.toList) (kD 0 args) w (lq P fn.results.toList false 0 Q)):gB P f args w Q:=by
 refine .code (Enters.of P ae j q) (callsIn_wide (n:=0).1 (callsIn_of_wp ae j trivial ?_));have x:=ut (n:=fn.ntmps) args (Nat.le_of_ble_eq_true s);refine wpIn_mono (Q:=λex a' w'=>kC ex=true/\bodyPost P fn (λe w'=>∃v,e= .returned v/\Q v w') ex a' w') ?_ λ_ _ _ h=>h.2;refine sound hm c (true,0) ν _ _ _ w _ _ r (λl y=>by cases y) (λh=>by cases h) h x ?_ (λ_ _ _ h=>by cases h.1);intro ex a' w' z;obtain⟨A,B,a,C,_,E,J⟩:=z;have F:a'.defers=[]:=E rfl;have m:lq P fn.results.toList false 0 Q .ret B w'->a'.defers=[]/\ ∃v,(results fn a'.tmps).run P w'= .ok v w'/\ ∃p,Ending.returned v= .returned p/\Q p w':=by
  intro a;obtain⟨vs,h1,G⟩:=uv (fn:=fn) C a;exact⟨F,_,G w' (Ext.refl _),_,rfl,h1⟩
 cases ex with
 |normal=>exact⟨rfl,m a⟩
 |ret=>exact⟨rfl,m a⟩
 |exit id=>exact a.elim
 |_=>cases A
end
def pI (l:List S2) (d:Nat):Nat:=
 match l with
 |[]=>d
 | .tmp t::r=>pI r (Nat.lor d (Nat.shiftLeft 1 t))
 |_::r=>pI r d
def oq:List U8->Nat->Option U8
 |[],_=>ν
 |o::_,0=>σ o
 |_::l,n+1=>oq l n
def yg (a b:Nat):Nat:=Nat.xor a (Nat.land a b)
def pJ (m t:Nat):Bool:=T5 (Nat.land (Nat.shiftRight m t) 1) 1
def jY (m t:Nat):Nat:=Nat.lor m (Nat.shiftLeft 1 t)
def FI (ops:List U8) (o:U8):Nat:=
 match o.guard with
 |none=>0
 |some (j,_)=>match oq ops j with
  |some ⟨σ d,_,_,_,_,_⟩=>Nat.shiftLeft 1 d
  |_=>0
def rA:List U8->Nat->Nat
 |[],d=>d
 |⟨σ t,_,_,_,_,_⟩::l,d=>rA l (jY d t)
 |_::l,d=>rA l d
def yh (ops:List U8):List U8->Nat->Nat->Nat
 |[],_,r=>r
 |o::l,d,r=>yh ops l (match o.dst with|some t=>jY d t|none=>d) (Nat.lor r (yg (pI (opsOf o.op) (FI ops o)) d))
def rB:List Nat->Nat->Nat
 |[],_=>0
 |x::_,0=>x
 |_::l,n+1=>rB l n
def yi (e:Edge):Bool:=
 match e.ground with
 | .textOnly _=>false
 | .gcOnly _=>false
 |_=>true
def yj (bs:List Nat):List Edge->Nat->Nat
 |[],s=>s
 |e::r,s=>yj bs r (bif yi e then Nat.lor (jY s e.on) (rB bs e.on) else s)
def uw:List U8->List Nat->List Nat
 |[],bs=>bs
 |o::l,bs=>uw l (bs++[yj bs o.after.toList 0])
def yk:List U8->Bool
 |[]=>false
 |⟨_,_,_,_,_,σ _⟩::_=>true
 |_::l=>yk l
def ux (bs:List Nat) (j k:Nat):Bool:=!(T5 k j)&&(!(pJ (rB bs j) k)&& !(pJ (rB bs k) j))
def yl (bs:List Nat) (j:Nat):Nat->List U8->Bool
 |_,[]=>false
 |i,o::l=>bif Nat.ble j i then false else (!(iJ o)&&ux bs j i)||yl bs j (Nat.succ i) l
def ym (ops:List U8) (bs:List Nat):Nat->List U8->Bool
 |_,[]=>false
 |j,o::l=>(!(iJ o)&&yl bs j 0 ops)||ym ops bs (Nat.succ j) l
def lr:Code->Nat
 | .region _ ops e=>bif (e&&ym ops.toList (uw ops.toList []) 0 ops.toList)||yk ops.toList then 2 else 1
 | .seq a b=>bif T5 (lr a) 0 then 0 else lr b
 | .cond _ a b=>Nat.add (lr a) (lr b)
 | .block id c=>Nat.add (lr c) (jo id c)
 | .loop _=>0
 | .scope c=>lr c
 | .exit _=>0
 | .goto _=>0
 | .ret=>0
 | .refuse _=>0
 |_=>1
def hT:Code->Nat
 | .region _ ops _=>rA ops.toList 0
 | .seq a b=>Nat.lor (hT a) (hT b)
 | .cond _ a b=>Nat.lor (hT a) (hT b)
 | .block _ c=>hT c
 | .loop c=>hT c
 | .scope c=>hT c
 |_=>0
def lu:Code->Nat
 | .region _ ops _=>rA ops.toList 0
 | .seq a b=>Nat.lor (lu a) (lu b)
 | .cond _ a b=>bif T5 (lr a) 0 then lu b else bif T5 (lr b) 0 then lu a else Nat.land (lu a) (lu b)
 | .block id c=>bif T5 (jo id c) 0 then lu c else 0
 | .scope c=>lu c
 |_=>0
def gd:Code->Nat
 | .region _ ops _=>yh ops.toList ops.toList 0 0
 | .seq a b=>Nat.lor (gd a) (yg (gd b) (lu a))
 | .cond c a b=>pI [c] (Nat.lor (gd a) (gd b))
 | .block _ c=>gd c
 | .loop c=>gd c
 | .scope c=>gd c
 | .rangeFunc f _ a b=>pI [f] (Nat.lor (gd a) (gd b))
 |_=>0
def mc:Nat->Nat->Nat->List Nat
 |0,_,_=>[]
 |n+1,k,m=>bif T5 m 0 then[] else bif T5 (Nat.land m 1) 1 then k::mc n (Nat.succ k) (Nat.shiftRight m 1) else mc n (Nat.succ k) (Nat.shiftRight m 1)
def pK (e:Env):List Nat->List Nat
 |[]=>[]
 |t::r=>match look e t with
  |some _=>t::pK e r
  |none=>pK e r
structure md (B S aX:Type) where
 kE:{x:x1}->x1
 tup:List x1->x1
 no:B
 kF:B
 and:B->B->B
 or:B->B->B
 ext:x3->x3->B
 stays:S->x1->x3->B
 split:x1->B->B->B
 uy:S->x3->(x1->B)->B
 yn:S->x3->(x1->x3->B)->B
 yo:aX->x3->(x3->B)->B
 runN:{fr:Bool}->{n:Nat}->S->x3->(x1->x3->B)->B
 yp:{f:R4}->List x1->x3->(x1->x3->B)->B
 yq:{f:R4}->List x1->x3->(x1->x3->B)->B
 yr:{fr:Bool}->x1->List x1->x3->(x1->x3->B)->B
 drew:x3->(x3->B)->B
 again:{n:Nat}->x3->(x3->B)->B
 over:{n:Nat}->x3->(x3->B)->B
 dh:(x3->B)->((x3->B)->B)->B
 aV:(x1->x3->B)->((x1->x3->B)->B)->B
 ii:(x1->x1->x3->B)->((x1->x1->x3->B)->B)->B
 ys:(x1->x1->x1->x3->B)->((x1->x1->x1->x3->B)->B)->B
 yt:(x1->x1->x1->x1->x3->B)->((x1->x1->x1->x1->x3->B)->B)->B
 yu:(x1->x1->x1->x1->x1->x3->B)->((x1->x1->x1->x1->x1->x3->B)->B)->B
 yv:x3->(x3->(x3->B)->B)->B
 yw:x1->x3->(x1->x3->(x1->x3->B)->B)->B
 yx:x1->x1->x3->(x1->x1->x3->(x1->x1->x3->B)->B)->B
 yy:x1->x1->x1->x3->(x1->x1->x1->x3->(x1->x1->x1->x3->B)->B)->B
 yz:x1->x1->x1->x1->x3->(x1->x1->x1->x1->x3->(x1->x1->x1->x1->x3->B)->B)->B
 yA:x1->x1->x1->x1->x1->x3->(x1->x1->x1->x1->x1->x3->(x1->x1->x1->x1->x1->x3->B)->B)->B
 yB:x1->x1->x1->x1->x1->x1->x3->(x1->x1->x1->x1->x1->x1->x3->(x1->x1->x1->x1->x1->x1->x3->B)->B)->B
 yC:x1->x3->(x1->x3->(Exit->x3->B)->B)->(x3->B)->(x3->B)->List (Nat×(x3->B))->B
 yD:x1->x3->(x1->x1->x3->(Exit->x3->B)->B)->(x3->B)->(x3->B)->List (Nat×(x3->B))->B
 loadVar:{t:r8}->x1->S
 alloc:{t:r8}->S
 box:{t:r8}->x1->S
 build:{t:r8}->List (Nat×x1)->S
 buildSlice:{t:r8}->{n:Nat}->List (Nat×x1)->S
 load:{t:r8}->x1->S
 nil:x1->S
 bin:{op:BinOp}->{t:r8}->Bool->Bool->x1->x1->S
 un:{op:UnOp}->x1->S
 conv:{s d:r8}->x1->S
 yE:{t:r8}->x1->S
 yF:{f:Fn}->List x1->List x1->S
 yG:{t:r8}->Option x1->S
 yH:{t:r8}->x1->x1->S
 slice:{t:r8}->x1->Option x1->Option x1->Option x1->S
 yI:{t:r8}->x1->{f:Nat}->S
 field:{t:r8}->x1->{f:Nat}->S
 yJ:{t:r8}->x1->x1->S
 index:{t:r8}->x1->x1->S
 lookup:{t:r8}->x1->x1->{ok:Bool}->S
 yK:{t:r8}->x1->x1->S
 range:{t:r8}->x1->S
 entry:x1->S
 assert:{t a:r8}->x1->{ok:Bool}->S
 extract:x1->{i:Nat}->S
 next:x1->{b:Bool}->S
 append:{ats:Array r8}->{t:r8}->List x1->S
 cap:{ats:Array r8}->{t:r8}->List x1->S
 clear:{ats:Array r8}->{t:r8}->List x1->S
 copy:{ats:Array r8}->{t:r8}->List x1->S
 delete:{ats:Array r8}->{t:r8}->List x1->S
 len:{ats:Array r8}->{t:r8}->List x1->S
 max:{ats:Array r8}->{t:r8}->List x1->S
 min:{ats:Array r8}->{t:r8}->List x1->S
 store:{t:r8}->x1->x1->aX
 uz:{t:r8}->x1->x1->x1->aX
 yL:{t:r8}->x1->x1->x1->aX
section
variable {B S aX:Type} (A:md B S aX)
def ep.g:ep->x1
 | .v x=>x
 | .b c=>.bool c
 | .u=>A.kE (x:=undef)
def mY (e:Env):S2->ep
 | .tmp t=>match look e t with
  |some x=>x
  |none=>.u
 | .const (.bool c)=>.b c
 | .const x=>.v (A.kE (x:=x))
 | .global g=>.v (A.kE (x:=Γ g))
 | .func f=>.v (A.kE (x:=.func (.func f) #[] #[]))
def cZ (e:Env) (x:S2):x1:=(mY A e x).g A
def mZ (e:Env):List S2->List x1
 |[]=>[]
 |x::r=>cZ A e x::mZ e r
def rC (e:Env):Option S2->Option x1
 |none=>ν
 |some x=>σ (cZ A e x)
def uA (e:Env):List (Nat×S2)->List (Nat×x1)
 |[]=>[]
 |(i,x)::r=>(i,cZ A e x)::uA e r
def FJ (b:Z0) (ats:Array r8) (t:r8) (l:List x1) (K:S->B):B:=
 match b with
 | .append=>K (A.append (ats:=ats) (t:=t) l)
 | .cap=>K (A.cap (ats:=ats) (t:=t) l)
 | .clear=>K (A.clear (ats:=ats) (t:=t) l)
 | .copy=>K (A.copy (ats:=ats) (t:=t) l)
 | .delete=>K (A.delete (ats:=ats) (t:=t) l)
 | .len=>K (A.len (ats:=ats) (t:=t) l)
 | .max=>K (A.max (ats:=ats) (t:=t) l)
 | .min=>K (A.min (ats:=ats) (t:=t) l)
 |_=>A.no
def yM (e:Env) (t:r8) (K:S->B) (j:aX->B):Op->B
 | .alloc t=>K (A.alloc (t:=t))
 | .box t x=>K (A.box (t:=t) (cZ A e x))
 | .build t p=>K (A.build (t:=t) (uA A e p.toList))
 | .buildSlice t n p=>K (A.buildSlice (t:=t) (n:=n) (uA A e p.toList))
 | .load t x=>K (A.load (t:=t) (cZ A e x))
 | .nilCheck x=>K (A.nil (cZ A e x))
 | .binOp op t x y _=>K (A.bin (op:=op) (t:=t) (ob x) (ob y) (cZ A e x) (cZ A e y))
 | .unOp op _ x=>K (A.un (op:=op) (cZ A e x))
 | .convert s d x=>K (A.conv (s:=s) (d:=d) (cZ A e x))
 | .makeInterface t x=>K (A.yE (t:=t) (cZ A e x))
 | .makeFunc f a b=>K (A.yF (f:=f) (mZ A e a.toList) (mZ A e b.toList))
 | .makeMap t r=>K (A.yG (t:=t) (rC A e r))
 | .makeSlice t l c=>K (A.yH (t:=t) (cZ A e l) (cZ A e c))
 | .slice t x l h m=>K (A.slice (t:=t) (cZ A e x) (rC A e l) (rC A e h) (rC A e m))
 | .fieldAddr t x f=>K (A.yI (t:=t) (cZ A e x) (f:=f))
 | .field t x f=>K (A.field (t:=t) (cZ A e x) (f:=f))
 | .indexAddr t x i=>K (A.yJ (t:=t) (cZ A e x) (cZ A e i))
 | .index t x i=>K (A.index (t:=t) (cZ A e x) (cZ A e i))
 | .lookup t x i ok=>K (A.lookup (t:=t) (cZ A e x) (cZ A e i) (ok:=ok))
 | .mapEntry t m k=>K (A.yK (t:=t) (cZ A e m) (cZ A e k))
 | .range t x=>K (A.range (t:=t) (cZ A e x))
 | .entry x=>K (A.entry (cZ A e x))
 | .typeAssert x t a ok=>K (A.assert (t:=t) (a:=a) (cZ A e x) (ok:=ok))
 | .extract x i=>K (A.extract (cZ A e x) (i:=i))
 | .call ⟨.builtin b,args,ats⟩=>FJ A b ats t (mZ A e args.toList) K
 | .store t a x=>j (A.store (t:=t) (cZ A e a) (cZ A e x))
 | .mapUpdate t m k x=>j (A.uz (t:=t) (cZ A e m) (cZ A e k) (cZ A e x))
 | .insert t m k x=>j (A.uz (t:=t) (cZ A e m) (cZ A e k) (cZ A e x))
 | .entryStore t m k x=>j (A.yL (t:=t) (cZ A e m) (cZ A e k) (cZ A e x))
 |_=>A.no
def hg (e:Env) (d:Option Tmp) (x:ep):Env:=
 match d with
 |some t=>(t,x)::e
 |none=>e
def yN (o:U8) (e:Env) (w:x3) (K:Env->(x3->B)->B):B:=
 match o with
 |⟨d,.move x,_,_,_,_⟩=>K (hg e d (mY A e x)) (λ_=>A.kF)
 |⟨d,.assign x,_,_,_,_⟩=>K (hg e d (mY A e x)) (λ_=>A.kF)
 |⟨d,.pick c a b,_,_,_,_⟩=>
  match mY A e c with
  | .b true=>K (hg e d (mY A e a)) (λ_=>A.kF)
  | .b false=>K (hg e d (mY A e b)) (λ_=>A.kF)
  | .v x=>A.split x (K (hg e d (.v (cZ A e a))) (λ_=>A.kF)) (K (hg e d (.v (cZ A e b))) (λ_=>A.kF))
  | .u=>A.no
 |⟨d,op,t,_,_,_⟩=>yM A e t (λs=>A.uy s w λv=>K (hg e d (.v v)) (A.stays s v)) (λ_=>A.no) op
def FK (fr:Bool) (n:Nat) (o:U8) (e:Env) (w:x3) (K:Env->x3->B):B:=
 match o with
 |⟨d,.call ⟨.value (.func f),args,_⟩,_,_,_,_⟩=>
  bif fr then A.yq (f:=f) (mZ A e args.toList) w λv w'=>K (hg e d (.v v)) w'
  else A.yp (f:=f) (mZ A e args.toList) w λv w'=>K (hg e d (.v v)) w'
 |⟨d,.call ⟨.value x,args,_⟩,_,_,_,_⟩=>A.yr (fr:=fr) (cZ A e x) (mZ A e args.toList) w λv w'=>K (hg e d (.v v)) w'
 |⟨d,.next x b,_,_,_,_⟩=>A.runN (fr:=fr) (n:=n) (A.next (cZ A e x) (b:=b)) w λv w'=>K (hg e d (.v v)) w'
 |⟨d,op,t,_,_,_⟩=>yM A e t (λs=>A.yn s w λv w'=>K (hg e d (.v v)) w') (λu=>A.yo u w λw'=>K (hg e d (.v (A.kE (x:=undef)))) w') op
def yO (fr:Bool) (n:Nat) (o:U8) (e:Env) (w:x3) (K:Env->x3->B):B:=
 bif iJ o then yN A o e w (λa _=>K a w) else FK A fr n o e w K
def uB (ops:List U8) (o:U8) (e:Env) (D N:Env->B):B:=
 match o.guard with
 |none=>D e
 |some (j,b)=>
  match oq ops j with
  |some ⟨σ s,_,_,_,_,_⟩=>
   match look e s with
   |some (.b c)=>bif xor c b then N e else D e
   |some (.v x)=>A.split x (bif b then D ((s,.b true)::e) else N ((s,.b true)::e)) (bif b then N ((s,.b false)::e) else D ((s,.b false)::e))
   |some .u=>N e
   |none=>A.no
  |_=>A.no
def uC (fr:Bool) (n:Nat) (ops:List U8):List U8->Env->x3->(Env->x3->B)->B
 |[],e,w,K=>K e w
 |o::l,e,w,K=>uB A ops o e (λe=>yO A fr n o e w λa w'=>uC fr n ops l a w' K) (λe=>uC fr n ops l (hg e o.dst .u) w K)
def yP:List Edge->Nat->Bool
 |[],_=>true
 |e::r,a=>(bif yi e then pJ a e.on else true)&&yP r a
def rD (a:Nat):Nat->List U8->List Nat
 |_,[]=>[]
 |i,o::l=>bif pJ a i then rD a (Nat.succ i) l else bif yP o.after.toList a then i::rD a (Nat.succ i) l else rD a (Nat.succ i) l
def yQ (ops:List U8):List Nat->Option Nat
 |[]=>ν
 |i::r=>match oq ops i with
  |some o=>bif iJ o then σ i else yQ ops r
  |none=>ν
def yR (p:Nat->B):List Nat->B
 |[]=>A.kF
 |[i]=>p i
 |i::r=>A.and (p i) (yR p r)
def yS (same:Bool) (q:Nat) (w:x3) (st:x3->B) (a:List (x3×List (Nat×(x3->B)))):List (x3×List (Nat×(x3->B))):=
 match same,a with
 |true,g::r=>(g.1,(q,st)::g.2)::r
 |_,a=>(w,[(q,st)])::a
def yT (bs:List Nat) (j:Nat):List (Nat×(x3->B))->Bool
 |[]=>false
 |(i,_)::r=>ux bs j i||yT bs j r
def uD (bs:List Nat) (j:Nat) (w':x3):List (Nat×(x3->B))->B
 |[]=>A.kF
 |(i,p)::r=>bif ux bs j i then A.and (p w') (uD bs j w' r) else uD bs j w' r
def rE (bs:List Nat) (j:Nat) (w':x3) (C:B):List (x3×List (Nat×(x3->B)))->B
 |[]=>C
 |(w,l)::r=>bif yT bs j l then A.and (A.or (A.ext w w') (uD A bs j w' l)) (rE bs j w' C r) else rE bs j w' C r
def m3 (fr:Bool) (n:Nat) (ops:List U8) (bs:List Nat):Nat->Nat->Bool->List (x3×List (Nat×(x3->B)))->Env->x3->(Env->x3->B)->B
 |0,_,_,_,e,w,K=>K e w
 |fuel+1,f,same,a,e,w,K=>
  match rD f 0 ops with
  |[]=>K e w
  |i::r=>
   match yQ ops (i::r) with
   |some q=>
    match oq ops q with
    |some o=>uB A ops o e
      (λe=>yN A o e w λh st=>
       bif li o then m3 fr n ops bs fuel (jY f q) same a h w K
       else m3 fr n ops bs fuel (jY f q) true (yS same q w st a) h w K)
      (λe=>bif li o then m3 fr n ops bs fuel (jY f q) same a (hg e o.dst .u) w K
       else m3 fr n ops bs fuel (jY f q) true (yS same q w (λ_=>A.kF) a) (hg e o.dst .u) w K)
    |none=>A.no
   |none=>
    yR A (λj=>match oq ops j with
     |some o=>uB A ops o e (λe=>yO A fr n o e w λh w'=>rE A bs j w' (m3 fr n ops bs fuel (jY f j) false a h w' K) a)
       (λe=>rE A bs j w (m3 fr n ops bs fuel (jY f j) false a (hg e o.dst .u) w K) a)
     |none=>A.no) (i::r)
def rF (e:Env):List Nat->List x1
 |[]=>[]
 |t::r=>(match look e t with|some x=>x.g A|none=>A.kE (x:=undef))::rF e r
def uE (l:List Nat) (vs:List x1) (e:Env):Env:=
 match l,vs with
 |t::r,v::vs=>(t,.v v)::uE r vs e
 |_,_=>e
def rG (d:Nat):Env->Env
 |[]=>[]
 |(t,x)::r=>bif pJ d t then rG d r else (t,x)::rG d r
def FL (l:List Nat) (ay:List x1->x3->B) (e:(List x1->x3->B)->B):B:=
 match l with
 |[]=>A.dh (λw=>ay [] w) λk=>e λ_ w=>k w
 |[_]=>A.aV (λa w=>ay [a] w) λk=>e λvs w=>match vs with
  |[a]=>k a w
  |_=>A.no
 |[_,_]=>A.ii (λa b w=>ay [a,b] w) λk=>e λvs w=>match vs with
  |[a,b]=>k a b w
  |_=>A.no
 |[_,_,_]=>A.ys (λa b c w=>ay [a,b,c] w) λk=>e λvs w=>match vs with
  |[a,b,c]=>k a b c w
  |_=>A.no
 |[_,_,_,_]=>A.yt (λa b c d w=>ay [a,b,c,d] w) λk=>e λvs w=>match vs with
  |[a,b,c,d]=>k a b c d w
  |_=>A.no
 |[_,_,_,_,_]=>A.yu (λa b c d f w=>ay [a,b,c,d,f] w) λk=>e λvs w=>match vs with
  |[a,b,c,d,f]=>k a b c d f w
  |_=>A.no
 |_=>A.no
def FM (us:List x1) (w:x3) (e:List x1->x3->(List x1->x3->B)->B):B:=
 match us with
 |[]=>A.yv w λw k=>e [] w λ_ w=>k w
 |[a]=>A.yw a w λa w k=>e [a] w λvs w=>match vs with
  |[a]=>k a w
  |_=>A.no
 |[a,b]=>A.yx a b w λa b w k=>e [a,b] w λvs w=>match vs with
  |[a,b]=>k a b w
  |_=>A.no
 |[a,b,c]=>A.yy a b c w λa b c w k=>e [a,b,c] w λvs w=>match vs with
  |[a,b,c]=>k a b c w
  |_=>A.no
 |[a,b,c,d]=>A.yz a b c d w λa b c d w k=>e [a,b,c,d] w λvs w=>match vs with
  |[a,b,c,d]=>k a b c d w
  |_=>A.no
 |[a,b,c,d,f]=>A.yA a b c d f w λa b c d f w k=>e [a,b,c,d,f] w λvs w=>match vs with
  |[a,b,c,d,f]=>k a b c d f w
  |_=>A.no
 |[a,b,c,d,f,g]=>A.yB a b c d f g w λa b c d f g w k=>e [a,b,c,d,f,g] w λvs w=>match vs with
  |[a,b,c,d,f,g]=>k a b c d f g w
  |_=>A.no
 |_=>A.no
def uF (K:Nat->x3->B):List Nat->List (Nat×(x3->B))
 |[]=>[]
 |i::r=>(i,λw=>K i w)::uF K r
def hC (fr:Bool) (n:Nat):Code->Nat->Env->x3->(Exit->Env->x3->B)->B
 | .skip,_,e,w,K=>K .normal e w
 | .label _,_,e,w,K=>K .normal e w
 | .ret,_,e,w,K=>K .ret e w
 | .exit i,_,e,w,K=>K (.exit i) e w
 | .region _ ops z,_,e,w,K=>
  bif z then A.drew w λw'=>m3 A fr n ops.toList (uw ops.toList []) (ops.toList.length) 0 false [] e w' (K .normal)
  else uC A fr n ops.toList ops.toList e w (K .normal)
 | .seq x y,rd,e,w,K=>
  bif Nat.ble 2 (lr x) then
   FL A (mc 1000 0 (Nat.land (hT x) (Nat.lor (gd y) rd))) (λvs w'=>hC fr n y rd (uE (mc 1000 0 (Nat.land (hT x) (Nat.lor (gd y) rd))) vs (rG (hT x) e)) w' K)
    λay=>hC fr n x (Nat.lor (gd y) rd) e w λex h w'=>match ex with
     | .normal=>ay (rF A h (mc 1000 0 (Nat.land (hT x) (Nat.lor (gd y) rd)))) w'
     |ex=>K ex h w'
  else hC fr n x (Nat.lor (gd y) rd) e w λex h w'=>match ex with
   | .normal=>hC fr n y rd h w' K
   |ex=>K ex h w'
 | .cond c x y,rd,e,w,K=>
  match mY A e c with
  | .b true=>hC fr n x rd e w K
  | .b false=>hC fr n y rd e w K
  | .v v=>A.split v (hC fr n x rd e w K) (hC fr n y rd e w K)
  | .u=>A.no
 | .block id c,rd,e,w,K=>hC fr n c rd e w λex h w'=>match ex with
  | .exit i=>bif T5 i id then K .normal h w' else K (.exit i) h w'
  |ex=>K ex h w'
 | .loop c,rd,e,w,K=>
  FM A (rF A e (pK e (mc 1000 0 (Nat.land (hT c) (Nat.lor (gd c) rd))))) w λus w' k=>
   hC fr n c (Nat.lor (gd c) rd) (uE (pK e (mc 1000 0 (Nat.land (hT c) (Nat.lor (gd c) rd)))) us (rG (hT c) e)) w' λex h j=>match ex with
    | .normal=>k (rF A h (pK e (mc 1000 0 (Nat.land (hT c) (Nat.lor (gd c) rd))))) j
    |ex=>K ex h j
 | .scope c,rd,e,w,K=>hC fr n c rd e w K
 | .rangeFunc f C s body,_,e,w,K=>
  match C.toList with
  |[p]=>A.yC (cZ A e f) w
    (λa w' k=>hC fr n s (gd body) ((p,.v a)::e) w' λex h j=>match ex with
     | .normal=>A.over (n:=w.heap.size) j λm=>hC fr n body 0 h m λex _ r=>k ex r
     |_=>A.no)
    (λw'=>K .normal e w') (bif iM body then λw'=>K .ret e w' else λ_=>A.no) (uF (λi w'=>K (.exit i) e w') (jp body))
  |[p,q]=>A.yD (cZ A e f) w
    (λa b w' k=>hC fr n s (gd body) ((q,.v b)::(p,.v a)::e) w' λex h j=>match ex with
     | .normal=>A.over (n:=w.heap.size) j λm=>hC fr n body 0 h m λex _ r=>k ex r
     |_=>A.no)
    (λw'=>K .normal e w') (bif iM body then λw'=>K .ret e w' else λ_=>A.no) (uF (λi w'=>K (.exit i) e w') (jp body))
  |_=>A.no
 | .goto _,_,_,_,_=>A.no
 | .refuse _,_,_,_,_=>A.no
def yU:Nat->List x1->Env
 |_,[]=>[]
 |i,v::r=>(i,.v (A.kE (x:=v)))::yU (i+1) r
def rH (e:Env) (w:x3):List ResultVar->(List x1->B)->B
 |[],K=>K []
 | .tmp t::r,K=>rH e w r λvs=>K ((match look e t with|some x=>x.g A|none=>A.kE (x:=undef))::vs)
 | .cell a t::r,K=>A.uy (A.loadVar (t:=t) (match look e a with|some x=>x.g A|none=>A.kE (x:=undef))) w λv=>rH e w r λvs=>K (v::vs)
def rI (vs:List x1) (K:x1->B):B:=
 match vs with
 |[v]=>K v
 |vs=>K (A.tup vs)
def uG:List ResultVar->Nat->Nat
 |[],s=>s
 | .tmp t::r,s=>uG r (jY s t)
 | .cell a _::r,s=>uG r (jY s a)
def FN (a:List ResultVar) (marks:Bool) (n:Nat) (Q:x1->x3->B):Exit->Env->x3->B
 | .normal,e,w=>rH A e w a λvs=>bif marks then A.again (n:=n) w λw'=>rI A vs λv=>Q v w' else rI A vs λv=>Q v w
 | .ret,e,w=>rH A e w a λvs=>bif marks then A.again (n:=n) w λw'=>rI A vs λv=>Q v w' else rI A vs λv=>Q v w
 |_,_,_=>A.no
def uH (fr marks:Bool) (fn:Func) (c:Code) (args:List x1) (w:x3) (Q:x1->x3->B):B:=
 hC A fr n c (uG fn.results.toList 0) (yU A 0 args) w (FN A fn.results.toList marks n Q)
end
def ot (P:W0):md Prop (Sem x1) (Sem Unit) where
 kE {x}:=x
 tup l:=.tuple l.toArray
 no:=False
 kF:=True
 and:=And
 or:=Or
 ext:=Ext
 stays:=cC P
 split:=Split
 uy:=aa P
 yn:=aC P
 yo u w K:=aC P u w λ_ w'=>K w'
 runN {fr n}:=re P (fr,n)
 yp {f}:=am P f
 yq {f}:=gB P f
 yr {fr}:=rh P fr
 drew:=en
 again {n}:=ul n
 over {n}:=Over n
 dh:=cu
 aV:=cu
 ii:=cu
 ys:=cu
 yt:=cu
 yu:=cu
 yv:=Fr
 yw:=ch
 yx:=bX
 yy:=l8
 yz:=rq
 yA:=oh
 yB:=Fs
 yC:=ln P
 yD:=ol P
 loadVar {t} x:=do loadVar t (<-asAddr x)
 alloc {t}:=R7 t true (.tuple #[])
 box {t} x:=Instr.box t x
 build {t} l:=Instr.build t l.toArray
 buildSlice {t n} l:=Y0 t n l.toArray
 load {t} x:=u4 t x
 nil x:=bK x
 bin {op t} a b x y:=aJ op t a b x y
 un {op} x:=Op.unary op x
 conv {s d} x:=convert s d x
 yE {t} x:=Instr.makeInterface t x
 yF {f} a b:=Instr.makeFunc f a.toArray b.toArray
 yG {t} x:=Instr.makeMap t x
 yH {t} l c:=Instr.makeSlice t l c
 slice {t} x l h m:=V3 t x l h m
 yI {t} x {f}:=u5 t x f
 field {t} x {f}:=Instr.field t x f
 yJ {t} x i:=j5 t x i
 index {t} x i:=Instr.index t x i
 lookup {t} x i {ok}:=Instr.lookup t x i ok
 yK {t} m k:=Instr.mapEntry t m k
 range {t} x:=Instr.range t x
 entry x:=Instr.entry x
 assert {t a} x {ok}:=Instr.typeAssert x t a ok
 extract x {i}:=Z4 x i
 next x {b}:=Instr.next x b 0
 append {ats t} l:=b8 ats t l.toArray
 cap {ats t} l:=Z0.cap_ ats t l.toArray
 clear {ats t} l:=Z0.clear_ ats t l.toArray
 copy {ats t} l:=Z0.copy_ ats t l.toArray
 delete {ats t} l:=Z0.delete_ ats t l.toArray
 len {ats t} l:=W6 ats t l.toArray
 max {ats t} l:=Z0.max_ ats t l.toArray
 min {ats t} l:=Z0.min_ ats t l.toArray
 store {t} a x:=o6 t a x
 uz {t} m k x:=Instr.mapUpdate t m k x
 yL {t} m k x:=Instr.entryStore t m k x
end Go.Vc
namespace Go.Proofs.YtmgflbkdggdhoaaGreatDoor
open Go Go.Vc Go.RowKit Go.Proofs Go.Proofs.Tryz
set_option maxRecDepth 100000
theorem mixed:x7.follows .mixedOrders=true:=Ψ
def yV:Nat:=5
def yW:Nat:=6
def yX:Nat:=7
def yY:Nat:=8
def uI:Nat:=9
def yZ:Nat:=12
def FO:Nat:=13
def y0:Nat:=15
def y1:Nat:=16
def FP:Nat:=17
def FQ:Nat:=20
def FR:Nat:=21
def FS:Nat:=22
def FT:Nat:=23
def FU:Nat:=24
def FV:Nat:=25
def FW:Nat:=26
def FX:Nat:=27
def FY:Nat:=28
def y2:Nat:=29
def FZ:Nat:=30
def F0:Nat:=31
def F3:Nat:=32
def QG:Nat:=33
def uJ:Nat:=34
def F4:Nat:=35
def F5:Nat:=36
def F6:Nat:=37
def F7:Nat:=38
def F8:Nat:=39
def F9:Nat:=40
def Ga:Nat:=41
def pL:Nat:=42
def y3:Nat:=43
def y4:Nat:=46
def y5:Nat:=47
def y6:Nat:=48
def Gb:Nat:=49
def Gc:Nat:=50
def Gd:Nat:=52
def Ge:Nat:=53
def Gf:Nat:=54
def Gg:Nat:=55
def QH:Nat:=56
def Gh:Nat:=57
def uK:Nat:=58
def Gi:Nat:=59
def Gj:Nat:=60
def Gk:Nat:=61
def Gl:Nat:=62
def Gm:Nat:=63
def Gn:Nat:=64
def Gp:Nat:=65
def y7:Nat:=66
def y8:Nat:=67
def Gq:Nat:=68
def y9:Nat:=69
def Gr:Nat:=70
def uL:Nat:=71
def Gs:Nat:=72
def za:Nat:=73
def zb:Nat:=74
def pM:Nat:=75
def m4:Nat:=76
def kG:Nat:=77
def zc:Nat:=78
def uM:Nat:=79
def m7:Nat:=80
def zd:Nat:=81
def uN:Nat:=82
def Gt:Nat:=83
def Gu:Nat:=84
def rJ:Nat:=85
def lv:Nat:=86
def ze:Nat:=87
def m8:Nat:=88
def Gv:Nat:=89
def Gw:Nat:=90
def Gx:Nat:=91
def Gy:Nat:=92
def Gz:Nat:=93
def GA:Nat:=94
def GB:Nat:=95
def zf:Nat:=96
def zg:Nat:=97
def GC:Nat:=98
def GD:Nat:=99
def GF:Nat:=100
def GG:Nat:=101
def uO:Nat:=102
def GH:Nat:=103
def GI:Nat:=104
def GJ:Nat:=105
def GK:Nat:=106
def GL:Nat:=107
def GM:Nat:=108
def GN:Nat:=109
def GO:Nat:=110
def GP:Nat:=111
def m9:Nat:=112
def na:Nat:=113
def GQ:Nat:=114
def GR:Nat:=115
def GS:Nat:=116
def GU:Nat:=117
def GV:Nat:=118
def GW:Nat:=119
def GX:Nat:=120
def GY:Nat:=121
def GZ:Nat:=122
def G0:Nat:=123
def G1:Nat:=124
def G2:Nat:=125
def rK:Nat:=126
def G3:Nat:=127
def G4:Nat:=128
def G5:Nat:=129
def G6:Nat:=130
def G7:Nat:=131
def G8:Nat:=132
def G9:Nat:=133
def Ha:Nat:=134
def Hb:Nat:=135
def Hc:Nat:=136
def Hd:Nat:=137
def zh:Nat:=138
def He:Nat:=139
def Hf:Nat:=140
def Hg:Nat:=141
def Hh:Nat:=142
def Hi:Nat:=143
def ou:Nat:=144
def Hj:Nat:=145
def Hk:Nat:=146
def rL:Nat:=147
def Hl:Nat:=148
def Hm:Nat:=149
def zi:Nat:=150
def zj:Nat:=151
def Hn:Nat:=152
def pN:Nat:=153
def Ho:Nat:=154
def uP:Nat:=155
def Hp:Nat:=156
def Hq:Nat:=157
def zk:Nat:=158
def Hr:Nat:=159
def Hs:Nat:=160
def Ht:Nat:=161
def Hu:Nat:=162
def Hv:Nat:=163
def Hw:Nat:=164
def Hx:Nat:=165
def zl:Nat:=166
def Hy:Nat:=167
def Hz:Nat:=168
def HA:Nat:=169
def HB:Nat:=170
def zm:Nat:=171
def HC:Nat:=172
def HD:Nat:=173
def HE:Nat:=174
def HF:Nat:=175
def zn:Nat:=176
def HG:Nat:=177
def HH:Nat:=178
def HI:Nat:=179
def jZ:Nat:=180
def HJ:Nat:=181
def HK:Nat:=182
def HL:Nat:=183
def HM:Nat:=184
def HN:Nat:=185
def HO:Nat:=186
def HP:Nat:=187
def zo:Nat:=188
def uQ:Nat:=189
def rM:Nat:=190
def uR:Nat:=191
def HQ:Nat:=192
def uS:Nat:=193
def HR:Nat:=194
def HS:Nat:=195
def uT:Nat:=196
def HT:Nat:=197
def HU:Nat:=198
def zp:Nat:=199
def zq:Nat:=200
def HV:Nat:=201
def HW:Nat:=202
def HX:Nat:=203
def HY:Nat:=204
def HZ:Nat:=205
def H0:Nat:=206
def H1:Nat:=207
def H2:Nat:=208
def QI:Nat:=209
def H3:Nat:=211
def cmp_isNaN_int:Nat:=212
def zr:Nat:=213
def uU:Nat:=214
def rN:Nat:=215
def H4:Nat:=216
def H5:Nat:=217
def H6:Nat:=218
def zs:Nat:=219
def H7:Nat:=220
def H8:Nat:=221
def H9:Nat:=222
def Ia:Nat:=223
def Ib:Nat:=224
def Ic:Nat:=225
def Ie:Nat:=226
def lx:Nat:=227
def ly:Nat:=228
def zt:Nat:=229
def If:Nat:=230
def Ig:Nat:=231
def QJ:Nat:=232
def Ih:Nat:=233
def QK:Nat:=234
def Ii:Nat:=235
def Ij:Nat:=236
def Ik:Nat:=237
def ov:Nat:=238
def Il:Nat:=239
def Im:Nat:=240
def In:Nat:=241
def lz:Nat:=242
def Io:Nat:=243
def Ip:Nat:=253
def Iq:Nat:=254
def rO:Nat:=255
def Ir:Nat:=256
def Is:Nat:=257
def It:Nat:=258
def Iu:Nat:=259
def lA:Nat:=260
def Iv:Nat:=261
def Iw:Nat:=262
def Ix:Nat:=263
def Iy:Nat:=264
def QL:Nat:=265
def Iz:Nat:=266
def QM:Nat:=273
def IA:Nat:=274
def IB:Nat:=275
def IC:Nat:=277
def ID:Nat:=278
def IE:Nat:=279
def QN:Nat:=280
def IF:Nat:=281
def QO:Nat:=282
def QP:Nat:=283
def QQ:Nat:=284
def QR:Nat:=285
def QS:Nat:=286
def cmp_Less_int:Nat:=287
def QT:Nat:=288
def QU:Nat:=289
def QV:Nat:=299
def QW:Nat:=300
abbrev IG:Nat:=0
abbrev ap:Nat:=2
abbrev ai:Nat:=3
abbrev gf:Nat:=4
abbrev cD:Nat:=5
abbrev c0:Nat:=9
abbrev cM:Nat:=22
abbrev nb:Nat:=23
abbrev dy:Nat:=25
abbrev an:Nat:=26
abbrev de:Nat:=27
abbrev j0:Nat:=28
abbrev ec:Nat:=29
abbrev gg:Nat:=30
abbrev bc:Nat:=33
abbrev c3:Nat:=37
abbrev ax:Nat:=40
abbrev a8:Nat:=42
abbrev fq:Nat:=44
abbrev jq:Nat:=45
abbrev uV:Nat:=67
abbrev uW:Nat:=70
abbrev me:Nat:=73
abbrev cV:Nat:=78
abbrev dz:Nat:=80
abbrev fs:Nat:=82
abbrev ow:Nat:=84
abbrev ox:Nat:=100
abbrev IH:Nat:=103
abbrev b2:Nat:=106
abbrev pO:Nat:=109
abbrev e5:Nat:=110
abbrev cE:Nat:=113
abbrev bB:Nat:=119
abbrev ed:Nat:=121
abbrev rP:Nat:=123
abbrev eV:Nat:=126
abbrev hh:Nat:=127
abbrev b7:Nat:=129
abbrev iO:Nat:=134
abbrev ij:Nat:=135
abbrev bY:Nat:=137
abbrev dD:Nat:=143
abbrev cF:Nat:=145
abbrev eO:Nat:=146
abbrev cG:Nat:=148
abbrev fd:Nat:=150
abbrev dw:Nat:=154
abbrev bA:Nat:=156
abbrev dA:Nat:=158
abbrev cj:Nat:=160
abbrev dU:Nat:=164
abbrev a1:Nat:=166
abbrev kH:Nat:=171
abbrev ft:Nat:=173
abbrev eP:Nat:=174
abbrev hj:Nat:=179
abbrev pP:Nat:=198
abbrev hU:Nat:=210
abbrev nc:Nat:=211
abbrev rQ:Nat:=212
abbrev fu:Nat:=214
abbrev gh:Nat:=216
abbrev eD:Nat:=218
abbrev kI:Nat:=220
abbrev hD:Nat:=222
abbrev jr:Nat:=228
abbrev dV:Nat:=233
abbrev b3:Nat:=238
abbrev gi:Nat:=240
abbrev cW:Nat:=245
abbrev ik:Nat:=257
abbrev fv:Nat:=259
abbrev oy:Nat:=260
abbrev gj:Nat:=263
abbrev cX:Nat:=266
abbrev oz:Nat:=282
abbrev gQ:Nat:=284
abbrev fN:Nat:=287
abbrev cH:Nat:=289
abbrev zu:Nat:=299
abbrev kJ:Nat:=315
abbrev iP:Nat:=317
abbrev QX:Nat:=333
abbrev oA:Nat:=340
abbrev lB:Nat:=341
abbrev rR:Nat:=348
abbrev mf:Nat:=365
abbrev rS:Nat:=384
abbrev uX:Nat:=410
theorem az {f:R4} {fn:Func} {c:Code} {Q:x1->x3->Prop} {Z:{B S aX:Type}->md B S aX->(x1->x3->B)->B} {a:Prop} (ae:x7.funcs[f]? =σ fn) (h:a)
  (j:fn.body=σ c:=by rfl) (_:∀ {B S aX:Type} (A:md B S aX) (Q:x1->x3->B),uH A false false (n:=w.heap.size) fn c args w Q=Z A Q:=by intros;conv=>lhs;reduce)
  (_:Z (ot x7) Q=a:=by dsimp only[ot]) (e:a=er x7 fn.ntmps (false,w.heap.size) c (mb fn.results.toList) (kD 0 args) w (lq x7 fn.results.toList false 0 Q):=by kernel_rfl)
  (hk:(!(fn.name == "runtime.NumGoroutine")&&wf fn.ntmps c&&Nat.ble args.length fn.ntmps&& !jV c)=true:=by kernel_rfl):am x7 f args w Q:=by
 simp only[V0,Bool.not_eq_true'] at hk;exact am.FH mixed ae j hk.1.1.1 hk.1.1.2 hk.1.2 hk.2 (e▸h)
theorem iQ {f:R4} {fn:Func} {c:Code} {Q:x1->x3->Prop} {Z:{B S aX:Type}->md B S aX->(x1->x3->B)->B} {a:Prop} (ae:x7.funcs[f]? =σ fn) (h:a)
  (j:fn.body=σ c:=by rfl) (_:∀ {B S aX:Type} (A:md B S aX) (Q:x1->x3->B),uH A false true (n:=w.heap.size) fn c args w Q=Z A Q:=by intros;conv=>lhs;reduce)
  (_:Z (ot x7) Q=a:=by dsimp only[ot]) (e:a=er x7 fn.ntmps (false,w.heap.size) c (mb fn.results.toList) (kD 0 args) w (lq x7 fn.results.toList true w.heap.size Q):=by kernel_rfl)
  (hk:(!(fn.name == "runtime.NumGoroutine")&&wf fn.ntmps c&&Nat.ble args.length fn.ntmps)=true:=by kernel_rfl):am x7 f args w Q:=by
 simp only[V0,Bool.not_eq_true'] at hk;exact am.enter mixed ae j hk.1.1 hk.1.2 hk.2 (e▸h)
theorem pQ {f:R4} {fn:Func} {c:Code} {Q:x1->x3->Prop} {Z:{B S aX:Type}->md B S aX->(x1->x3->B)->B} {a:Prop} (ae:x7.funcs[f]? =σ fn) (h:a)
  (j:fn.body=σ c:=by rfl) (_:∀ {B S aX:Type} (A:md B S aX) (Q:x1->x3->B),uH A true false (n:=0) fn c args w Q=Z A Q:=by intros;conv=>lhs;reduce)
  (_:Z (ot x7) Q=a:=by dsimp only[ot]) (e:a=er x7 fn.ntmps (true,0) c (mb fn.results.toList) (kD 0 args) w (lq x7 fn.results.toList false 0 Q):=by kernel_rfl)
  (hk:(!(fn.name == "runtime.NumGoroutine")&&wf fn.ntmps c&&Nat.ble args.length fn.ntmps)=true:=by kernel_rfl):gB x7 f args w Q:=by
 simp only[V0,Bool.not_eq_true'] at hk;exact gB.enter mixed ae j hk.1.1 hk.1.2 hk.2 (e▸h)
theorem jZ.enters:Enters x7 jZ:=Enters.of x7 (show x7.funcs[jZ]? =σ Tryz.f180 from Tryz.func180) rfl Ψ
theorem lx.enters:Enters x7 lx:=Enters.of x7 (show x7.funcs[lx]? =σ Tryz.f227 from Tryz.func227) rfl Ψ
theorem ov.enters:Enters x7 ov:=Enters.of x7 (show x7.funcs[ov]? =σ Tryz.f238 from Tryz.func238) rfl Ψ
theorem lz.enters:Enters x7 lz:=Enters.of x7 (show x7.funcs[lz]? =σ Tryz.f242 from Tryz.func242) rfl Ψ
theorem lA.enters:Enters x7 lA:=Enters.of x7 (show x7.funcs[lA]? =σ Tryz.f260 from Tryz.func260) rfl Ψ
end Go.Proofs.YtmgflbkdggdhoaaGreatDoor
namespace Go.Vc
open Go Go.RowKit
theorem uY {b o:Nat} (h:w.cell? ⟨b,o,ν⟩=σ v):∃c e f,w.heap[b]? =σ (.cells c e f)/\c[o]? =σ v:=by
 simp only[x3.cell?] at h;split at h
 .rename_i c e f a;exact⟨c,e,f,a,by simpa using h⟩
 .cases h
theorem zv (I:ah S w w') {b o:Nat} (a:¬S b) (h:w.cell? ⟨b,o,ν⟩=σ v):w'.cell? ⟨b,o,ν⟩=σ v:=by
 obtain⟨c,e,f,j,ac⟩:=uY h;simp[x3.cell?,I.aZ b _ j rfl a,ac]
theorem il (I:Ext w w') {b o:Nat} (h:w.cell? ⟨b,o,ν⟩=σ v):w'.cell? ⟨b,o,ν⟩=σ v:=
 zv (I.ab λ_=>False) (λh=>h) h
theorem ne (I:Ext w w') {b o:Nat} (h:w.rangeAt b o cs):w'.rangeAt b o cs:=λj v ac=>il I (h j v ac)
theorem js (I:ah S w w') {b o:Nat} (a:¬S b) (h:w.rangeAt b o cs):w'.rangeAt b o cs:=λj v ac=>zv I a (h j v ac)
def af (w:x3) (g:Nat) (e:r8) (cs:List x1):Prop:=w.heap[g]? =σ (.cells cs.toArray e (0,0))
theorem af.ext {g:Nat} (h:af w g e cs) (I:Ext w w'):af w' g e cs:=I.aZ g _ h rfl
theorem af.ab {g:Nat} (h:af w g e cs) (I:ah S w w') (a:¬S g):af w' g e cs:=I.aZ g _ h rfl a
theorem af.lt {g:Nat} (h:af w g e cs):g<w.heap.size:=(o8.1 h).1
theorem af.cell {g:Nat} (h:af w g e cs) {o:Nat} (ac:cs[o]? =σ v):w.cell? ⟨g,o,ν⟩=σ v:=by
 unfold af at h;simp[x3.cell?,h,ac]
theorem af.Qz{w:World}{g:Nat}{e:TypeId}{cs:List Value}{v:Value}(h:af w g e cs)(I:cs[0]? =σ v):w.cell? ⟨g,0,ν⟩=σ v:=h.cell I
theorem af.range {g:Nat} (h:af w g e cs):w.rangeAt g 0 cs:=λj v ac=>by rw[X0];exact h.cell ac
theorem af.frozen {g:Nat} (h:af w g e cs) (o:Nat) (a:Option Nat):w.frozen? ⟨g,o,a⟩=false:=by
 unfold af at h;simp[x3.frozen?,h]
def ca (w:x3) (k:Nat) (v:x1) (n:Nat) (cs:List x1):Prop:=
 cs.length=n*k/\ ∃b o base cap,v= .slice base n cap/\n<=cap/\cap<=maxLen/\(0<n->base=σ ⟨b,o,ν⟩)/\w.rangeAt b o cs
theorem ca.ext {k:Nat} (h:ca w k v n cs) (I:Ext w w'):ca w' k v n cs:=by
 obtain⟨h1,b,o,base,cap,a,e,f,j,m⟩:=h;exact⟨h1,b,o,base,cap,a,e,f,j,ne I m⟩
theorem ca.le {k:Nat} (h:ca w k v n cs):n<=maxLen:=by
 obtain⟨_,_,_,_,_,_,a,e,_⟩:=h;exact Y9 a e
theorem ca.nil (w:x3) (k:Nat):ca w k (.slice ν 0 0) 0 []:=⟨Ξ,0,0,ν,0,rfl,p8 _,X3 _,λh=>absurd h (Nat.lt_irrefl _),λj v h=>by simp at h⟩
def aS (P:W0) (t:r8) (k b:Nat) (z:x1):Prop:=∃i,P.info? t=σ i/\i.size=k/\i.bytes=b/\i.zero=σ z
theorem aS.of {P:W0} {k b:Nat} (h:(P.info? t).map (λi=>(i.size,i.bytes,i.zero))=σ (k,b,σ z)):aS P t k b z:=by
 cases hi:P.info? t with
 |none=>simp[hi] at h
 |some i=>simp[hi] at h;exact⟨i,hi,h⟩
theorem aS.size {P:W0} {k b:Nat} (h:aS P t k b z):(P.info? t).map (·.size)=σ k:=by
 obtain⟨i,hi,J,_⟩:=h;simp[hi,J]
def bL (P:W0) (t:r8) (pl:List (Nat×Nat)):Prop:=∃a,P.underlying t=σ (.struct a)/\a.toList.map (λf=>(f.offset,((P.info? f.type).map (·.size)).getD 0))=pl
def zw (P:W0) (t:r8):Option (List (Nat×Nat)):=match P.underlying t with
 |some (.struct a)=>σ (a.toList.map λf=>(f.offset,((P.info? f.type).map (·.size)).getD 0))
 |_=>ν
theorem bL.of {P:W0} {pl:List (Nat×Nat)} (h:zw P t=σ pl):bL P t pl:=by
 unfold zw at h;split at h
 .rename_i a hu;exact⟨a,hu,by simpa using h⟩
 .cases h
section
variable {P:W0} {w:x3}
theorem aa.of {s:Sem x1} (h:∀w',Ext w w'->s.run P w'= .ok v w'):aa P s w K=K v:=by
 refine propext ⟨λ⟨a,h',k⟩=>?_,λk=>⟨v,h,k⟩⟩;have:=h' w (Ext.refl w);rw[h w (Ext.refl w)] at this;cases this;exact k
theorem aC.of {α:Type} {s:Sem α} {v:α} {K:α->x3->Prop} (h:s.run P w= .ok v w') (a:cL w w') (k:K v w'):aC P s w K:=⟨v,w',h,a,k⟩
theorem cb {c:Bool} {A B:Prop}:Split (.bool c) A B=((c=true->A)/\(c=false->B)):=by
 refine propext ⟨λ⟨e,h,h1,a⟩=>?_,λ⟨h1,a⟩=>⟨c,rfl,h1,a⟩⟩;cases h;exact⟨h1,a⟩
theorem al {p:Prop} [Decidable p] {A B:Prop}:Split (.bool (decide p)) A B=((p->A)/\(¬p->B)):=by rw[cb];simp
theorem bQ {A B:Prop}:Split (.bool true) A B=A:=by rw[cb];simp
theorem aY {A B:Prop}:Split (.bool false) A B=B:=by rw[cb];simp
theorem aM {b:Int}:aa P (aJ .add t cx cy (.int k a) (.int k b)) w K=K (.int k (k.wrap (a+b))):=
 aa.of λw' _=>by simp[aJ,eqGuard,binOp,Op.intArith]
theorem dJ {b:Int}:aa P (aJ .sub t cx cy (.int k a) (.int k b)) w K=K (.int k (k.wrap (a-b))):=
 aa.of λw' _=>by simp[aJ,eqGuard,binOp,Op.intArith]
theorem gE {b:Int}:aa P (aJ .mul t cx cy (.int k a) (.int k b)) w K=K (.int k (k.wrap (a*b))):=
 aa.of λw' _=>by simp[aJ,eqGuard,binOp,Op.intArith]
theorem pR {b:Int} (e:b≠0):aa P (aJ .quo t cx cy (.int k a) (.int k b)) w K=K (.int k (k.wrap (a.tdiv b))):=
 aa.of λw' _=>by simp[aJ,eqGuard,binOp,Op.intDiv,e]
theorem nf {b:Int} (e:b≠0):aa P (aJ .rem t cx cy (.int k a) (.int k b)) w K=K (.int k (a.tmod b)):=
 aa.of λw' _=>by simp[aJ,eqGuard,binOp,Op.intDiv,e]
theorem aN {b:Int}:aa P (aJ .lss t cx cy (.int k a) (.int k b)) w K=K (.bool (decide (a<b))):=
 aa.of λw' _=>by simp[aJ,eqGuard,binOp,Op.intCmp]
theorem Υ{k:IntKind}{P:Program}{t:TypeId}{cx cy:Bool}{a b:Int}{w:World}{A B:Prop}(hA:a<b->A)(h:a<b:=by omega):aa P (aJ .lss t cx cy (.int k a) (.int k b)) w λv=>Split v A B:=by
 rw[aN,al];exact ⟨hA,λe=>absurd h e⟩
theorem lC {b:Int}:aa P (aJ .leq t cx cy (.int k a) (.int k b)) w K=K (.bool (decide (a<=b))):=
 aa.of λw' _=>by simp[aJ,eqGuard,binOp,Op.intCmp]
theorem bR {b:Int}:aa P (aJ .gtr t cx cy (.int k a) (.int k b)) w K=K (.bool (decide (b<a))):=
 aa.of λw' _=>by simp[aJ,eqGuard,binOp,Op.intCmp]
theorem cO {b:Int}:aa P (aJ .geq t cx cy (.int k a) (.int k b)) w K=K (.bool (decide (b<=a))):=
 aa.of λw' _=>by simp[aJ,eqGuard,binOp,Op.intCmp]
theorem bh {b:Int}:aa P (aJ .eql t cx cy (.int k a) (.int k b)) w K=K (.bool (decide (a=b))):=
 aa.of λw' _=>by
  have:(a == b)=decide (a=b):=by by_cases h:a=b<;>simp[h]
  simp[aJ,eqGuard,binOp,Op.intCmp,this]
theorem bz {b:Int}:aa P (aJ .neq t cx cy (.int k a) (.int k b)) w K=K (.bool (decide (a≠b))):=
 aa.of λw' _=>by
  have:(a != b)=decide (a≠b):=by by_cases h:a=b<;>simp[h,bne]
  simp[aJ,eqGuard,binOp,Op.intCmp,this]
theorem zx {e:o4} {b:Int} (f:0<=b):aa P (aJ .shl t cx cy (.int k a) (.int e b)) w K=K (.int k (k.wrap (a*2 ^ min b.toNat k.bits))):=
 aa.of λw' _=>by simp[aJ,eqGuard,binOp,Op.shift,show ¬b<0 by omega]
theorem bI {c:Bool}:aa P (Op.unary .not (.bool c)) w K=K (.bool !c):=aa.of λw' _=>by simp[Op.unary]
theorem lD:aa P (Op.unary .neg (.int k a)) w K=K (.int k (k.wrap (0-a))):=aa.of λw' _=>by simp[Op.unary,Op.intArith]
theorem eW {s d:r8} {e:o4} (J:P.underlying s=σ (.int e)) (f:P.underlying d=σ (.int k)):
  aa P (convert s d (.int e a)) w K=K (.int k (k.wrap a)):=aa.of λw' _=>by simp[convert,run_underlying J,run_underlying f,Conv.intToInt]
theorem zy {x y:x1} {r:Bool} (a:∀w',(eqGuard .eql t (a7 cx) (a7 cy) x y).run P w'= .ok () w')
  (e:binOp .eql t x y=(do pure (.bool (<-Op.equal t x y)))) (h:∀w',Ext w w'->(Op.equal t x y).run P w'= .ok r w'):aa P (aJ .eql t cx cy x y) w K=K (.bool r):=aa.of λw' I=>by
 unfold aJ;rw[e,X8,a w',Result.andThen_ok,X8,h w' I];rfl
theorem II {x y:x1} {r:Bool} (a:∀w',(eqGuard .neq t (a7 cx) (a7 cy) x y).run P w'= .ok () w')
  (e:binOp .neq t x y=(do pure (.bool (!(<-Op.equal t x y))))) (h:∀w',Ext w w'->(Op.equal t x y).run P w'= .ok r w'):aa P (aJ .neq t cx cy x y) w K=K (.bool !r):=aa.of λw' I=>by
 unfold aJ;rw[e,X8,a w',Result.andThen_ok,X8,h w' I];rfl
theorem zz (w:x3) (d:Nat) {p:Option Addr} (h:P.underlying t=σ (.pointer e)):(Op.equalIn (d+1) t (.pointer p) (.pointer ν)).run P w= .ok p.isNone w:=by
 cases p<;>simp[Op.equalIn,run_underlying h]
theorem rT {base:Option Addr} {c:Nat} (a:P.underlying t=σ (.slice e)):
  aa P (aJ .eql t cx cy (.slice base n c) (.slice ν 0 0)) w K=K (.bool base.isNone):=zy (λ_=>rfl) rfl λw' _=>run_equal_slice_nil w' t e base n c a
theorem c5 {p:Option Addr} (a:P.underlying t=σ (.pointer e)):
  aa P (aJ .eql t cx cy (.pointer p) (.pointer ν)) w K=K (.bool p.isNone):=zy (λ_=>rfl) rfl λw' _=>zz w' 9999 a
theorem zA {p:Option Addr} (a:P.underlying t=σ (.pointer e)):
  aa P (aJ .neq t cx cy (.pointer p) (.pointer ν)) w K=K (.bool !p.isNone):=II (λ_=>rfl) rfl λw' _=>zz w' 9999 a
theorem hE {a:r8} {base:Option Addr} {c:Nat} (f:P.underlying t=σ (.slice e)):
  aa P (W6 #[t] a #[.slice base n c]) w K=K (Δ n):=aa.of λw' _=>by simp[W6,run_underlying f,goInt]
theorem lE {e:Array r8} {f:r8} {b:Int}:
  aa P (Z0.min_ e f #[.int k a,.int k b]) w K=K (.int k (min a b)):=aa.of λw' _=>by
 simp only[Z0.min_,List.foldlM,Z0.min2];simp only[X8,W7,Result.andThen_ok,Int.min_def];congr 2;split<;>split<;>omega
theorem uZ {e:Array r8} {f:r8} {b:Int}:
  aa P (Z0.max_ e f #[.int k a,.int k b]) w K=K (.int k (max a b)):=aa.of λw' _=>by
 simp only[Z0.max_,List.foldlM,Z0.max2];simp only[X8,W7,Result.andThen_ok,Int.max_def];congr 2;split<;>split<;>omega
theorem im {vs:Array x1} {i:Nat} (h:vs[i]? =σ v):aa P (Z4 (.tuple vs) i) w K=K v:=aa.of λw' _=>by simp[Z4,h]
theorem iR {f:Fn} {a b:Array x1}:aa P (Instr.makeFunc f a b) w K=K (.func f a b):=aa.of λ_ _=>rfl
def jt (P:W0) (t:r8):Bool:=match P.underlying t with
 |some (.struct _)|some (.array _ _)|none=>false
 |_=>true
theorem aA {b o:Nat} (a:jt P t=true) (h:w.cell? ⟨b,o,ν⟩=σ v):
  aa P (u4 t (.pointer (σ ⟨b,o,ν⟩))) w K=K v:=aa.of λw' I=>by
 have h':=il I h;unfold jt at a;cases hu:P.underlying t with
 |none=>rw[hu] at a;cases a
 |some d=>
  rw[hu] at a;cases d<;>first|(cases a;done)|simp[u4,Instr.sureAddr,loadVar,isAgg,run_underlying hu,h']
theorem zB {d:TypeDesc} {b o k a:Nat} (hu:P.underlying t=σ d) (e:d.isRow=true) (hi:aS P t k a z) (f:cs.length=k)
  (h:w.rangeAt b o cs):aa P (u4 t (.pointer (σ ⟨b,o,ν⟩))) w K=K (.agg cs.toArray):=aa.of λw' I=>
 run_loadAt_mid (P:=P) w' b o t cs d (ne I h) hu e (by rw[hi.size,f])
theorem bO {pl:List (Nat×Nat)} {b o k a:Nat} (hu:bL P t pl) (hi:aS P t k a z) (e:cs.length=k)
  (h:w.rangeAt b o cs):aa P (u4 t (.pointer (σ ⟨b,o,ν⟩))) w K=K (.agg cs.toArray):=by
 obtain⟨f,hu,_⟩:=hu;exact zB hu rfl hi e h
theorem aW {pl:List (Nat×Nat)} {i b o off z:Nat} (m:bL P t pl) (ae:pl[i]? =σ (off,z+1)):
  aa P (u5 t (.pointer (σ ⟨b,o,ν⟩)) i) w K=K (.pointer (σ ⟨b,o+off,ν⟩)):=aa.of λw' _=>by
 obtain⟨p,hu,rfl⟩:=m;rw[x8] at ae;cases a:p[i]? with
 |none=>rw[S5,a] at ae;cases ae
 |some f=>
  rw[S5,a] at ae;simp only[Z3,Y8,S0] at ae;obtain⟨rfl,h⟩:=ae;cases e:P.info? f.type with
  |none=>simp[e] at h
  |some j=>
   have J:j.size=z+1:=by simpa[e] using h
   simp[u5,run_underlying hu,a,Instr.sureAddr,fieldPlace,sizeOf,typeInfo,e,J,T1]
theorem zC {i:Int} {b o c z f:Nat} {h:x1} {base:Option Addr} (hu:P.underlying t=σ (.slice e)) (m:aS P e z f h)
  (p:0<=i) (hi:i<n) (a:0<n->base=σ ⟨b,o,ν⟩):
  aa P (j5 t (.slice base n c) (.int k i)) w K=K (.pointer (σ ⟨b,o+i.toNat*z,ν⟩)):=aa.of λw' _=>by
 have a:=a Ω;subst a;obtain⟨j,q,J,_⟩:=m;simp[j5,asIntOf,run_underlying hu,p,hi,sizeOf,typeInfo,q,J,T1]
theorem e6 {i:Nat} {b o c z a:Nat} {base:Option Addr} (hu:P.underlying t=σ (.slice e)) (h:aS P e z a f)
  (hi:i<n) (j:0<n->base=σ ⟨b,o,ν⟩):
  aa P (j5 t (.slice base n c) (.int k (i:Int))) w K=K (.pointer (σ ⟨b,o+i*z,ν⟩)):=by
 rw[zC (i:=(i:Int)) hu h Ω Ω j];rfl
theorem IJ {i:Int} {b o z a:Nat} (hu:P.underlying t=σ (.array n e)) (h:aS P e z a f)
  (m:0<=i) (hi:i<n):
  aa P (j5 t (.pointer (σ ⟨b,o,ν⟩)) (.int k i)) w K=K (.pointer (σ ⟨b,o+i.toNat*z,ν⟩)):=aa.of λw' _=>by
 obtain⟨j,p,J,_⟩:=h;simp[j5,asIntOf,run_underlying hu,Instr.sureAddr,m,hi,sizeOf,typeInfo,p,J,T1]
theorem u0 {i:Nat} {b o z a:Nat} (hu:P.underlying t=σ (.array n e)) (h:aS P e z a f) (hi:i<n):
  aa P (j5 t (.pointer (σ ⟨b,o,ν⟩)) (.int k (i:Int))) w K=K (.pointer (σ ⟨b,o+i*z,ν⟩)):=by
 rw[IJ (i:=(i:Int)) hu h Ω Ω];rfl
def lF:Option x1->Nat->Prop
 |none,l=>l=0
 |some v,l=>∃k,v= .int k l
def lG:Option x1->Nat->Nat->Prop
 |none,n,h=>h=n
 |some v,_,h=>∃k,v= .int k h
def maxOf:Option x1->Option x1->Nat->Nat->Prop
 |none,_,c,m=>m=c
 |some v,σ _,_,m=>∃k,v= .int k m
 |some _,ν,_,_=>False
theorem pS {l:Nat}:lF (σ (.int k (l:Int))) l:=⟨_,rfl⟩
theorem ng (l:Nat) (x:Int) (h:x=(l:Int)):lF (σ (.int k x)) l:=⟨k,by rw[h]⟩
theorem nh (l:Nat) (x:Int) (h:x=(l:Int)):lG (σ (.int k x)) n l:=⟨k,by rw[h]⟩
theorem ju:lF ν 0:=rfl
theorem pT:lG (σ (.int k (h:Int))) n h:=⟨_,rfl⟩
theorem jv:lG ν n n:=rfl
theorem fw {h:Option x1} {c:Nat}:maxOf ν h c c:=by cases h<;>rfl
theorem rU (w:x3) {sl:Bool} {c l:Nat} {low high mx:Option x1} (h1:lF low l) (e:lG high n h) (a:maxOf mx high c m) (f:l<=h) (aG:h<=m) (hm:m<=c):
  (Instr.sliceBounds sl n c low high mx).run P w= .ok (l,h,m) w:=by
 cases low<;>cases high<;>cases mx<;>simp only[lF,lG,maxOf] at h1 e a<;>(try exact a.elim)<;>(try obtain⟨j,rfl⟩:=h1)<;>(try obtain⟨p,rfl⟩:=e)<;>(try obtain⟨q,rfl⟩:=a)<;>(try subst h1)<;>(try subst e)<;>(try subst a) <;>
  simp[Instr.sliceBounds,Instr.sliceBound,asIntOf,f,aG,hm]
theorem hF {c z a l:Nat} {base:Option Addr} {low high mx:Option x1} (hu:P.underlying t=σ (.slice e)) (p:aS P e z a f)
  (h1:lF low l) (q:lG high n h) (r:maxOf mx high c m) (s:l<=h) (aG:h<=m) (hm:m<=c):
  aa P (V3 t (.slice base n c) low high mx) w K=K (.slice (if m=l then base else base.map (·.add (l*z))) (h-l) (m-l)):=aa.of λw' _=>by
 obtain⟨j,x,J,_⟩:=p;simp[V3,Instr.slice,run_underlying hu,rU w' h1 q r s aG hm,sizeOf,typeInfo,x,J]
theorem rV {z a l b o:Nat} {low high mx:Option x1} (hu:P.underlying t=σ (.array n e)) (p:aS P e z a f)
  (h1:lF low l) (q:lG high n h) (r:maxOf mx high n m) (s:l<=h) (aG:h<=m) (hm:m<=n):
  aa P (V3 t (.pointer (σ ⟨b,o,ν⟩)) low high mx) w K=K (.slice (σ (if m=l then⟨b,o,ν⟩ else⟨b,o+l*z,ν⟩)) (h-l) (m-l)):=aa.of λw' _=>by
 obtain⟨j,x,J,_⟩:=p;simp[V3,Instr.sureAddr,run_underlying hu,rU w' h1 q r s aG hm,sizeOf,typeInfo,x,J,T1]
theorem dn {parts:Array (Nat×x1)} {cs:Array x1} (h:P.built t parts.toList=σ cs):aa P (Instr.build t parts) w K=K (.agg cs):=aa.of λw' _=>
 run_build (P:=P) w' t parts cs h
end
theorem ca.part {k c l:Nat} {base:Option Addr} (J:ca w k (.slice base n c) n cs) (p:l<=h) (aG:h<=n) (hm:h<=m) (q:m<=c):
  ca w k (.slice (if m=l then base else base.map (·.add (l*k))) (h-l) (m-l)) (h-l) ((cs.drop (l*k)).take ((h-l)*k)):=by
 obtain⟨h1,b,o,r,cap,he,s,x,a,e⟩:=J;cases he;have y:h*k<=n*k:=X4 _ aG;have z:l*k+(h-l)*k=h*k:=by rw[<-V9];congr 1;omega
 refine⟨by simp[h1];omega,b,o+l*k,_,m-l,rfl,Ω,Ω,λA=>?_,λj v ac=>?_⟩
 .rw[a Ω,if_neg Ω];simp[T1]
 .have f:=(x4.1 ac).1;simp at f;rw[Z7 Ω,List.getElem?_drop] at ac;rw[S9];exact e _ _ ac
section
variable {P:W0} {w:x3}
structure iS (g:Nat) (w w':x3):Prop where
 os:w'.os=w.os
 tape:jm w w'
 output:w'.output=w.output
 size:w'.heap.size=w.heap.size
 aZ:∀r,r≠g->w'.heap[r]? =w.heap[r]?
theorem iS.refl (g:Nat) (w:x3):iS g w w:=⟨rfl,.jS,rfl,rfl,λ_ _=>rfl⟩
theorem iS.trans {g:Nat} {a b:x3} (h:iS g a b) (k:iS g b c):iS g a c:=
 ⟨k.os.trans h.os,k.tape.trans h.tape,k.output.trans h.output,k.size.trans h.size,λr e=>(k.aZ r e).trans (h.aZ r e)⟩
theorem iS.ab {g:Nat} {w:x3} (h:iS g w w'):ah (λr=>r=g) w w':=⟨Nat.le_of_eq h.size.symm,λr o a _ e=>by rw[h.aZ r e];exact a⟩
theorem iS.ct {g:Nat} {w:x3} (h:iS g w w') (f:af w g e cs):cL w w':=
 ⟨h.os,h.tape,h.output,Nat.le_of_eq h.size.symm,λr o a J=>by
  by_cases j:r=g
  .subst j;unfold af at f;rw[f] at a;cases a;simp[fm] at J
  .rw[h.aZ r j];exact a⟩
theorem zD {g:Nat} (h:af w g e cs) (o:Nat) (v:x1):af (w.setCell ⟨g,o,ν⟩ v) g e (cs.set o v)/\iS g w (w.setCell ⟨g,o,ν⟩ v):=by
 unfold af at h;refine⟨?_,rfl,.jS,rfl,by simp[x3.setCell],λr a=>?_⟩
 .simp[af,x3.setCell,Array.getElem?_modify,h]
 .simp[x3.setCell,Array.getElem?_modify,Ne.symm a]
def over (cs:List x1):Nat->List x1->List x1
 |_,[]=>cs
 |o,v::r=>over (cs.set o v) (o+1) r
theorem lH:∀ (vs cs:List x1) (o:Nat),(over cs o vs).length=cs.length
 |[],_,_=>rfl
 |v::r,cs,o=>by simp[over,lH r]
theorem ni:∀ (vs cs:List x1) (o:Nat),o+vs.length<=cs.length-> ∀j,(over cs o vs)[j]? =if o<=j/\j<o+vs.length then vs[j-o]? else cs[j]?
 |[],cs,o,_,j=>by simp[over];intro h1 a;omega
 |v::r,cs,o,h,j=>by
  simp only[c7] at h;rw[over,ni r (cs.set o v) (o+1) Θ j];simp only[c7];by_cases h1:o+1<=j/\j<o+1+r.length
  .rw[if_pos h1,if_pos Ω];rw[show j-o=(j-(o+1))+1 by omega,List.getElem?_cons_succ]
  .rw[if_neg h1];by_cases a:j=o
   .subst a;rw[if_pos Ω,c9 Ω];simp
   .rw[if_neg Ω,Y2 (Ne.symm a)]
theorem mg {o:Nat} (h:o+vs.length<=cs.length):over cs o vs=cs.take o++vs++cs.drop (o+vs.length):=by
 apply Y6;intro j;rw[ni vs cs o h];by_cases h1:j<o
 .rw[if_neg Ω,Y1 Θ,Y1 Θ,Z7 h1]
 .by_cases a:j<o+vs.length
  .rw[if_pos Ω,Y1 Θ,Y4 Θ];congr 1;simp;omega
  .rw[if_neg Ω,Y4 Θ,List.getElem?_drop];congr 1;simp;omega
theorem nj {g:Nat} {e:r8}:∀ (vs:List x1) (cs:List x1) (o:Nat) (w:x3),af w g e cs->af (w.setCells g o vs) g e (over cs o vs)/\iS g w (w.setCells g o vs)
 |[],cs,o,w,h=>⟨h,iS.refl _ _⟩
 |v::r,cs,o,w,h=>by
  obtain⟨h1,a⟩:=zD h o v;obtain⟨f,j⟩:=nj r (cs.set o v) (o+1) _ h1;exact⟨f,a.trans j⟩
theorem rW (w:x3) (c:List x1) (e:r8):af (w.alloc (.cells c.toArray e)) w.heap.size e c/\Ext w (w.alloc (.cells c.toArray e))/\cL w (w.alloc (.cells c.toArray e)):=
 ⟨heap_alloc_new w _,py w _,pz w _⟩
theorem bG {k a:Nat} {K:x1->x3->Prop} (hi:aS P t k a z)
  (h:∀g w',g=w.heap.size->Ext w w'->af w' g t z.cells.toList->K (Γ g) w'):aC P (R7 t true (.tuple #[])) w K:=by
 obtain⟨i,hi,_,_,e⟩:=hi;obtain⟨h1,f,j⟩:=rW w z.cells.toList t;refine .of ?_ j (h _ _ rfl f h1);simp[R7,zeroValue,typeInfo,hi,e,newVar,newRow]
theorem bo {K:x1->x3->Prop}
  (h:∀g w',g=w.heap.size->Ext w w'->af w' g t v.cells.toList->K (Γ g) w'):aC P (Instr.box t v) w K:=by
 obtain⟨h1,a,e⟩:=rW w v.cells.toList t;refine .of ?_ e (h _ _ rfl a h1);simp[Instr.box,newVar,newRow]
def dK (z:Array x1) (n:Nat):List x1:=((Array.range n).map (z[·% z.size]!)).toList
theorem oB (z:Array x1) (n:Nat):(dK z n).length=n:=by simp[dK]
theorem j1 {k:Nat} {parts:Array (Nat×x1)} {cs:Array x1} {K:x1->x3->Prop} (f:P.underlying t=σ (.slice e)) (hi:aS P e k m z)
  (x:n*k<=2 ^ 24) (ae:Instr.fill (λj=>σ (j*k,k)) ((Array.range (n*k)).map ((if n*k=0 then #[] else z.cells)[·% (if n*k=0 then #[] else z.cells).size]!)) parts.toList=σ cs)
  (h:∀g w',g=w.heap.size->Ext w w'->af w' g e cs.toList->K (.slice (σ ⟨g,0,ν⟩) n n) w'):aC P (Y0 t n parts) w K:=by
 obtain⟨i,hi,rfl,_,p⟩:=hi;obtain⟨h1,q,r⟩:=rW w cs.toList e;refine .of ?_ r (h _ _ rfl q h1);have s:¬(16777216<n*i.size):=Ω
 by_cases a:n*i.size=0
 .simp only[a,if_true] at ae;simp[Y0,run_underlying f,sizeOf,typeInfo,hi,a,newRow];simp at ae;simp[ae]
 .simp only[a,if_false] at ae;simp[Y0,run_underlying f,sizeOf,typeInfo,hi,s,a,newRow,zeroValue,p,ae]
theorem bt {g o:Nat} {K:Unit->x3->Prop} (hi:aS P t 1 j z) (h1:v.cells= #[v]) (ac:v.oneCell'=true) (a:af w g e cs) (m:o<cs.length)
  (h:∀w',ah (λr=>r=g) w w'->w'.heap.size=w.heap.size->af w' g e (cs.set o v)->K () w'):aC P (o6 t (.pointer (σ ⟨g,o,ν⟩)) v) w K:=by
 obtain⟨i,hi,J,_⟩:=hi;obtain⟨p,f⟩:=zD a o v;refine .of (w':=w.setCell ⟨g,o,ν⟩ v) ?_ (f.ct a) (h _ f.ab f.size p);have q:=a.cell (x6 m);have s:(⟨g,o,ν⟩:Addr).add 0=⟨g,o,ν⟩:=rfl;simp[o6,Instr.sureAddr,storeVar,sizeOf,typeInfo,hi,J,h1,storeCells,s,run_store P w _ v _ ac,q,a.frozen]
theorem zE {k g o:Nat} {K:Unit->x3->Prop} (hi:aS P t k m z) (p:vs.length=k) (ac:∀v∈vs,v.oneCell'=true) (a:af w g e cs) (x:o+vs.length<=cs.length)
  (h:∀w',ah (λr=>r=g) w w'->w'.heap.size=w.heap.size->af w' g e (over cs o vs)->K () w'):aC P (o6 t (.pointer (σ ⟨g,o,ν⟩)) (.agg vs.toArray)) w K:=by
 obtain⟨q,f⟩:=nj vs cs o w a;refine .of (w':=w.setCells g o vs) ?_ (f.ct a) (h _ f.ab f.size q);exact run_storeAt_mid (P:=P) w g o t vs.toArray (λj s=>⟨by rw[a.cell (x6 (show o+j<cs.length by simp at s;omega))];rfl,a.frozen _ _⟩) (by rw[hi.size];simp[p]) (by simpa using ac)
def bT (w:x3) (g:Nat) (e:r8) (k:Nat) (v:x1) (n:Nat) (xs:List x1):Prop:=
 xs.length=n*k/\((v= .slice ν 0 0/\n=0)\/ ∃cap cs,v= .slice (σ ⟨g,0,ν⟩) n cap/\af w g e cs/\n<=cap/\cap<=maxLen/\cs.length=cap*k/\cs.take (n*k)=xs)
theorem bT.nil (w:x3) (g:Nat) (e:r8) (k:Nat):bT w g e k (.slice ν 0 0) 0 []:=⟨Ξ,.inl ⟨rfl,rfl⟩⟩
theorem bT.full {g:Nat} {k:Nat} (h:af w g e cs) (a:cs.length=n*k) (f:n<=maxLen):bT w g e k (.slice (σ ⟨g,0,ν⟩) n n) n cs:=
 ⟨a,.inr ⟨n,cs,rfl,h,p8 _,f,a,by rw[<-a,o5]⟩⟩
theorem bT.ab {g:Nat} {k:Nat} (h:bT w g e k v n xs) (I:ah S w w') (f:g<w.heap.size->¬S g):bT w' g e k v n xs:=
 ⟨h.1,h.2.imp id λ⟨cap,cs,h1,a,j⟩=>⟨cap,cs,h1,a.ab I (f a.lt),j⟩⟩
theorem bT.ext {g:Nat} {k:Nat} (h:bT w g e k v n xs) (I:Ext w w'):bT w' g e k v n xs:=h.ab (I.ab λ_=>False) (λ_ h=>h)
theorem bT.sl {g:Nat} {k:Nat} (h:bT w g e k v n xs):ca w k v n xs:=by
 obtain⟨h1,⟨rfl,rfl⟩|⟨cap,cs,rfl,a,f,m,q,p⟩⟩:=h
 .have:xs=[]:=c8 (by simpa using h1);subst this;exact ca.nil w k
 .refine⟨h1,g,0,_,cap,rfl,f,m,λ_=>rfl,λj v ac=>?_⟩;rw[X0];have r:=(x4.1 ac).1;rw[<-p,Z7 Ω] at ac;exact a.cell ac
theorem ca.src {k:Nat} {x:x1} {a:List x1} {f h:r8} (J:ca w k x m a) (hk:P.underlying f=σ (.slice h)) (h1:∀u∈a,u.oneCell'=true) (p:0<m):Src P k f x m a w:=by
 obtain⟨q,b,o,base,cap,rfl,_,_,e,r⟩:=J;have e:=e p;subst e;exact Src.ofSlice w hk ⟨b,o,ν⟩ m cap a q (λj u hu=>by rw[T1];exact r j u hu) h1
theorem ca.IK {k:Nat} {x:x1} {f:List x1} {h:r8} (J:ca w k x 0 f) (hk:P.underlying e=σ (.slice h)):Src P k e x 0 [] w:=by
 obtain⟨j,b,o,base,cap,rfl,_,_,m,p⟩:=J;cases base with
 |none=>exact Src.ofNil w hk cap
 |some a=>exact Src.ofSlice w hk a 0 cap [] Ξ Ξ Ξ
theorem zF {p s M W:r8} {k g:Nat} {x:x1} {a:List x1} {K:x1->x3->Prop}
  (B:P.underlying t=σ (.slice e)) (C:P.underlying p=σ (.slice W)) (hi:aS P e k N z) (X:z.cells.size=k)
  (O:bT w g M k v n xs) (J:ca w k x m a) (h1:∀u∈a,u.oneCell'=true) (Y:(n+m)*N<=140737488355328) (Q:n+m<=maxLen)
  (h:∀E F w' G,(F=g/\G=M/\(v=E\/g<w.heap.size/\v≠ .slice ν 0 0)\/F=w.heap.size/\G=e)->bT w' F G k E (n+m) (xs++a)->ah (λr=>r=g/\v≠ .slice ν 0 0) w w'->K E w'):
  aC P (b8 #[t,p] s #[v,x]) w K:=by
 obtain⟨i,hi,rfl,rfl,Z⟩:=hi;have aa:=O.sl;obtain⟨f,H⟩:=O;have q:=J.1;have grow:∀ (base:Option Addr) (cap:Nat),v= .slice base n cap->cap<n+m->0<m->(Z0.firstCells i.size n (.slice base n cap)).run P w.drew= .ok xs.toArray w.drew->aC P (b8 #[t,p] s #[v,x]) w K:=by
  rintro base cap rfl R hm ac;have y:=run_append_grow_src (P:=P) w t p s e i z B hi Z base n cap xs ac x m a (J.src C h1 hm) R (by simp only[maxLen] at Q;omega) (growslice_fits R Y);have ad:n+m<=grownCap w (n+m) cap e:=grownCap_ge w _ _ _;have I:grownCap w (n+m) cap e<=maxLen:=grownCap_le_maxLen w (n+m) cap e Q;have ae:Ext w (w.drew.alloc (.cells ((xs++a).toArray++Z0.zeroCells z.cells (grownCap w (n+m) cap e-(n+m))) e)):=(rb w _).trans (py _ _);refine .of y ((px w _ (Nat.le_succ _)).trans (pz _ _)) (h _ w.heap.size _ _ (.inr ⟨rfl,rfl⟩) ⟨by simp[f,q,V9],.inr ⟨_,((xs++a).toArray++Z0.zeroCells z.cells (grownCap w (n+m) cap e-(n+m))).toList,rfl,?_,ad,I,?_,?_⟩⟩ (ae.ab _))
  .show _=_;rw[Array.toArray_toList];exact heap_alloc_new w.drew _
  .simp[f,q,size_zeroCells,X,<-V9];congr 1;omega
  .rw[Array.toList_append,List.toList_toArray,V9,<-f,<-q,<-p9];exact List.take_left
 rcases Q0 m with rfl|hm
 .have af:a=[]:=c8 (by simpa using q);subst af;have ag:=J.IK C;have S:∀base cap,v= .slice base n cap->n<=cap->aC P (b8 #[t,p] s #[v,x]) w K:=by
   rintro base cap rfl I;refine .of (run_append_nothing (P:=P) w t p s e i B hi base n cap I x ag) (cL.refl _) (h _ g _ _ (.inl ⟨rfl,rfl,.inl rfl⟩) ?_ (ah.refl _ _));rw[Nat.add_zero,U2];exact⟨f,H⟩
  obtain⟨rfl,rfl⟩|⟨cap,cs,rfl,_,T,_⟩:=H
  .exact S _ _ rfl (p8 _)
  .exact S _ _ rfl T
 .obtain⟨rfl,rfl⟩|⟨cap,cs,rfl,A,T,ai,U,aj⟩:=H
  .have ak:xs=[]:=c8 (by simpa using f);subst ak;exact grow ν 0 rfl Ω hm (run_firstCells_none w.drew i.size 0 0 0)
  .by_cases L:n+m<=cap
   .have al:n*i.size+a.length<=cs.length:=by rw[q,U,<-V9];exact X4 _ L
    have y:=run_append_room_src (P:=P) w t p s e i B hi g 0 n cap x m a (J.src C h1 hm) L
     (λj aq=>by rw[A.cell (x6 (show 0+n*i.size+j<cs.length by omega))];rfl) (λj _=>A.frozen _ _)
    obtain⟨am,V⟩:=nj a cs (n*i.size) w A;rw[X0] at y;refine .of y (V.ct A) (h _ g _ _ (.inl ⟨rfl,rfl,.inr ⟨A.lt,Ξ⟩⟩) ⟨by simp[f,q,V9],.inr ⟨cap,_,rfl,am,L,ai,by rw[lH,U],?_⟩⟩ (V.ab.mono λr _ h=>⟨h,Ξ⟩));rw[mg al,aj,V9,<-f,<-q,<-p9];exact List.take_left
   .refine grow _ cap rfl Ω hm (run_firstCells_some w.drew i.size n _ n cap xs f λj u hu=>?_);rw[T1];obtain⟨_,b,o,base,au,he,_,_,an,y⟩:=aa;cases he;have ao:0<n:=by
     rcases Q0 n with rfl|ap
     .simp at f;subst f;simp at hu
     .exact ap
    have:=an ao;cases this;simpa using y j u hu
theorem nk {p y A:r8} {k q g:Nat} {x:x1} {j:List x1} {K:x1->x3->Prop}
  (B:P.underlying t=σ (.slice e)) (C:P.underlying p=σ (.slice A)) (hi:aS P e k q z) (E:z.cells.size=k)
  (F:bT w g e k v n xs) (J:ca w k x m j) (h1:∀u∈j,u.oneCell'=true) (G:(n+m)*q<=140737488355328) (H:n+m<=maxLen)
  (h:∀f a w',(a=g\/w.heap.size<=a)->bT w' a e k f (n+m) (xs++j)->ah (λr=>r=g) w w'->K f w'):
  aC P (b8 #[t,p] y #[v,x]) w K:=
 zF B C hi E F J h1 G H λf a w' L s hm I=>by
  refine h f a w' (s.imp And.left λh=>Nat.le_of_eq h.1.symm) ?_ (I.mono λr _ h=>h.1);obtain⟨_,rfl,_⟩|⟨_,rfl⟩:=s<;>exact hm
theorem zG {f p q:r8} {H g o hl s:Nat} {x:x1} {base:Option Addr} {B:r8} {K:x1->x3->Prop} (C:P.underlying f=σ (.slice e)) (hi:aS P e 1 H z)
  (a:af w g B cs) (I:0<hl->base=σ ⟨g,o,ν⟩) (U:o+hl<=cs.length) (J:ca w 1 x n xs) (h1:∀u∈xs,u.oneCell'=true)
  (h:∀w',ah (λr=>r=g) w w'->w'.heap.size=w.heap.size->af w' g B (over cs o (xs.take hl))->K (Δ (min n hl:Nat)) w'):
  aC P (Z0.copy_ #[f,p] q #[.slice base hl s,x]) w K:=by
 obtain⟨y,b,o',L,cap,rfl,_,_,M,N⟩:=J;simp only[V8] at y;have E:(P.info? e).map (·.size)=σ 1:=hi.size;by_cases m:Nat.min n hl=0
 .have he:xs.take hl=[]:=c8 (by rw[l9,y];rw[Nat.min_comm];exact m);rw[he] at h;refine .of (run_copy_none (P:=P) w f p q e base L hl s n cap C E m) (cL.refl _) ?_;have F:min n hl=0:=m;rw[F] at h;exact h w (ah.refl _ _) rfl a
 .have F:min n hl≠0:=m;have O:=M Ω;have Q:=I Ω;subst O;subst Q;have G:(xs.take hl).length=min n hl:=by rw[l9,y,Nat.min_comm]
  obtain⟨R,A⟩:=nj (xs.take hl) cs o w a;have S:=run_copy_cells (P:=P) w f p q e g o hl s ⟨b,o',ν⟩ n cap (xs.take hl) C E G
   (λj u hu=>by
    rw[T1];have T:=(x4.1 hu).1;rw[Z7 Ω] at hu;exact N j u hu)
   (λj T=>by rw[a.cell (x6 (show o+j<cs.length by omega))];rfl) (λj _=>a.frozen _ _) (λu hu=>h1 u (S3 hu))
  refine .of S (A.ct a) ?_;rw[G];exact h _ A.ab A.size R
theorem am.mono {f:R4} {K e:x1->x3->Prop} (h:am P f args w K) (j:∀v w',cL w w'->K v w'->e v w'):am P f args w e:=by
 cases h with
 |code h1 a=>exact .code h1 (a.mono λ_ w' ⟨v,h1,m,a⟩=>⟨v,h1,m,j v w' m a⟩)
 |ext v w' h1 a p=>exact .ext v w' h1 a (j v w' a p)
theorem gB.mono {f:R4} {K e:x1->x3->Prop} (h:gB P f args w K) (j:∀v w',K v w'->e v w'):gB P f args w e:=by
 cases h with
 |code h1 a=>exact .code h1 (a.mono λ_ w' ⟨v,h1,a⟩=>⟨v,h1,j v w' a⟩)
 |ext v w' h1 m=>exact .ext v w' h1 (j v w' m)
end
end Go.Vc
namespace Go.Proofs.YtmgflbkdggdhoaaGreatDoor
open Go Go.Vc Go.RowKit Go.Proofs Go.Proofs.Tryz
set_option maxRecDepth 100000
theorem ap.u:x7.underlying ap=σ (.int .i64):=Ψ
theorem ap.i:aS x7 ap 1 8 (Δ 0):=aS.of Ψ
theorem ai.u:x7.underlying ai=σ (.int .i64):=Ψ
theorem ai.i:aS x7 ai 1 8 (Δ 0):=aS.of Ψ
theorem gf.i:aS x7 gf 1 1 (.bool false):=aS.of Ψ
theorem cD.u:x7.underlying cD=σ (.int .u8):=Ψ
theorem cD.i:aS x7 cD 1 1 (.int .u8 0):=aS.of Ψ
theorem c0.u:x7.underlying c0=σ .string:=Ψ
theorem c0.i:aS x7 c0 1 16 (.string ⟨#[]⟩):=aS.of Ψ
theorem cM.u:x7.underlying cM=σ (.slice cD):=Ψ
theorem nb.u:x7.underlying nb=σ (.slice c3):=Ψ
theorem dy.u:x7.underlying dy=σ (.pointer cE):=Ψ
theorem an.u:x7.underlying an=σ (.slice ai):=Ψ
theorem an.i:aS x7 an 1 24 (.slice ν 0 0):=aS.of Ψ
theorem de.u:x7.underlying de=σ (.slice an):=Ψ
theorem de.i:aS x7 de 1 24 (.slice ν 0 0):=aS.of Ψ
theorem j0.u:x7.underlying j0=σ (.slice gf):=Ψ
theorem j0.i:aS x7 j0 1 24 (.slice ν 0 0):=aS.of Ψ
theorem ec.u:x7.underlying ec=σ (.slice ax):=Ψ
theorem ec.i:aS x7 ec 1 24 (.slice ν 0 0):=aS.of Ψ
theorem gg.u:x7.underlying gg=σ (.slice fq):=Ψ
theorem gg.i:aS x7 gg 1 24 (.slice ν 0 0):=aS.of Ψ
theorem bc.p:bL x7 bc [(0,1),(1,1),(2,1),(3,1),(4,1),(5,1),(6,1),(7,1)]:=bL.of Ψ
theorem bc.i:aS x7 bc 8 160 (.agg #[(Δ 0),(.slice ν 0 0),(Δ 0),(.slice ν 0 0),(.slice ν 0 0),(.slice ν 0 0),(.slice ν 0 0),(.slice ν 0 0)]):=aS.of Ψ
theorem c3.p:bL x7 c3 [(0,1),(1,1),(2,1),(3,1),(4,1)]:=bL.of Ψ
theorem c3.i:aS x7 c3 5 40 (.agg #[(.int .u8 0),(Δ 0),(Δ 0),(Δ 0),(Δ 0)]):=aS.of Ψ
theorem ax.u:x7.underlying ax=σ (.slice ap):=Ψ
theorem ax.i:aS x7 ax 1 24 (.slice ν 0 0):=aS.of Ψ
theorem a8.p:bL x7 a8 [(0,1),(1,1),(2,1)]:=bL.of Ψ
theorem a8.i:aS x7 a8 3 72 (.agg #[(.slice ν 0 0),(.slice ν 0 0),(.slice ν 0 0)]):=aS.of Ψ
theorem fq.p:bL x7 fq [(0,3),(3,1)]:=bL.of Ψ
theorem fq.i:aS x7 fq 4 80 (.agg #[(.slice ν 0 0),(.slice ν 0 0),(.slice ν 0 0),(.bool false)]):=aS.of Ψ
theorem jq.i:aS x7 jq 1 8 (Δ 0):=aS.of Ψ
theorem uV.u:x7.underlying uV=σ (.pointer cF):=Ψ
theorem uW.u:x7.underlying uW=σ (.pointer dA):=Ψ
theorem me.u:x7.underlying me=σ (.pointer ft):=Ψ
theorem cV.u:x7.underlying cV=σ (.slice a8):=Ψ
theorem cV.i:aS x7 cV 1 24 (.slice ν 0 0):=aS.of Ψ
theorem dz.p:bL x7 dz [(0,1),(1,1),(2,1),(3,1),(4,1)]:=bL.of Ψ
theorem dz.i:aS x7 dz 5 88 (.agg #[(Δ 0),(.slice ν 0 0),(Δ 0),(.slice ν 0 0),(.slice ν 0 0)]):=aS.of Ψ
theorem fs.u:x7.underlying fs=σ (.int .u64):=Ψ
theorem fs.i:aS x7 fs 1 8 (.int .u64 0):=aS.of Ψ
theorem ow.i:aS x7 ow 1 8 .nilFunc:=aS.of Ψ
theorem ox.i:aS x7 ox 1 8 .nilFunc:=aS.of Ψ
theorem b2.p:bL x7 b2 [(0,1),(1,1)]:=bL.of Ψ
theorem b2.i:aS x7 b2 2 16 (.agg #[(.int .u64 0),(Δ 0)]):=aS.of Ψ
theorem pO.u:x7.underlying pO=σ (.pointer fu):=Ψ
theorem e5.u:x7.underlying e5=σ (.slice ed):=Ψ
theorem e5.i:aS x7 e5 1 24 (.slice ν 0 0):=aS.of Ψ
theorem cE.p:bL x7 cE [(0,1),(1,1),(2,1),(3,1),(4,1)]:=bL.of Ψ
theorem bB.p:bL x7 bB [(0,1)]:=bL.of Ψ
theorem bB.i:aS x7 bB 1 24 (.agg #[(.slice ν 0 0)]):=aS.of Ψ
theorem ed.p:bL x7 ed [(0,1),(1,1),(2,1)]:=bL.of Ψ
theorem ed.i:aS x7 ed 3 56 (.agg #[(.slice ν 0 0),(.slice ν 0 0),(Δ 0)]):=aS.of Ψ
theorem rP.u:x7.underlying rP=σ (.pointer hD):=Ψ
theorem eV.p:bL x7 eV [(0,1),(1,1),(2,1),(3,1)]:=bL.of Ψ
theorem hh.u:x7.underlying hh=σ (.slice jr):=Ψ
theorem hh.i:aS x7 hh 1 24 (.slice ν 0 0):=aS.of Ψ
theorem b7.p:bL x7 b7 [(0,1),(1,4),(5,1),(6,1)]:=bL.of Ψ
theorem iO.u:x7.underlying iO=σ (.slice bY):=Ψ
theorem ij.u:x7.underlying ij=σ (.slice dV):=Ψ
theorem ij.i:aS x7 ij 1 24 (.slice ν 0 0):=aS.of Ψ
theorem bY.p:bL x7 bY [(0,1),(1,1),(2,1),(3,1)]:=bL.of Ψ
theorem bY.i:aS x7 bY 4 80 (.agg #[(.slice ν 0 0),(.slice ν 0 0),(Δ 0),(.slice ν 0 0)]):=aS.of Ψ
theorem dD.u:x7.underlying dD=σ (.slice cG):=Ψ
theorem dD.i:aS x7 dD 1 24 (.slice ν 0 0):=aS.of Ψ
theorem cF.p:bL x7 cF [(0,1),(1,1),(2,1),(3,1)]:=bL.of Ψ
theorem eO.u:x7.underlying eO=σ (.pointer fv):=Ψ
theorem eO.i:aS x7 eO 1 8 (.pointer ν):=aS.of Ψ
theorem cG.p:bL x7 cG [(0,1),(1,1)]:=bL.of Ψ
theorem cG.i:aS x7 cG 2 32 (.agg #[(.slice ν 0 0),(.pointer ν)]):=aS.of Ψ
theorem fd.u:x7.underlying fd=σ (.slice cj):=Ψ
theorem fd.i:aS x7 fd 1 24 (.slice ν 0 0):=aS.of Ψ
theorem dw.u:x7.underlying dw=σ (.slice a1):=Ψ
theorem dw.i:aS x7 dw 1 24 (.slice ν 0 0):=aS.of Ψ
theorem bA.p:bL x7 bA [(0,1),(1,1),(2,1),(3,1),(4,1),(5,1),(6,1),(7,1),(8,1)]:=bL.of Ψ
theorem dA.p:bL x7 dA [(0,1),(1,1),(2,1),(3,1)]:=bL.of Ψ
theorem cj.p:bL x7 cj [(0,1),(1,1)]:=bL.of Ψ
theorem cj.i:aS x7 cj 2 24 (.agg #[(.string ⟨#[]⟩),(Δ 0)]):=aS.of Ψ
theorem dU.u:x7.underlying dU=σ (.slice b3):=Ψ
theorem dU.i:aS x7 dU 1 24 (.slice ν 0 0):=aS.of Ψ
theorem a1.p:bL x7 a1 [(0,1),(1,1),(2,1),(3,1)]:=bL.of Ψ
theorem a1.i:aS x7 a1 4 80 (.agg #[(.slice ν 0 0),(.slice ν 0 0),(Δ 0),(.slice ν 0 0)]):=aS.of Ψ
theorem kH.u:x7.underlying kH=σ (.slice hj):=Ψ
theorem kH.i:aS x7 kH 1 24 (.slice ν 0 0):=aS.of Ψ
theorem ft.p:bL x7 ft [(0,1),(1,1),(2,1),(3,1)]:=bL.of Ψ
theorem eP.u:x7.underlying eP=σ (.pointer cX):=Ψ
theorem eP.i:aS x7 eP 1 8 (.pointer ν):=aS.of Ψ
theorem hj.p:bL x7 hj [(0,1),(1,1)]:=bL.of Ψ
theorem hj.i:aS x7 hj 2 32 (.agg #[(.slice ν 0 0),(.pointer ν)]):=aS.of Ψ
theorem pP.p:bL x7 pP [(0,1),(1,1)]:=bL.of Ψ
theorem hU.u:x7.underlying hU=σ (.slice eD):=Ψ
theorem hU.i:aS x7 hU 1 24 (.slice ν 0 0):=aS.of Ψ
theorem nc.u:x7.underlying nc=σ (.slice kI):=Ψ
theorem nc.i:aS x7 nc 1 24 (.slice ν 0 0):=aS.of Ψ
theorem rQ.u:x7.underlying rQ=σ (.slice gh):=Ψ
theorem fu.p:bL x7 fu [(0,1),(1,1),(2,1),(3,1)]:=bL.of Ψ
theorem gh.p:bL x7 gh [(0,1),(1,1),(2,1)]:=bL.of Ψ
theorem gh.i:aS x7 gh 3 24 (.agg #[(Δ 0),(Δ 0),(.int .u64 0)]):=aS.of Ψ
theorem eD.p:bL x7 eD [(0,1),(1,1)]:=bL.of Ψ
theorem eD.i:aS x7 eD 2 16 (.agg #[(Δ 0),(.int .u64 0)]):=aS.of Ψ
theorem kI.i:aS x7 kI 3 24 (.agg #[(Δ 0),(Δ 0),(.int .u64 0)]):=aS.of Ψ
theorem hD.p:bL x7 hD [(0,1),(1,1),(2,1)]:=bL.of Ψ
theorem jr.p:bL x7 jr [(0,1),(1,1)]:=bL.of Ψ
theorem jr.i:aS x7 jr 2 48 (.agg #[(.slice ν 0 0),(.slice ν 0 0)]):=aS.of Ψ
theorem dV.p:bL x7 dV [(0,1),(1,1)]:=bL.of Ψ
theorem dV.i:aS x7 dV 2 32 (.agg #[(.slice ν 0 0),(Δ 0)]):=aS.of Ψ
theorem b3.p:bL x7 b3 [(0,1),(1,1)]:=bL.of Ψ
theorem b3.i:aS x7 b3 2 32 (.agg #[(.slice ν 0 0),(Δ 0)]):=aS.of Ψ
theorem gi.u:x7.underlying gi=σ (.slice cW):=Ψ
theorem cW.p:bL x7 cW [(0,1),(1,1)]:=bL.of Ψ
theorem cW.i:aS x7 cW 2 32 (.agg #[(.slice ν 0 0),(.pointer ν)]):=aS.of Ψ
theorem ik.u:x7.underlying ik=σ (.map cH ap):=Ψ
theorem fv.p:bL x7 fv [(0,1),(1,1),(2,1),(3,1)]:=bL.of Ψ
theorem oy.u:x7.underlying oy=σ (.slice gj):=Ψ
theorem gj.p:bL x7 gj [(0,1),(1,1)]:=bL.of Ψ
theorem gj.i:aS x7 gj 2 32 (.agg #[(.slice ν 0 0),(Δ 0)]):=aS.of Ψ
theorem cX.p:bL x7 cX [(0,1),(1,1),(2,1)]:=bL.of Ψ
theorem oz.u:x7.underlying oz=σ (.int .u64):=Ψ
theorem gQ.u:x7.underlying gQ=σ (.map c0 ai):=Ψ
theorem fN.u:x7.underlying fN=σ (.int .i8):=Ψ
theorem fN.i:aS x7 fN 1 1 (.int .i8 0):=aS.of Ψ
theorem cH.u:x7.underlying cH=σ (.array 6 fN):=Ψ
theorem cH.i:aS x7 cH 6 6 (.agg #[(.int .i8 0),(.int .i8 0),(.int .i8 0),(.int .i8 0),(.int .i8 0),(.int .i8 0)]):=aS.of Ψ
theorem kJ.u:x7.underlying kJ=σ (.slice fN):=Ψ
theorem iP.u:x7.underlying iP=σ (.slice cH):=Ψ
theorem iP.i:aS x7 iP 1 24 (.slice ν 0 0):=aS.of Ψ
theorem oA.u:x7.underlying oA=σ (.int .u32):=Ψ
theorem lB.u:x7.underlying lB=σ (.map ap ai):=Ψ
theorem rR.u:x7.underlying rR=σ (.array 64 cD):=Ψ
theorem mf.u:x7.underlying mf=σ (.array 24 cD):=Ψ
theorem mf.i:aS x7 mf 24 24 (.agg #[(.int .u8 0),(.int .u8 0),(.int .u8 0),(.int .u8 0),(.int .u8 0),(.int .u8 0),(.int .u8 0),(.int .u8 0),(.int .u8 0),(.int .u8 0),(.int .u8 0),(.int .u8 0),(.int .u8 0),(.int .u8 0),(.int .u8 0),(.int .u8 0),(.int .u8 0),(.int .u8 0),(.int .u8 0),(.int .u8 0),(.int .u8 0),(.int .u8 0),(.int .u8 0),(.int .u8 0)]):=aS.of Ψ
theorem rS.u:x7.underlying rS=σ (.array 20 fs):=Ψ
end Go.Proofs.YtmgflbkdggdhoaaGreatDoor
namespace Go.Vc
open Go Go.RowKit
def bU:x1->Int
 | .int _ i=>i
 |_=>0
theorem wrap_i64 {x:Int} (h1: -9223372036854775808<=x) (a:x<9223372036854775808):X2.wrap x=x:=by
 simp only[o4.wrap,o4.bits,o4.signed];simp;omega
theorem wrap_u8 {x:Int} (h1:0<=x) (a:x<256):o4.u8.wrap x=x:=by
 simp only[o4.wrap,o4.bits,o4.signed];simp;omega
theorem IL {x:Int} (h1: -128<=x) (a:x<128):o4.i8.wrap x=x:=by
 simp only[o4.wrap,o4.bits,o4.signed];simp;omega
theorem wrap_u64 {x:Int} (h1:0<=x) (a:x<18446744073709551616):U1.wrap x=x:=by
 simp only[o4.wrap,o4.bits,o4.signed];simp;omega
abbrev ints (k:o4) (l:Λ):List x1:=l.map (W8 k)
theorem pU (k:o4) (l:Λ):∀u∈ints k l,u.oneCell'=true:=by
 intro u hu;obtain⟨x,_,rfl⟩:=n9.1 hu;rfl
theorem kK {i:Nat} {x:Int} (h:l[i]? =σ x):(ints k l)[i]? =σ (.int k x):=by simp[ints,h]
theorem u1 {α:Type} {a b:List α} {i:Nat} {x y:α} (h:a.take i=b.take i) (e:a[i]? =σ x) (f:b[i]? =σ y) (j:x=y):a.take (i+1)=b.take (i+1):=by
 rw[u9,u9,h,e,f,j]
theorem dh {ay:x3->Prop} {B:(x3->Prop)->Prop} (G:x3->Prop) (h1:∀w,G w->ay w) (e:∀a:x3->Prop,(∀w,G w->a w)->B a):cu ay B:=e ay h1
theorem aV {ay:x1->x3->Prop} {B:(x1->x3->Prop)->Prop} (G:x1->x3->Prop) (h1:∀v w,G v w->ay v w)
  (e:∀a:x1->x3->Prop,(∀v w,G v w->a v w)->B a):cu ay B:=e ay h1
theorem ii {ay:x1->x1->x3->Prop} {B:(x1->x1->x3->Prop)->Prop} (G:x1->x1->x3->Prop) (h1:∀u v w,G u v w->ay u v w)
  (e:∀a:x1->x1->x3->Prop,(∀u v w,G u v w->a u v w)->B a):cu ay B:=e ay h1
theorem am.calls {P:W0} {f:R4} {K:x1->x3->Prop} (h:am P f args w K) (a:Enters P f):Calls P f args.toArray w λe w'=>∃v,e= .returned v/\cL w w'/\K v w':=by
 cases h with
 |code _ h=>exact h
 |ext v w' h1=>rw[a] at h1;cases h1
theorem zH (I:Ext w w') (a:cL w w'):Below w.heap.size w w':=
 ⟨a.os,a.tape.1,a.output,I.size,λk hk=>by
  have e:w.heap[k]? =σ w.heap[k]:=Array.getElem?_eq_getElem hk;rw[e];cases J:fm w.heap[k] with
  |true=>exact I.aZ k _ e J
  |false=>exact a.aZ k _ e J⟩
theorem u2 {x:Addr} (h:w.cell? x=σ v):x=⟨x.block,x.off,ν⟩:=by
 obtain⟨b,o,s⟩:=x;cases s with
 |none=>rfl
 |some s=>
  unfold x3.cell? at h;split at h<;>simp at h
theorem zI {a:Option Addr} {len cap:Nat} {e:Λ}
  (h:(a=ν/\len=0/\cap=0/\e=[])\/
   ∃x,a=σ x/\len<=cap/\cap<=maxLen/\e.length=cap/\(∀i,i<e.length->w.cell? (x.add i)=σ (.int k (e.getD i 0)))/\ ∀n∈e,(Lit.int k n).wf=true):
  ca w 1 (.slice a len cap) len (ints k (e.take len))/\ ∀n∈e.take len,k.min<=n/\n<=k.max:=by
 rcases h with⟨rfl,rfl,rfl,rfl⟩|⟨x,rfl,h1,p,q,f,r⟩
 .exact⟨ca.nil _ _,Ξ⟩
 .refine⟨⟨by simp[q,h1],x.block,x.off,σ x,cap,rfl,h1,p,λz=>?_,λj v ac=>?_⟩,λn s=>?_⟩
  .have:=f 0 Ω;exact congrArg σ (u2 this)
  .have y:=(x4.1 ac).1;rw[u7,l9] at y;have I:x=⟨x.block,x.off,ν⟩:=u2 (v:=.int k (e.getD 0 0)) (f 0 Ω);have m:=f j Ω;rw[I,T1] at m;rw[m,<-ac,ints,x8,Z7 Ω,v8,x6 Ω];rfl
  .have:=r n (S3 s);simpa[Lit.wf] using this
def aF (k:o4) (w:x3) (v:x1) (l:Λ):Prop:=ca w 1 v l.length (ints k l)
def au (k:o4) (e:r8) (w:x3) (g:Nat) (v:x1) (l:Λ):Prop:=bT w g e 1 v l.length (ints k l)
theorem aF.ext (h:aF k w v l) (I:Ext w w'):aF k w' v l:=ca.ext h I
theorem au.ext {g:Nat} (h:au k e w g v l) (I:Ext w w'):au k e w' g v l:=bT.ext h I
theorem au.ab {g:Nat} (h:au k e w g v l) (I:ah S w w') (a:g<w.heap.size->¬S g):au k e w' g v l:=bT.ab h I a
theorem au.ls {g:Nat} (h:au k e w g v l):aF k w v l:=bT.sl h
theorem aF.of (h:ca w 1 v n (ints k l)):aF k w v l:=by
 have:l.length=n:=by simpa using h.1
 unfold aF;rw[this];exact h
theorem au.of {g:Nat} (h:bT w g e 1 v n (ints k l)):au k e w g v l:=by
 have:l.length=n:=by simpa using h.1
 unfold au;rw[this];exact h
theorem aF.le (h:aF k w v l):l.length<=9223372036854775807:=by
 have:=ca.le h;simpa[maxLen] using this
theorem aF.cells (h:aF k w v l):v.cells= #[v]/\v.oneCell'=true:=by
 obtain⟨_,_,_,_,_,rfl,_⟩:=h;exact⟨rfl,rfl⟩
theorem au.nil (k:o4) (e:r8) (w:x3) (g:Nat):au k e w g (.slice ν 0 0) []:=bT.nil w g e 1
section
variable {P:W0} {w:x3}
theorem aU {a:r8} (f:P.underlying t=σ (.slice e)) (h:aF k w v l):
  aa P (W6 #[t] a #[v]) w K=K (Δ l.length):=by
 obtain⟨_,_,_,_,_,rfl,_⟩:=h;exact hE f
theorem be {a:o4} {b:Nat} {i:Nat} {x:Int} (f:P.underlying t=σ (.slice e)) (hi:aS P e 1 b z) (h1:jt P e=true)
  (h:aF k w v l) (I:l[i]? =σ x):aa P (j5 t v (.int a (i:Int))) w (λp=>aa P (u4 e p) w K)=K (.int k x):=by
 have j:=(x4.1 I).1;obtain⟨_,_,_,_,_,rfl,_,_,m,q⟩:=h;rw[e6 f hi j m,V8,aA h1 (q i _ (kK I))]
theorem fx {a:o4} {b:Nat} {i:Nat} {x:Int} (f:y=(i:Int)) (j:P.underlying t=σ (.slice e)) (hi:aS P e 1 b z) (h1:jt P e=true)
  (h:aF k w v l) (I:l[i]? =σ x):aa P (j5 t v (.int a y)) w (λp=>aa P (u4 e p) w K)=K (.int k x):=by
 subst f;exact be j hi h1 h I
theorem iT {p:r8} {b g:Nat} {x:x1} {m:Λ} {K:x1->x3->Prop} (j:P.underlying t=σ (.slice e)) (hi:aS P e 1 b z) (q:z.cells.size=1)
  (h:au k e w g v l) (I:aF k w x m) (s:(l.length+m.length)*b<=140737488355328) (y:l.length+m.length<=9223372036854775807)
  (A:∀f a w',(a=g\/w.heap.size<=a)->au k e w' a f (l++m)->ah (λr=>r=g) w w'->K f w'):aC P (b8 #[t,t] p #[v,x]) w K:=
 nk j j hi q h I (pU _ _) s (by simpa[maxLen] using y) λf a w' h1 B C=>A f a w' h1 (au.of (by rw[ints,b6];exact B)) C
theorem eo {b:Nat} {x:Int} {K:x1->x3->Prop} (j:P.underlying t=σ (.slice e)) (hi:aS P e 1 b z) (q:z.cells.size=1)
  (h:∀v g w',g=w.heap.size->Ext w w'->au k e w' g v [x]->K v w'):aC P (Y0 t 1 #[(0,.int k x)]) w K:=
 j1 j hi Ω (cs:=#[.int k x]) (by
   have J:∀ (a:Array x1),a.size=1->a.setIfInBounds 0 (.int k x)= #[.int k x]:=λa f=>by
    apply Array.ext
    .simp[f]
    .intro i h1 r;have:i=0:=by simp[f] at h1;exact h1
     subst this;simp
   simp only[Instr.fill,x1.cells,List.zipIdx];simp;exact J _ Ξ) λg w' m I p=>h _ g w' m I (au.of (n:=1) (bT.full p rfl (by simp[maxLen])))
theorem am.free {f:R4} {K:x1->x3->Prop} (h:am P f args w K):gB P f args w λv w'=>cL w w'/\K v w':=by
 cases h with
 |code h1 a=>exact .code h1 (a.mono λ_ w' ⟨v,h1,e,a⟩=>⟨v,h1,e,a⟩)
 |ext v w' h1 a j=>exact .ext v w' h1 ⟨a,j⟩
theorem bS {a:Addr}:aa P (bK (.pointer (σ a))) w K=K (.pointer (σ a)):=aa.of λ_ _=>by
 simp[bK,rf,execOp]
theorem aT {u:r8} {pl:List (Nat×Nat)} {b off z:Nat} {K:x1->x1->Prop} (a:bL P t pl) (i:Nat) (f:af w b e cs) (ac:cs[(pl[i]?.getD (0,0)).1]? =σ v) (ae:pl[i]? =σ (off,z+1):=by rfl) (h:jt P u=true:=by kernel_rfl):
  aa P (u5 t (Γ b) i) w (λx=>aa P (u4 u x) w (K x))=K (.pointer (σ ⟨b,0+off,ν⟩)) v:=by
 rw[ae] at ac;rw[aW a ae,aA h (f.cell (by rw[X0];exact ac))]
theorem aO {u:r8} {pl:List (Nat×Nat)} {b off z:Nat} {K:x1->x1->x1->Prop} (a:bL P t pl) (i:Nat) (f:af w b e cs) (ac:cs[(pl[i]?.getD (0,0)).1]? =σ v) (ae:pl[i]? =σ (off,z+1):=by rfl) (h:jt P u=true:=by kernel_rfl):
  aa P (bK (Γ b)) w (λy=>aa P (u5 t y i) w (λx=>aa P (u4 u x) w (K y x)))=K (Γ b) (.pointer (σ ⟨b,0+off,ν⟩)) v:=by
 rw[bS,aT a i f ac ae h]
theorem zJ {a f:o4} {k:Nat} {K:x1->x3->Prop} (p:P.underlying t=σ (.slice e)) (hi:aS P e k j z) (y:n*j<=281474976710656) (A:n<=9223372036854775807)
  (h:∀g w',g=w.heap.size->Ext w w'->af w' g e (dK z.cells (n*k))->K (.slice (σ ⟨g,0,ν⟩) n n) w'):aC P (Instr.makeSlice t (.int a (n:Int)) (.int f (n:Int))) w K:=by
 obtain⟨i,hi,rfl,rfl,q⟩:=hi;have r:(i.bytes:Int)*(n:Int)<=281474976710656:=by
  rw[Int.mul_comm];have h:((n*i.bytes:Nat):Int)<=281474976710656:=Ω
  rwa [Int.natCast_mul] at h
 have m:=run_make (P:=P) w t e i z p hi q a f n n Ω (T2 _) r Ω;have hm:madeCells z.cells ((n:Int).toNat*i.size)=(dK z.cells (n*i.size)).toArray:=by rw[dK,Array.toArray_toList];rfl
 rw[hm] at m;obtain⟨h1,s,x⟩:=rW w (dK z.cells (n*i.size)) e;exact .of m x (h _ _ rfl s h1)
theorem IM (v:x1) (n:Nat):dK #[v] n=r9 n v:=by
 apply List.ext_getElem
 .simp[dK]
 .intro i h1 a;simp[dK,Nat.mod_one]
theorem iU {f j:o4} {a:Nat} {K:x1->x3->Prop} (m:P.underlying t=σ (.slice e)) (hi:aS P e 1 a (.int k 0)) (p:n*a<=281474976710656) (q:n<=9223372036854775807)
  (h:∀g w',g=w.heap.size->Ext w w'->af w' g e (ints k (r9 n 0))->K (.slice (σ ⟨g,0,ν⟩) n n) w'):aC P (Instr.makeSlice t (.int f (n:Int)) (.int j (n:Int))) w K:=
 zJ m hi p q λg w' r I s=>h g w' r I (by
  have e:dK (W8 k 0).cells (n*1)=ints k (r9 n 0):=by rw[V8];show dK #[_] n=_;rw[IM];simp[ints]
  rw[<-e];exact s)
theorem fO {pl:List (Nat×Nat)} {b o k a:Nat} (hu:bL P t pl) (hi:aS P t k a z) (e:cs.length=k)
  (h:w.rangeAt b o cs):aa P (do loadVar t (<-asAddr (.pointer (σ ⟨b,o,ν⟩)))) w K=K (.agg cs.toArray):=aa.of λw' I=>by
 obtain⟨f,hu,_⟩:=hu;have:=run_loadVar_mid (P:=P) w' b o t cs (.struct f) (ne I h) hu rfl (by rw[hi.size,e]);simp only[asAddr,X8,W7,Result.andThen_ok,this]
theorem IN (h:vs.length=cs.length):over cs 0 vs=vs:=by
 rw[mg Ω];simp[h]
theorem ck {k f g:Nat} {K:Unit->x3->Prop} (hi:aS P t k f z) (j:vs.length=k) (q:cs.length=k) (ac:∀v∈vs,v.oneCell'=true) (m:af w g e cs)
  (h:∀w',ah (λr=>r=g) w w'->w'.heap.size=w.heap.size->af w' g e vs->K () w'):aC P (o6 t (Γ g) (.agg vs.toArray)) w K:=
 zE hi j ac m Ω λw' h1 p a=>h w' h1 p (by rw[IN Ω] at a;exact a)
end
section
variable {P:W0} {w w' V:x3} {t:r8} {cx cy:Bool} {k:o4} {a b:Int} {A B:Prop} {x y z:x1} {K:x1->Prop}
theorem bi:aa P (Z4 (.tuple #[x,y]) 0) w K=K x:=im rfl
theorem bj:aa P (Z4 (.tuple #[x,y]) 1) w K=K y:=im rfl
theorem fy:aa P (Z4 (.tuple #[x,y,z]) 0) w K=K x:=im rfl
theorem fz:aa P (Z4 (.tuple #[x,y,z]) 1) w K=K y:=im rfl
theorem fA:aa P (Z4 (.tuple #[x,y,z]) 2) w K=K z:=im rfl
theorem bE (h:a<b) (e:A):aa P (aJ .lss t cx cy (.int k a) (.int k b)) w λv=>Split v A B:=by
 rw[aN,al];exact⟨λ_=>e,λf=>absurd h f⟩
theorem cm (h:¬a<b) (e:B):aa P (aJ .lss t cx cy (.int k a) (.int k b)) w λv=>Split v A B:=by
 rw[aN,al];exact⟨λf=>absurd f h,λ_=>e⟩
theorem Ext.put {g:Nat} (I:Ext w w') (a:ah (λr=>r=g) w' V) (h:w.heap.size<=g):Ext w V:=I.then a λr e he=>by
 have he:r=g:=he;omega
theorem aH {α:Type} {l:List α} {i:Nat} (h:i<l.length):∃x,l[i]? =σ x:=⟨_,x6 h⟩
end
abbrev ak:=Nat->Prop
def j2 (S:ak) (w:x3) (k:Nat) (v:x1) (n:Nat) (cs:List x1):Prop:=
 cs.length=n*k/\ ∃b o base cap,v= .slice base n cap/\n<=cap/\cap<=maxLen/\(0<n->base=σ ⟨b,o,ν⟩)/\(0<cs.length->S b)/\w.rangeAt b o cs
theorem j2.sl {S:ak} {k:Nat} (h:j2 S w k v n cs):ca w k v n cs:=by
 obtain⟨h1,b,o,base,cap,a,e,f,j,_,m⟩:=h;exact⟨h1,b,o,base,cap,a,e,f,j,m⟩
theorem zK {b o:Nat} (h:w.rangeAt b o cs) (a:0<cs.length):b<w.heap.size:=by
 have:=h 0 cs[0] (x6 a);obtain⟨c,e,f,j,_⟩:=uY this;exact (o8.1 j).1
theorem j2.ab {S T:ak} {k:Nat} (h:j2 S w k v n cs) (I:ah T w w') (m:∀r,r<w.heap.size->S r->¬T r):j2 S w' k v n cs:=by
 obtain⟨h1,b,o,base,cap,p,q,s,x,e,f⟩:=h;refine⟨h1,b,o,base,cap,p,q,s,x,e,?_⟩;rcases Q0 cs.length with a|a
 .intro j v ac;have:=(x4.1 ac).1;omega
 .exact js I (m b (zK f a) (e a)) f
theorem j2.mono {S T:ak} {k:Nat} (h:j2 S w k v n cs) (f:∀r,r<w.heap.size->S r->T r):j2 T w k v n cs:=by
 obtain⟨h1,b,o,base,cap,j,m,p,q,s,a⟩:=h;exact⟨h1,b,o,base,cap,j,m,p,q,λe=>f b (zK a e) (s e),a⟩
class ao (α:Type) where
 n:Nat
 rep:Bool->ak->ak->x3->List x1->α->Prop
 len:∀ {m S R w cs a},rep m S R w cs a->cs.length=n
 one:∀ {m S R w cs a},rep m S R w cs a-> ∀u∈cs,u.oneCell'=true
 ab:∀ {m S R T w w' cs a},rep m S R w cs a->ah T w w'->(∀r,r<w.heap.size->S r\/R r->¬T r)->rep m S R w' cs a
 mono:∀ {m S S' R R' w cs a},rep m S R w cs a->(∀r,r<w.heap.size->S r->S' r)->(∀r,r<w.heap.size->R r->R' r)->rep m S' R' w cs a
 hB:∀ {m S R w cs a},rep m S R w cs a->rep false (λ_=>False) (λr=>S r\/R r) w cs a
section
variable {α β:Type} [ao α] [ao β] {m:Bool} {S R T:ak} {w w':x3}
abbrev bC (S R:ak) (w:x3) (cs:List x1) (a:α):Prop:=ao.rep true S R w cs a
abbrev Seen (R:ak) (w:x3) (cs:List x1) (a:α):Prop:=ao.rep false (λ_=>False) R w cs a
abbrev eX:ak:=λ_=>True
theorem bW {a:α} (h:ao.rep m S R w cs a) (I:Ext w w'):ao.rep m S R w' cs a:=ao.ab h (I.ab λ_=>False) λ_ _ _ h=>h
theorem lI {a:α} (h:ao.rep m S R w cs a):ao.rep m (λr=>S r/\r<w.heap.size) R w cs a:=ao.mono h (λ_ h1 e=>⟨e,h1⟩) λ_ _ h=>h
theorem iV {a:α} (h:ao.rep m S R w cs a):Seen eX w cs a:=ao.mono (ao.hB h) (λ_ _ h=>h.elim) λ_ _ _=>trivial
theorem pV {a:α} {Q:ak} (h:ao.rep m S R w cs a) (e:∀r,r<w.heap.size->S r\/R r->Q r):Seen Q w cs a:=ao.mono (ao.hB h) (λ_ _ h=>h.elim) e
instance:ao Int where
 n:=1
 rep _ _ _ _ cs a:=cs=[Δ a]
 len h:=by subst h;rfl
 one h:=by subst h;intro u hu;simp at hu;subst hu;rfl
 ab h _ _:=h
 mono h _ _:=h
 hB h:=h
instance:ao Bool where
 n:=1
 rep _ _ _ _ cs a:=cs=[.bool a]
 len h:=by subst h;rfl
 one h:=by subst h;intro u hu;simp at hu;subst hu;rfl
 ab h _ _:=h
 mono h _ _:=h
 hB h:=h
instance:ao ByteArray where
 n:=1
 rep _ _ _ _ cs a:=cs=[.string a]
 len h:=by subst h;rfl
 one h:=by subst h;intro u hu;simp at hu;subst hu;rfl
 ab h _ _:=h
 mono h _ _:=h
 hB h:=h
def iW (_:o4):Type:=Int
instance (k:o4):ao (iW k) where
 n:=1
 rep _ _ _ _ cs a:=cs=[.int k a]
 len h:=by subst h;rfl
 one h:=by subst h;intro u hu;simp at hu;subst hu;rfl
 ab h _ _:=h
 mono h _ _:=h
 hB h:=h
def Rd (α:Type):Type:=α
instance QY:ao (Rd α) where
 n:=ao.n α
 rep _ _ R w cs a:=ao.rep (α:=α) false (λ_=>False) R w cs a
 len h:=ao.len (α:=α) h
 one h:=ao.one (α:=α) h
 ab h I e:=ao.ab (α:=α) h I λr f h=>e r f (.inr (h.elim False.elim id))
 mono h _ j:=ao.mono (α:=α) h (λ_ _ h=>h) j
 hB h:=ao.mono (α:=α) h (λ_ _ h=>h) λ_ _ h=>.inr h
instance QZ:ao (α×β) where
 n:=ao.n α+ao.n β
 rep m S R w cs a:=∃c d A B,cs=c++d/\(∀r,A r->S r)/\(∀r,B r->S r)/\(m=true-> ∀r,A r->¬B r)/\ao.rep m A R w c a.1/\ao.rep m B R w d a.2
 len:=by
  rintro m S R w cs a ⟨c,d,A,B,rfl,_,_,_,h1,e⟩;simp[ao.len h1,ao.len e]
 one:=by
  rintro m S R w cs a ⟨c,d,A,B,rfl,_,_,_,h1,e⟩ u hu;rcases o7.1 hu with hu|hu
  .exact ao.one h1 u hu
  .exact ao.one e u hu
 ab:=by
  rintro m S R T w w' cs a ⟨c,d,A,B,rfl,j,p,s,h1,e⟩ I q;exact⟨c,d,A,B,rfl,j,p,s,ao.ab h1 I λr f h=>q r f (h.imp (j r) id),ao.ab e I λr f h=>q r f (h.imp (p r) id)⟩
 mono:=by
  rintro m S S' R R' w cs a ⟨c,d,A,B,rfl,j,p,s,h1,e⟩ q x;exact⟨c,d,λr=>A r/\r<w.heap.size,λr=>B r/\r<w.heap.size,rfl,λr h=>q r h.2 (j r h.1),λr h=>q r h.2 (p r h.1),λhm r h k=>s hm r h.1 k.1,
   ao.mono h1 (λr f h=>⟨h,f⟩) x,ao.mono e (λr f h=>⟨h,f⟩) x⟩
 hB:=by
  rintro m S R w cs a ⟨c,d,A,B,rfl,j,p,s,h1,e⟩;exact⟨c,d,λ_=>False,λ_=>False,rfl,λ_ h=>h.elim,λ_ h=>h.elim,(λh=>by cases h),ao.mono (ao.hB h1) (λ_ _ h=>h) λr _ h=>h.imp (j r) id,
   ao.mono (ao.hB e) (λ_ _ h=>h) λr _ h=>h.imp (p r) id⟩
def mh (m:Bool) (R:ak) (F:Nat->ak) (w:x3) (vs:List (List x1)) (l:List α):Prop:=
 vs.length=l.length/\ ∀ (i:Nat) (c:List x1) (a:α),vs[i]? =σ c->l[i]? =σ a->ao.rep m (F i) R w c a
structure zL (m:Bool) (S:ak) (g:Nat) (F:Nat->ak):Prop where
 sub:∀i r,F i r->S r
 top:m=true-> ∀i,¬F i g
 gF:m=true-> ∀i j r,i≠j->F i r->¬F j r
theorem mh.len {F:Nat->ak} {vs:List (List x1)} {l:List α} (h:mh m R F w vs l):∀c∈vs,c.length=ao.n α:=by
 intro c a;obtain⟨i,hi,rfl⟩:=List.mem_iff_getElem.1 a;exact ao.len (h.2 i _ _ (x6 hi) (x6 (h.1▸hi)))
theorem mh.one {F:Nat->ak} {vs:List (List x1)} {l:List α} (h:mh m R F w vs l):∀u∈vs.flatten,u.oneCell'=true:=by
 intro u hu;obtain⟨c,a,hu⟩:=List.mem_flatten.1 hu;obtain⟨i,hi,rfl⟩:=List.mem_iff_getElem.1 a;exact ao.one (h.2 i _ _ (x6 hi) (x6 (h.1▸hi))) u hu
theorem pW {k:Nat}:∀ {vs:List (List x1)},(∀c∈vs,c.length=k)->vs.flatten.length=vs.length*k
 |[],_=>Ξ
 |c::r,h=>by
  have:=pW (vs:=r) λx I=>h x (.tail _ I);simp only[List.flatten_cons,p9,this,h c (.head _),c7,V9];omega
theorem nn {k:Nat}:∀ {vs:List (List x1)},(∀c∈vs,c.length=k)-> ∀ {i j:Nat} {c:List x1},vs[i]? =σ c->j<k->vs.flatten[i*k+j]? =c[j]?
 |gR::r,h,0,j,c,a,e=>by
  simp only[List.getElem?_cons_zero,Y8] at a;subst a;rw[List.flatten_cons,Y1 (by rw[h _ (.head _)];omega)];simp
 |gR::r,h,i+1,j,c,a,e=>by
  simp only[List.getElem?_cons_succ] at a;have f:=h gR (.head _);rw[List.flatten_cons,Y4 (by rw[f,V9];omega),f,V9,show i*k+1*k+j-k=i*k+j by omega];exact nn (λx I=>h x (.tail _ I)) a e
 |[],_,i,_,c,a,_=>by simp at a
instance instList:ao (List α) where
 n:=1
 rep m S R w cs l:=∃v,cs=[v]/\ ∃ (vs:List (List x1)) (g:Nat) (F:Nat->ak),zL m S g F/\mh m R F w vs l/\j2 (λr=>S r\/R r) w (ao.n α) v l.length vs.flatten/\
  (m=true->(v= .slice ν 0 0\/S g)/\ ∃e,bT w g e (ao.n α) v l.length vs.flatten)
 len:=by rintro m S R w cs a ⟨v,rfl,_⟩;rfl
 one:=by
  rintro m S R w cs a ⟨v,rfl,vs,g,F,_,_,⟨_,_,_,_,_,rfl,_⟩,_⟩ u hu;simp at hu;subst hu;rfl
 ab:=by
  rintro m S R T w w' cs a ⟨v,rfl,vs,g,F,p,he,J,hm⟩ I s;refine⟨v,rfl,vs,g,F,p,⟨he.1,λi c a y z=>ao.ab (he.2 i c a y z) I λr q h=>s r q (h.imp (p.sub i r) id)⟩,J.ab I s,λh=>?_⟩;obtain⟨h1,e,f⟩:=hm h;refine⟨h1,e,?_⟩;rcases h1 with rfl|h1
  .obtain⟨B,⟨_,x⟩|⟨_,_,x,_⟩⟩:=f
   .exact⟨B,.inl ⟨rfl,x⟩⟩
   .cases x
  .exact f.ab I λq=>s g q (.inl h1)
 mono:=by
  rintro m S S' R R' w cs a ⟨v,rfl,vs,g,F,p,he,J,hm⟩ s A;refine⟨v,rfl,vs,g,λi r=>F i r/\r<w.heap.size,⟨λi r h=>s r h.2 (p.sub i r h.1),λh i f=>p.top h i f.1,λh i j r C h1 f=>p.gF h i j r C h1.1 f.1⟩,
   ⟨he.1,λi c a y z=>ao.mono (he.2 i c a y z) (λr q h=>⟨h,q⟩) A⟩,J.mono λr q h=>h.imp (s r q) (A r q),λh=>?_⟩
  obtain⟨h1,e,f⟩:=hm h;refine⟨?_,e,f⟩;obtain⟨_,⟨x,_⟩|⟨_,_,x,E,_⟩⟩:=f
  .exact .inl x
  .rcases h1 with h1|h1
   .exact .inl h1
   .exact .inr (s g E.lt h1)
 hB:=by
  rintro m S R w cs a ⟨v,rfl,vs,g,F,p,he,J,hm⟩;exact⟨v,rfl,vs,g,λ_ _=>False,⟨λ_ _ h=>h,(λh=>by cases h),λh=>by cases h⟩,
   ⟨he.1,λi c a y z=>ao.mono (ao.hB (he.2 i c a y z)) (λ_ _ h=>h) λr _ h=>h.imp (p.sub i r) id⟩,J.mono λr _ h=>.inr h,λh=>by cases h⟩
end
section
variable {P:W0} {w:x3} {α β:Type} [ao α] [ao β] {m:Bool} {S R:ak}
theorem iX {l:List α} (h:ao.rep m S R w [v] l):∃ (vs:List (List x1)) (g:Nat) (F:Nat->ak),zL m S g F/\mh m R F w vs l/\j2 (λr=>S r\/R r) w (ao.n α) v l.length vs.flatten/\
  (m=true->(v= .slice ν 0 0\/S g)/\ ∃e,bT w g e (ao.n α) v l.length vs.flatten):=by
 obtain⟨_,a,h⟩:=h;cases a;exact h
theorem iY {a:α} (h:ao.rep m S R w [v] a):v.oneCell'=true:=ao.one h v (.head _)
theorem oC {l:List α} (h:ao.rep m S R w [v] l):v.cells= #[v]:=by
 obtain⟨_,_,_,_,_,⟨_,_,_,_,_,rfl,_⟩,_⟩:=iX h;rfl
theorem rX {l:List α} (h:ao.rep m S R w [v] l):l.length<=9223372036854775807:=by
 obtain⟨_,_,_,_,_,h,_⟩:=iX h;have:=h.sl.le;simpa[maxLen] using this
theorem gS:ao.rep m S R w [.slice ν 0 0] ([]:List α):=
 ⟨_,rfl,[],0,λ_ _=>False,⟨λ_ _ h=>h.elim,λ_ _ h=>h,λ_ _ _ _ _ h=>h.elim⟩,⟨rfl,λi c a e=>by simp at e⟩,
  ⟨Ξ,0,0,ν,0,rfl,p8 _,X3 _,λh=>absurd h (Nat.lt_irrefl _),λh=>by simp at h,λj v h=>by simp at h⟩,
  λ_=>⟨.inl rfl,0,bT.nil w 0 0 _⟩⟩
theorem zM {F:Nat->ak} {vs:List (List x1)} (h:mh m R F w vs l):vs.flatten=ints .i64 l:=by
 have:vs=l.map λx=>[W8 .i64 x]:=by
  apply List.ext_getElem
  .simp[h.1]
  .intro i h1 a;have e:i<l.length:=by simpa using a
   have:=h.2 i _ _ (x6 h1) (x6 e);rw[List.getElem_map];exact this
 subst this;clear h;induction l with
 |nil=>rfl
 |cons x l f=>simp only[U6,List.flatten_cons,f];rfl
theorem eE (h:ao.rep m S R w [v] l):aF .i64 w v l:=by
 obtain⟨vs,g,F,_,he,J,_⟩:=iX h;have:=J.sl;rw[zM he] at this;exact this
theorem io {a:r8} {l:List α} (f:P.underlying t=σ (.slice e)) (h:ao.rep m S R w [v] l):
  aa P (W6 #[t] a #[v]) w K=K (Δ l.length):=by
 obtain⟨_,_,_,_,_,⟨_,_,_,_,_,rfl,_⟩,_⟩:=iX h;exact hE f
theorem lJ {x:o4} {i b:Nat} {l:List α} {a:α} (A:y=(i:Int)) (B:P.underlying t=σ (.slice e)) (hi:aS P e (ao.n α) b z)
  (h:ao.rep m S R w [v] l) (f:l[i]? =σ a) (C:∀b o cs,w.rangeAt b o cs->ao.rep m S R w cs a->K (.pointer (σ ⟨b,o,ν⟩))):aa P (j5 t v (.int x y)) w K:=by
 subst A;obtain⟨vs,g,F,E,he,⟨_,b,o,base,cap,rfl,_,_,G,_,H⟩,_⟩:=iX h;have p:=(x4.1 f).1;rw[e6 B hi p G];obtain⟨c,q⟩:∃c,vs[i]? =σ c:=⟨_,x6 (by rw[he.1];exact p)⟩;have s:=he.2 i c a q f;have I:=ao.len s;refine C _ _ c (λj u hu=>?_) (ao.mono s (λr _ h=>E.sub i r h) λ_ _ h=>h);have J:=(x4.1 hu).1;rw[S9];refine H (i*ao.n α+j) u ?_;rw[nn he.len q Ω];exact hu
theorem kL {q:o4} {i b:Nat} {l:List α} {a:α} (r:ao.n α=1) (s:y=(i:Int)) (x:P.underlying t=σ (.slice e)) (hi:aS P e (ao.n α) b z)
  (h1:jt P e=true) (h:ao.rep m S R w [v] l) (A:l[i]? =σ a) (B:∀u,ao.rep m S R w [u] a->K u):
  aa P (j5 t v (.int q y)) w λp=>aa P (u4 e p) w K:=by
 refine lJ s x hi h A λb o cs C f=>?_;have j:=ao.len f;rw[r] at j;obtain⟨u,rfl⟩:=W3.1 j;rw[aA h1 (by have:=C 0 u rfl;simpa using this)];exact B u f
theorem np {pl:List (Nat×Nat)} {j:o4} {i b:Nat} {l:List α} {a:α} (hu:bL P e pl) (q:y=(i:Int)) (r:P.underlying t=σ (.slice e)) (hi:aS P e (ao.n α) b z)
  (h:ao.rep m S R w [v] l) (s:l[i]? =σ a) (x:∀cs,ao.rep m S R w cs a->K (.agg cs.toArray)):
  aa P (j5 t v (.int j y)) w λp=>aa P (u4 e p) w K:=by
 refine lJ q r hi h s λb o cs A f=>?_;rw[bO hu hi (ao.len f) A];exact x cs f
theorem oD {g:Nat} {k:Nat} (h:bT w g e k v n xs) (a:v= .slice ν 0 0\/S g):j2 S w k v n xs:=by
 obtain⟨h1,⟨rfl,rfl⟩|⟨cap,cs,rfl,f,m,p,r,q⟩⟩:=h
 .have:xs=[]:=c8 (by simpa using h1);subst this;exact⟨Ξ,0,0,ν,0,rfl,p8 _,X3 _,λh=>absurd h (Nat.lt_irrefl _),λh=>by simp at h,λj v h=>by simp at h⟩
 .refine⟨h1,g,0,_,cap,rfl,m,p,λ_=>rfl,λ_=>a.resolve_left Ξ,λj v ac=>?_⟩;rw[X0];have s:=(x4.1 ac).1;rw[<-q,Z7 Ω] at ac;exact f.cell ac
open Classical in
theorem IP {T W X:r8} {b:Nat} {x:x1} {us:List (List x1)} {l l':List α} {G:Nat->ak} {K:x1->x3->Prop} (Y:P.underlying t=σ (.slice e)) (Z:P.underlying T=σ (.slice W)) (hi:aS P e (ao.n α) b z) (aa:z.cells.size=ao.n α)
  (h:bC S R w [v] l) (I:ca w (ao.n α) x l'.length us.flatten) (H:mh true R G w us l') (ad:∀i j r,i≠j->G i r->¬G j r)
  (B:∀r,r<w.heap.size->S r->(∀i,¬G i r)/\¬R r) (ae:(l.length+l'.length)*b<=140737488355328) (af:l.length+l'.length<=9223372036854775807)
  (ag:∀m w',bC (λr=>S r\/(∃i,G i r)\/w.heap.size<=r) R w' [m] (l++l')->ah S w w'->K m w'):aC P (b8 #[t,T] X #[v,x]) w K:=by
 obtain⟨vs,g,F,s,he,J,hm⟩:=iX h;obtain⟨L,an,U⟩:=hm rfl;refine zF Y Z hi aa U I H.one ae (by simpa[maxLen] using af) ?_;intro m C w' ai aj M N;have O:∀r,r=g/\v≠ .slice ν 0 0->S r:=λr ⟨h1,f⟩=>h1▸L.resolve_left f;have al:=U;have Q:(m= .slice ν 0 0)\/(C=g/\S g/\g<w.heap.size)\/C=w.heap.size:=by
  rcases aj with⟨h1,_,f|f⟩|⟨h1,_⟩
  .rcases L with p|p
   .exact .inl (f▸p)
   .obtain⟨_,⟨q,_⟩|⟨_,_,_,q,_⟩⟩:=al
    .exact .inl (f▸q)
    .exact .inr (.inl ⟨h1,p,q.lt⟩)
  .exact .inr (.inl ⟨h1,L.resolve_left f.2,f.1⟩)
  .exact .inr (.inr h1)
 refine ag m w' ⟨m,rfl,vs++us,if m= .slice ν 0 0 then w.heap.size else C,λi r=>if i<l.length then F i r/\r<w.heap.size else G (i-l.length) r/\r<w.heap.size,⟨λi r h=>?_,λ_ i h=>?_,λ_ i j r am h1 f=>?_⟩,⟨by simp[he.1,H.1],λi c a hi E=>?_⟩,?_,λ_=>⟨?_,ai,?_⟩⟩ (N.mono λr _ h=>O r h)
 .split at h
  .exact .inl (s.sub i r h.1)
  .exact .inr (.inl ⟨_,h.1⟩)
 .have y:(if m= .slice ν 0 0 then w.heap.size else C)<w.heap.size:=by split at h<;>exact h.2
  split at y
  .omega
  .rename_i ac;rw[if_neg ac] at h;rcases Q with h1|⟨rfl,f,p⟩|h1
   .exact ac h1
   .split at h
    .exact s.top rfl i h.1
    .exact (B _ p f).1 _ h.1
   .omega
 .split at h1<;>split at f
  .exact s.gF rfl i j r am h1.1 f.1
  .exact (B r h1.2 (s.sub i r h1.1)).1 _ f.1
  .exact (B r h1.2 (s.sub j r f.1)).1 _ h1.1
  .exact ad (i-l.length) (j-l.length) r Ω h1.1 f.1
 .have V:∀r,r<w.heap.size->R r->¬(r=g/\v≠ .slice ν 0 0):=λr A h1 f=>(B r A (O r f)).2 h1;by_cases y:i<l.length
  .rw[Y1 (by rw[he.1];exact y)] at hi;rw[Y1 y] at E;simp only[if_pos y];refine ao.ab (lI (he.2 i c a hi E)) N λr A h1 f=>?_;rcases h1 with h1|h1
   .exact s.top rfl i (f.1▸h1.1)
   .exact V r A h1 f
  .rw[Y4 (by rw[he.1];omega),he.1] at hi;rw[Y4 Ω] at E;simp only[if_neg y];refine ao.ab (lI (H.2 _ c a hi E)) N λr A h1 f=>?_;rcases h1 with h1|h1
   .exact (B r A (O r f)).1 _ h1.1
   .exact V r A h1 f
 .rw[p9,List.flatten_append];refine oD M ?_;rcases Q with h1|⟨rfl,f,_⟩|rfl
  .exact .inl h1
  .exact .inr (.inl (.inl f))
  .exact .inr (.inl (.inr (.inr (p8 _))))
 .rcases Q with h1|⟨rfl,f,_⟩|rfl
  .exact .inl h1
  .by_cases ac:m= .slice ν 0 0
   .exact .inl ac
   .rw[if_neg ac];exact .inr (.inl f)
  .split
   .exact .inr (.inr (.inr (p8 _)))
   .exact .inr (.inr (.inr (p8 _)))
 .rw[p9,List.flatten_append];by_cases ac:m= .slice ν 0 0
  .subst ac;obtain⟨p,⟨_,q⟩|⟨_,_,q,_⟩⟩:=M
   .exact⟨p,.inl ⟨rfl,q⟩⟩
   .cases q
  .rw[if_neg ac];exact M
theorem mi {E:r8} {b:Nat} {x:x1} {l:List α} {a:α} {A:ak} {K:x1->x3->Prop} (y:P.underlying t=σ (.slice e)) (hi:aS P e (ao.n α) b z) (F:z.cells.size=ao.n α)
  (h:bC S R w [v] l) (I:ca w (ao.n α) x 1 cs) (H:bC A R w cs a) (B:∀r,r<w.heap.size->S r->¬(A r\/R r)) (f:(l.length+1)*b<=140737488355328) (L:l.length+1<=9223372036854775807)
  (M:∀m w',bC (λr=>S r\/A r\/w.heap.size<=r) R w' [m] (l++[a])->ah S w w'->K m w'):aC P (b8 #[t,t] E #[v,x]) w K:=by
 refine IP (l':=[a]) (us:=[cs]) (G:=λi r=>i=0/\A r) y y hi F h (by simpa using I) ⟨rfl,λi c b p f=>?_⟩ (λi j r N h1 q=>N (h1.1.trans q.1.symm)) (λr C J=>⟨λi h=>B r C J (.inl h.2),λh=>B r C J (.inr h)⟩) (by simpa using f) (by simpa using L)
  λm w' h1 q=>M m w' (ao.mono h1 (λr _ h=>h.imp id (Or.imp (λ⟨_,h⟩=>h.2) id)) λ_ _ h=>h) q
 have s:=(x4.1 p).1;have s:i=0:=by simpa using s
 subst s;simp at p f;subst p f;exact ao.mono H (λr _ h=>⟨rfl,h⟩) λ_ _ h=>h
end
theorem zN:∀ (c:List x1) (i:Nat) (z:Array x1),(i+c.length<=z.size)->((c.zipIdx i).foldl (λcs (x:x1×Nat)=>cs.setIfInBounds x.2 x.1) z).toList=z.toList.take i++c++z.toList.drop (i+c.length)
 |[],i,z,h=>Ξ
 |x::r,i,z,h=>by
  simp only[c7] at h;rw[List.zipIdx_cons,U7,zN r (i+1) _ Θ];simp only[Array.toList_setIfInBounds,c7];rw[List.drop_set_of_lt Ω,List.take_set,u9,x6 Θ];simp only[l7];rw[T3 _ _ Θ];have e:i-(z.toList.take i).length=0:=Θ
  rw[e,show i+1+r.length=i+(r.length+1) by omega];simp
theorem zO {k:Nat} {z:Array x1} (a:z.size=k) (ac:v.cells.size=k):Instr.fill (λj=>σ (j*k,k)) z [(0,v)]=σ v.cells:=by
 have h:=zN v.cells.toList 0 z Θ;simp only[Instr.fill,Nat.zero_mul,X0];rw[if_neg Θ];congr 1;apply Array.toList_inj.1;rw[<-Array.foldl_toList,Array.toList_zipIdx,h];simp;omega
section
variable {P:W0} {w:x3} {α β:Type} [ao α] [ao β] {m:Bool} {S R:ak}
theorem jw {b:Nat} {x:x1} {a:α} {A:ak} {K:x1->x3->Prop} (y:P.underlying t=σ (.slice e)) (hi:aS P e (ao.n α) b z) (J:ao.n α<=100000)
  (I:x.cells=cs.toArray) (p:bC A R w cs a)
  (B:∀v w',Ext w w'->bC (λr=>A r\/w.heap.size<=r) R w' [v] [a]->ca w' (ao.n α) v 1 cs->K v w'):aC P (Y0 t 1 #[(0,x)]) w K:=by
 have C:=ao.len p;refine j1 y hi Ω (cs:=x.cells) (zO Ξ (by rw[I];simpa using C)) λg w' L q f=>?_;have f:af w' g e cs:=by rw[I] at f;simpa using f
 have hm:bT w' g e (ao.n α) (.slice (σ ⟨g,0,ν⟩) 1 1) 1 cs:=bT.full f Ω (by simp[maxLen]);refine B _ w' q ⟨_,rfl,[cs],g,λi r=>i=0/\A r/\r<w.heap.size,⟨λi r h=>.inl h.2.1,λ_ i h=>Ω,λ_ i j r E h1 F=>E (h1.1.trans F.1.symm)⟩,⟨rfl,λi c a' m s=>?_⟩,?_,λ_=>⟨.inr (.inr Ω),e,by simpa using hm⟩⟩ hm.sl
 .have G:i=0:=by simpa using (x4.1 m).1
  subst G;simp at m s;subst m s;exact bW (ao.mono p (λr H h=>⟨rfl,h,H⟩) λ_ _ h=>h) q
 .have:=oD (S:=λr=>(A r\/w.heap.size<=r)\/R r) hm (.inr (.inl (.inr Ω)));simpa using this
end
theorem ch.range {B:x1->x3->(x1->x3->Prop)->Prop} (n:Nat) (a:Nat->x3->Prop)
  (p:n<=9223372036854775807) (f:a 0 w)
  (j:∀ (i:Nat) (w:x3) (k:x1->x3->Prop),i<n->a i w->(∀w',a (i+1) w'->k (Δ (X2.wrap ((i:Int)+1))) w')->B (Δ (i:Int)) w k)
  (m:∀ (w:x3) (k:x1->x3->Prop),a n w->B (Δ (n:Int)) w k):ch (Δ 0) w B:=by
 refine⟨λt w=>∃i:Nat,t=Δ (i:Int)/\i<=n/\a i w,λt _=>n-(bU t).toNat,⟨0,rfl,X3 _,f⟩,?_⟩;rintro _ w ⟨i,rfl,hi,h⟩;by_cases e:i<n
 .refine j i w _ e h λw' h'=>⟨⟨i+1,?_,e,h'⟩,?_⟩
  .rw[wrap_i64 Ω Ω];rfl
  .rw[wrap_i64 Ω Ω];simp only[bU];omega
 .have:i=n:=Ω
  subst this;exact m w _ h
theorem bX.range {a:x1} {B:x1->x1->x3->(x1->x1->x3->Prop)->Prop} (n:Nat) (e:Nat->x1->x3->Prop)
  (q:n<=9223372036854775807) (j:e 0 a w)
  (m:∀ (i:Nat) (a:x1) (w:x3) (k:x1->x1->x3->Prop),i<n->e i a w->(∀a' w',e (i+1) a' w'->k a' (Δ (X2.wrap ((i:Int)+1))) w')->B a (Δ (i:Int)) w k)
  (p:∀ (a:x1) (w:x3) (k:x1->x1->x3->Prop),e n a w->B a (Δ (n:Int)) w k):bX a (Δ 0) w B:=by
 refine⟨λa t w=>∃i:Nat,t=Δ (i:Int)/\i<=n/\e i a w,λa t _=>n-(bU t).toNat,⟨0,rfl,X3 _,j⟩,?_⟩;rintro a _ w ⟨i,rfl,hi,h⟩;by_cases f:i<n
 .refine m i a w _ f h λa' w' h'=>⟨⟨i+1,?_,f,h'⟩,?_⟩
  .rw[wrap_i64 Ω Ω];rfl
  .rw[wrap_i64 Ω Ω];simp only[bU];omega
 .have:i=n:=Ω
  subst this;exact p a w _ h
theorem l8.range {a b:x1} {B:x1->x1->x1->x3->(x1->x1->x1->x3->Prop)->Prop} (n:Nat) (e:Nat->x1->x1->x3->Prop)
  (r:n<=9223372036854775807) (m:e 0 a b w)
  (p:∀ (i:Nat) (a b:x1) (w:x3) (k:x1->x1->x1->x3->Prop),i<n->e i a b w->(∀a' f w',e (i+1) a' f w'->k a' f (Δ (X2.wrap ((i:Int)+1))) w')->B a b (Δ (i:Int)) w k)
  (q:∀ (a b:x1) (w:x3) (k:x1->x1->x1->x3->Prop),e n a b w->B a b (Δ (n:Int)) w k):l8 a b (Δ 0) w B:=by
 refine⟨λa b t w=>∃i:Nat,t=Δ (i:Int)/\i<=n/\e i a b w,λa b t _=>n-(bU t).toNat,⟨0,rfl,X3 _,m⟩,?_⟩;rintro a b _ w ⟨i,rfl,hi,h⟩;by_cases j:i<n
 .refine p i a b w _ j h λa' f w' h'=>⟨⟨i+1,?_,j,h'⟩,?_⟩
  .rw[wrap_i64 Ω Ω];rfl
  .rw[wrap_i64 Ω Ω];simp only[bU];omega
 .have:i=n:=Ω
  subst this;exact q a b w _ h
theorem rq.range {a b c:x1} {B:x1->x1->x1->x1->x3->(x1->x1->x1->x1->x3->Prop)->Prop} (n:Nat) (e:Nat->x1->x1->x1->x3->Prop)
  (s:n<=9223372036854775807) (p:e 0 a b c w)
  (q:∀ (i:Nat) (a b c:x1) (w:x3) (k:x1->x1->x1->x1->x3->Prop),i<n->e i a b c w->(∀a' f j w',e (i+1) a' f j w'->k a' f j (Δ (X2.wrap ((i:Int)+1))) w')->B a b c (Δ (i:Int)) w k)
  (r:∀ (a b c:x1) (w:x3) (k:x1->x1->x1->x1->x3->Prop),e n a b c w->B a b c (Δ (n:Int)) w k):rq a b c (Δ 0) w B:=by
 refine⟨λa b c t w=>∃i:Nat,t=Δ (i:Int)/\i<=n/\e i a b c w,λa b c t _=>n-(bU t).toNat,⟨0,rfl,X3 _,p⟩,?_⟩;rintro a b c _ w ⟨i,rfl,hi,h⟩;by_cases m:i<n
 .refine q i a b c w _ m h λa' f j w' h'=>⟨⟨i+1,?_,m,h'⟩,?_⟩
  .rw[wrap_i64 Ω Ω];rfl
  .rw[wrap_i64 Ω Ω];simp only[bU];omega
 .have:i=n:=Ω
  subst this;exact r a b c w _ h
theorem oh.range {a b c d:x1} {B:x1->x1->x1->x1->x1->x3->(x1->x1->x1->x1->x1->x3->Prop)->Prop} (n:Nat) (e:Nat->x1->x1->x1->x1->x3->Prop)
  (x:n<=9223372036854775807) (q:e 0 a b c d w)
  (r:∀ (i:Nat) (a b c d:x1) (w:x3) (k:x1->x1->x1->x1->x1->x3->Prop),i<n->e i a b c d w->(∀a' f j m w',e (i+1) a' f j m w'->k a' f j m (Δ (X2.wrap ((i:Int)+1))) w')->B a b c d (Δ (i:Int)) w k)
  (s:∀ (a b c d:x1) (w:x3) (k:x1->x1->x1->x1->x1->x3->Prop),e n a b c d w->B a b c d (Δ (n:Int)) w k):oh a b c d (Δ 0) w B:=by
 refine⟨λa b c d t w=>∃i:Nat,t=Δ (i:Int)/\i<=n/\e i a b c d w,λa b c d t _=>n-(bU t).toNat,⟨0,rfl,X3 _,q⟩,?_⟩;rintro a b c d _ w ⟨i,rfl,hi,h⟩;by_cases p:i<n
 .refine r i a b c d w _ p h λa' f j m w' h'=>⟨⟨i+1,?_,p,h'⟩,?_⟩
  .rw[wrap_i64 Ω Ω];rfl
  .rw[wrap_i64 Ω Ω];simp only[bU];omega
 .have:i=n:=Ω
  subst this;exact s a b c d w _ h
section
variable {P:W0} {w:x3} {m:Bool} {S R:ak}
theorem IQ (l:Λ):(l.map λx=>[W8 k x]).flatten=ints k l:=by
 induction l with
 |nil=>rfl
 |cons x l a=>simp only[U6,List.flatten_cons,a];rfl
theorem kM {g:Nat} (h:au .i64 e w g v l):bC (λr=>r=g) R w [v] l:=by
 have ae:(l.map λx=>[W8 .i64 x]).flatten=ints .i64 l:=IQ l;refine⟨v,rfl,l.map λx=>[Δ x],g,λ_ _=>False,⟨λ_ _ h=>h.elim,λ_ _ h=>h,λ_ _ _ _ _ h=>h.elim⟩,⟨Ξ,λi c a f j=>?_⟩,?_,λ_=>⟨.inr rfl,e,?_⟩⟩
 .rw[x8,j] at f;simp at f;exact f.symm
 .rw[ae];exact oD h (.inr (.inl rfl))
 .rw[ae];exact h
def iW.val (x:iW k):Int:=x
theorem zP (h:bC S R w [v] l):∃g e,au .i64 e w g v l/\(v= .slice ν 0 0\/S g):=by
 obtain⟨vs,g,F,_,he,J,hm⟩:=iX h;obtain⟨h1,e,a⟩:=hm rfl;rw[zM he] at a;exact⟨g,e,a,h1⟩
end
end Go.Vc
namespace Go.Proofs.YtmgflbkdggdhoaaGreatDoor
open Go Go.Vc Go.RowKit Go.Proofs Go.Proofs.Tryz
set_option maxRecDepth 100000
def right (k:Int):Prop:=1<=k/\k<=2147483648
def cn (a k:Int):Prop:=right k/\0<=a/\a<=k
instance (k:Int):Decidable (right k):=by unfold right;infer_instance
instance (a k:Int):Decidable (cn a k):=by unfold cn;infer_instance
theorem zQ {k:Int}:am x7 HO [Δ k] w λv w'=>v= .bool (decide (right k))/\Ext w w':=by
 refine az func186 ?_;simp only[cu,cO,lC,al];refine⟨λh=>⟨?_,Ext.refl _⟩,λh=>⟨?_,Ext.refl _⟩⟩
 .congr 1;simp[right,h]
 .rw[decide_eq_false];intro a;exact h a.1
theorem jx {k:Int}:am x7 Hb [Δ a,Δ k] w λv w'=>v= .bool (decide (cn a k))/\Ext w w':=by
 refine az func135 ?_;simp only[cu];refine zQ.mono ?_;rintro _ U _ ⟨rfl,I⟩;simp only[cO,lC,al];refine⟨λh=>⟨λe=>⟨?_,I⟩,λe=>⟨?_,I⟩⟩,λh=>⟨?_,I⟩⟩
 .congr 1;simp[cn,h,e]
 .rw[decide_eq_false];intro f;exact e f.2.1
 .rw[decide_eq_false];intro f;exact h f.1
theorem IR {k:Int}:am x7 HE [Δ k] w λv w'=>v= .bool (decide (right k))/\Ext w w':=by
 refine az func174 ?_;simp only[cu,bR,lC,al];refine⟨λh=>⟨?_,Ext.refl _⟩,λh=>⟨?_,Ext.refl _⟩⟩
 .congr 1;have h':1<=k:=Ω
  simp[right,h']
 .rw[decide_eq_false];intro a;have:=a.1;omega
theorem zR {k:Int}:am x7 GI [Δ a,Δ k] w λv w'=>v= .bool (decide (cn a k))/\Ext w w':=by
 refine az func104 ?_;simp only[cu];refine IR.mono ?_;rintro _ U _ ⟨rfl,I⟩;simp only[cO,lC,al];refine⟨λh=>⟨λe=>⟨?_,I⟩,λe=>⟨?_,I⟩⟩,λh=>⟨?_,I⟩⟩
 .congr 1;simp[cn,h,e]
 .rw[decide_eq_false];intro f;exact e f.2.1
 .rw[decide_eq_false];intro f;exact h f.1
def aK:Λ->Int
 |[]=>1
 |x::r=>x*aK r
theorem zS:∀ (a b:Λ),aK (a++b)=aK a*aK b
 |[],b=>by simp[aK]
 |x::a,b=>by simp[aK,zS a b,Int.mul_assoc]
theorem oE {i:Nat} {x:Int} (h:l[i]? =σ x):aK (l.take (i+1))=aK (l.take i)*x:=by
 rw[u9,h,zS];simp[aK]
def b1 (l:Λ):Prop:=l.length<=6/\ ∀x∈l,1<=x/\x<=32
theorem b1.take (h:b1 l) (i:Nat):b1 (l.take i):=⟨by rw[l9];have:=h.1;omega,λx I=>h.2 x (S3 I)⟩
theorem b1.drop (h:b1 l) (i:Nat):b1 (l.drop i):=⟨by rw[List.length_drop];have:=h.1;omega,λx I=>h.2 x (List.mem_of_mem_drop I)⟩
theorem kN:∀ (l:Λ),(∀x∈l,1<=x/\x<=32)->1<=aK l/\aK l<=32 ^ l.length
 |[],_=>by simp[aK]
 |x::r,h=>by
  obtain⟨h1,a⟩:=kN r λy e=>h y (.tail _ e);obtain⟨f,j⟩:=h x (.head _);simp only[aK,c7];constructor
  .have:=Int.mul_le_mul f h1 Ω Ω;simpa using this
  .have:=Int.mul_le_mul j a Ω Ω;rw[Int.pow_succ];rw[Int.mul_comm (32 ^ r.length) 32];exact this
theorem prod_bound (h:b1 l):1<=aK l/\aK l<=1073741824:=by
 obtain⟨h1,a⟩:=kN l h.2;refine⟨h1,Int.le_trans a ?_⟩;have:(32:Int) ^ l.length<=32 ^ 6:=by
  have e:=h.1
  match l.length,e with
  |0,_=>decide
  |1,_=>decide
  |2,_=>decide
  |3,_=>decide
  |4,_=>decide
  |5,_=>decide
  |6,_=>decide
 simpa using this
def cJ:Λ->Λ->Int->Option Int
 |[],[],n=>σ n
 |k::s,v::t,n=>if 0<=v/\v<k then cJ s t (n*k+v) else ν
 |_,_,_=>ν
theorem u3:∀ (s t:Λ) (n:Int),s.length≠t.length->cJ s t n=ν
 |[],[],_,h=>absurd rfl h
 |[],_::_,_,_=>rfl
 |_::_,[],_,_=>rfl
 |k::s,v::t,n,h=>by
  unfold cJ;split
  .exact u3 s t _ (by simpa using h)
  .rfl
def cR:Λ->Int->Λ
 |[],_=>[]
 |k::s,n=>(n / aK s) % k::cR s n
theorem iZ:∀ (s:Λ) (n:Int),(cR s n).length=s.length
 |[],_=>rfl
 |_::s,n=>by simp[cR,iZ s n]
theorem zT:∀ {s:Λ} {n:Int} {i:Nat} {k:Int},s[i]? =σ k->(cR s n)[i]? =σ ((n / aK (s.drop (i+1))) % k)
 |a::s,n,0,k,h=>by simp at h;subst h;simp[cR]
 |a::s,n,i+1,k,h=>by
  simp only[List.getElem?_cons_succ] at h;simp only[cR,List.getElem?_cons_succ,List.drop_succ_cons];exact zT h
theorem nq:∀ {s t:Λ} {m n:Int},(∀x∈s,1<=x/\x<=32)->cJ s t m=σ n->m*aK s<=n/\n<(m+1)*aK s
 |[],[],m,n,_,h=>by simp[cJ] at h;subst h;simp[aK];omega
 |k::s,v::t,m,n,J,h=>by
  unfold cJ at h;split at h
  .rename_i ac;have a:=nq (λx I=>J x (.tail _ I)) h;have j:=(kN s λx I=>J x (.tail _ I)).1;simp only[aK];have e:m*(k*aK s)=m*k*aK s:=(Int.mul_assoc _ _ _).symm;have f:(m+1)*(k*aK s)=(m*k+k)*aK s:=by rw[<-Int.mul_assoc,Int.add_mul,Int.one_mul]
   rw[e,f];constructor
   .refine Int.le_trans ?_ a.1;exact Int.mul_le_mul_of_nonneg_right Ω Ω
   .refine Int.lt_of_lt_of_le a.2 ?_;exact Int.mul_le_mul_of_nonneg_right Ω Ω
  .cases h
 |[],_::_,_,_,_,h=>by cases h
 |_::_,[],_,_,_,h=>by cases h
def bk:Λ->List (Λ)
 |[]=>[[]]
 |k::s=>(Z8 k.toNat).flatMap λ(v:Nat)=>(bk s).map λt=>(v:Int)::t
theorem i7:∀ {s:Λ},(∀x∈s,1<=x/\x<=32)->(bk s).length=(aK s).toNat
 |[],_=>rfl
 |k::s,h=>by
  have a:=i7 (s:=s) λx I=>h x (.tail _ I);have hk:=h k (.head _);have e:=(kN s λx I=>h x (.tail _ I)).1;simp only[bk,aK,List.length_flatMap,u7,a];rw[List.map_const',List.length_range,List.sum_replicate_nat,Int.toNat_mul Ω Ω]
theorem rY:∀ {s x:Λ},x∈bk s->x.length=s.length
 |[],x,h=>by simp[bk] at h;subst h;rfl
 |k::s,x,h=>by
  simp only[bk,List.mem_flatMap,n9] at h;obtain⟨v,_,t,a,rfl⟩:=h;simp[rY a]
theorem zU {s x:Λ} (h:(bk s)[j]? =σ x):x.length=s.length:=rY (x5 h)
theorem oF (h:aF .i64 w sv l) (J:b1 l):
  am x7 H6 [.agg #[sv]] w λv w'=>v=Δ (aK l)/\Ext w w':=by
 refine az func218 ?_;refine bo λg w0 m e f=>?_;rw[aT bB.p 0 f rfl,aU an.u (h.ext e)];refine⟨λn t U=>Ext w U/\ ∃i:Nat,t=Δ i/\i<=l.length/\n=Δ (aK (l.take i)),λ_ t _=>l.length-(bU t).toNat,⟨e,0,rfl,X3 _,rfl⟩,?_⟩;rintro _ _ U ⟨I,i,rfl,hi,rfl⟩;have q:=J.1;simp only[aN,al];refine⟨λr=>?_,λs=>⟨?_,I⟩⟩
 .obtain⟨x,a⟩:=aH (l:=l) (i:=i) Ω;rw[be an.u ai.i Ψ (h.ext I) a];have j:=prod_bound (J.take (i+1));rw[oE a] at j;simp only[gE,aM];rw[wrap_i64 Ω Ω,wrap_i64 Ω Ω,<-oE a];refine⟨⟨I,i+1,rfl,Ω,rfl⟩,?_⟩;simp only[bU];omega
 .have:i=l.length:=Ω
  rw[this,o5]
theorem IS {i:Nat} (h:aF .i64 w sv l) (J:b1 l) (hi:i<l.length):
  am x7 Iz [.agg #[sv],Δ i] w λv w'=>v=Δ (aK (l.drop (i+1)))/\Ext w w':=by
 have B:=J.1;refine az func266 ?_;refine bo λg w0 C f j=>?_;have a:=h.ext f;simp only[cu,aN,al];refine⟨λE=>Ω,λ_=>?_⟩;rw[aT bB.p 0 j rfl,aU an.u a];simp only[cO,al];refine⟨λG=>Ω,λ_=>?_⟩;rw[aT bB.p 0 j rfl];simp only[aM];have r:X2.wrap ((i:Int)+1)=((i+1:Nat):Int):=by rw[wrap_i64 Ω Ω];omega
 rw[r];have s:=a;obtain⟨_,b,o,base,cap,rfl,H,I,K,L⟩:=id a;rw[hF an.u ai.i (l:=i+1) (h:=l.length) (m:=cap) pS jv fw Ω Ω Ω];have e:=ca.part (l:=i+1) (h:=l.length) (m:=cap) s Ω Ω Ω Ω;generalize y:(x1.slice (if cap=i+1 then base else V4 (λx=>x.add ((i+1)*1)) base) (l.length-(i+1)) (cap-(i+1)))=q at e ⊢;have z:((ints .i64 l).drop ((i+1)*1)).take ((l.length-(i+1))*1)=ints .i64 (l.drop (i+1)):=by
  rw[j9 Ξ,V8,ints,<-List.map_drop]
 rw[z] at e;rw[dn (cs:=#[q]) (by subst y;kernel_rfl)];refine (oF (aF.of e) (J.drop (i+1))).mono ?_;rintro _ V _ ⟨rfl,A⟩;exact⟨rfl,f.trans A⟩
def kO (s t:Λ):x1:=match cJ s t 0 with
 |some n=>.tuple #[Δ n,Δ 0]
 |none=>.tuple #[Δ 0,Δ 3]
theorem zV {s t:Λ} (h:aF .i64 w sv s) (j:aF .i64 w aL t) (J:b1 s):
  am x7 HM [.agg #[sv],aL] w λv w'=>v=kO s t/\Ext w w':=by
 have G:=J.1;refine az func184 ?_;refine bo λg w0 H a q=>?_;rw[aU an.u (j.ext a),aT bB.p 0 q rfl,aU an.u (h.ext a)];simp only[bz,al];refine⟨λK=>⟨?_,a⟩,λy=>?_⟩
 .unfold kO;rw[u3 _ _ _ Ω]
 .have y:s.length=t.length:=Ω
  rw[aU an.u (j.ext a)];refine⟨λ_ _ n c U=>Ext w0 U/\ ∃ (i:Nat) (m:Int),c=Δ i/\i<=t.length/\n=Δ m/\0<=m/\m<aK (s.take i)/\cJ s t 0=cJ (s.drop i) (t.drop i) m,λ_ _ _ c _=>t.length-(bU c).toNat,
   ⟨Ext.refl _,0,0,rfl,X3 _,rfl,T2 _,by simp[aK],rfl⟩,?_⟩
  rintro _ _ _ _ U ⟨f,i,m,rfl,hi,rfl,z,L,e⟩;have I:=a.trans f;simp only[aN,al];refine⟨λM=>?_,λN=>⟨?_,I⟩⟩
  .obtain⟨v,ac,A⟩:∃v,t[i]? =σ v/\t.drop i=v::t.drop (i+1):=⟨t[i],x6 Ω,X7 Ω⟩;obtain⟨k,hk,B⟩:∃k,s[i]? =σ k/\s.drop i=k::s.drop (i+1):=⟨s[i],x6 Ω,X7 Ω⟩;rw[A,B] at e;have C:=prod_bound (J.take (i+1));have O:=prod_bound (J.take i);have P:=J.2 k (x5 hk);rw[oE hk] at C;have r:¬(0<=v/\v<k)->kO s t= .tuple #[Δ 0,Δ 3]:=λE=>by unfold kO;rw[e];simp[cJ,E]
   rw[be an.u ai.i Ψ (j.ext I) ac];simp only[cu,aN,al,bQ];refine⟨λQ=>⟨(r Ω).symm,I⟩,λR=>?_⟩;rw[aT bB.p 0 (q.ext f) rfl,be an.u ai.i Ψ (h.ext I) hk];simp only[cO,al];refine⟨λS=>⟨(r Ω).symm,I⟩,λV=>?_⟩;rw[aT bB.p 0 (q.ext f) rfl,be an.u ai.i Ψ (h.ext I) hk];have W:0<=m*k/\m*k+k<=aK (s.take i)*k:=by
    constructor
    .exact Int.mul_nonneg z Ω
    .have:=Int.mul_le_mul_of_nonneg_right (show m+1<=aK (s.take i) by omega) (show 0<=k by omega);rw[Int.add_mul,Int.one_mul] at this;exact this
   simp only[gE,aM];rw[wrap_i64 (x:=m*k) Ω Ω,wrap_i64 (x:=m*k+v) Ω Ω,wrap_i64 (x:=(i:Int)+1) Ω Ω];refine⟨⟨f,i+1,m*k+v,rfl,Ω,rfl,Ω,by rw[oE hk];omega,?_⟩,?_⟩
   .rw[e];simp[cJ,show 0<=v/\v<k from⟨Ω,Ω⟩]
   .simp only[bU];omega
  .have:i=t.length:=Ω
   rw[this,List.drop_of_length_le Ω,List.drop_of_length_le Ω] at e;unfold kO;rw[e];rfl
theorem IT {r s:x1} {e:Nat} {a b:Λ} (h1:ca w 1 r e (ints .i64 a)) (z:ca w 1 s h (ints .i64 b)):
  am x7 yZ [r,s] w λv w'=>v= .bool (decide (a=b))/\Ext w w':=by
 have O:a.length=e:=by simpa using h1.1
 have P:b.length=h:=by simpa using z.1
 have A:=h1.le;obtain⟨_,Q,R,S,W,rfl,X,Y,E,G⟩:=h1;obtain⟨_,Z,aa,ab,ac,rfl,ad,ae,H,J⟩:=z;refine az func12 ?_;simp only[hE an.u,bz,al];refine⟨λB=>⟨?_,Ext.refl _⟩,λC=>?_⟩
 .rw[decide_eq_false];rintro rfl;omega
 .have C:e=h:=Ω
  refine⟨λt4 j U=>Ext w U/\ ∃i:Nat,j=Δ i/\i<=e/\a.take i=b.take i,λ_ j _=>e-(bU j).toNat,⟨Ext.refl _,0,rfl,X3 _,rfl⟩,?_⟩;rintro t4 _ U ⟨I,i,rfl,hi,m⟩;simp only[aN,al,en];refine⟨λp V K _ _=>?_,λaf=>⟨?_,I⟩⟩
  .have p:i<e:=Ω
   have I:=I.trans K;obtain⟨x,q⟩:=aH (l:=a) (i:=i) Ω;obtain⟨y,f⟩:=aH (l:=b) (i:=i) Ω;have L:=il I (G i _ (kK q));have M:=il I (J i _ (kK f));rw[e6 an.u ai.i p E,V8,aA Ψ L,e6 an.u ai.i (C▸p) H,V8,aA Ψ M];simp only[bz,al,aM];refine⟨λB=>⟨?_,I⟩,λag=>⟨⟨I,i+1,?_,Ω,u1 m q f Ω⟩,?_⟩⟩
   .rw[decide_eq_false];rintro rfl;rw[q] at f;cases f;exact B rfl
   .rw[wrap_i64 Ω (by simp only[maxLen] at A;omega)];rfl
   .rw[wrap_i64 Ω (by simp only[maxLen] at A;omega)];simp only[bU];omega
  .have N:i=e:=Ω
   subst N;rw[decide_eq_true];rw[j9 Ω,j9 Ω] at m;exact m
theorem IU {s:x1} {a:Λ} (h1:ca w 1 s n (ints .i64 a)) (z:n<=1000000):
  am x7 y5 [s] w λv w'=>Ext w w'/\ ∃g,w.heap.size<=g/\bT w' g ai 1 v n (ints .i64 a):=by
 have f:=h1;obtain⟨j,A,B,C,E,rfl,G,H,m,J⟩:=h1;refine az func47 ?_;simp only[rT an.u,cb];refine⟨λe=>⟨Ext.refl _,w.heap.size,p8 _,?_⟩,λ_=>?_⟩
 .have:n=0:=by
   rcases Q0 n with h|h
   .exact h
   .rw[m h] at e;cases e
  subst this;have:ints .i64 a=[]:=c8 (by simpa using j);rw[this];exact bT.nil _ _ _ _
 .refine j1 an.u ai.i Ω (cs:=#[]) Ψ ?_;intro g U K I p;refine nk (g:=g) an.u an.u ai.i rfl (bT.full p rfl Ω) (f.ext I) (pU _ _) Ω (by simp only[maxLen];omega) ?_;intro L q V M x y;refine⟨I.then y (by rintro r N rfl;omega),q,?_,?_⟩
  .have:=I.size;omega
  .simpa using x
theorem IV {r s:x1} {e:Nat} {a b:Λ} (h1:ca w 1 r e (ints .i64 a)) (z:ca w 1 s h (ints .i64 b)):
  am x7 zo [r,s] w λv w'=>v= .bool (decide (a=b))/\Ext w w':=by
 have O:a.length=e:=by simpa using h1.1
 have P:b.length=h:=by simpa using z.1
 have A:=h1.le;obtain⟨_,Q,R,S,W,rfl,X,Y,E,G⟩:=h1;obtain⟨_,Z,aa,ab,ac,rfl,ad,ae,H,J⟩:=z;refine az func188 ?_;simp only[hE ax.u,bz,al];refine⟨λB=>⟨?_,Ext.refl _⟩,λC=>?_⟩
 .rw[decide_eq_false];rintro rfl;omega
 .have C:e=h:=Ω
  refine⟨λt4 j U=>Ext w U/\ ∃i:Nat,j=Δ i/\i<=e/\a.take i=b.take i,λ_ j _=>e-(bU j).toNat,⟨Ext.refl _,0,rfl,X3 _,rfl⟩,?_⟩;rintro t4 _ U ⟨I,i,rfl,hi,m⟩;simp only[aN,al,en];refine⟨λp V K _ _=>?_,λaf=>⟨?_,I⟩⟩
  .have p:i<e:=Ω
   have I:=I.trans K;obtain⟨x,q⟩:=aH (l:=a) (i:=i) Ω;obtain⟨y,f⟩:=aH (l:=b) (i:=i) Ω;have L:=il I (G i _ (kK q));have M:=il I (J i _ (kK f));rw[e6 ax.u ap.i p E,V8,aA Ψ L,e6 ax.u ap.i (C▸p) H,V8,aA Ψ M];simp only[bz,al,aM];refine⟨λB=>⟨?_,I⟩,λag=>⟨⟨I,i+1,?_,Ω,u1 m q f Ω⟩,?_⟩⟩
   .rw[decide_eq_false];rintro rfl;rw[q] at f;cases f;exact B rfl
   .rw[wrap_i64 Ω (by simp only[maxLen] at A;omega)];rfl
   .rw[wrap_i64 Ω (by simp only[maxLen] at A;omega)];simp only[bU];omega
  .have N:i=e:=Ω
   subst N;rw[decide_eq_true];rw[j9 Ω,j9 Ω] at m;exact m
theorem IW {s:x1} {a:Λ} (h1:ca w 1 s n (ints .i64 a)) (z:n<=1000000):
  am x7 zl [s] w λv w'=>Ext w w'/\ ∃g,w.heap.size<=g/\bT w' g ap 1 v n (ints .i64 a):=by
 have f:=h1;obtain⟨j,A,B,C,E,rfl,G,H,m,J⟩:=h1;refine az func166 ?_;simp only[rT ax.u,cb];refine⟨λe=>⟨Ext.refl _,w.heap.size,p8 _,?_⟩,λ_=>?_⟩
 .have:n=0:=by
   rcases Q0 n with h|h
   .exact h
   .rw[m h] at e;cases e
  subst this;have:ints .i64 a=[]:=c8 (by simpa using j);rw[this];exact bT.nil _ _ _ _
 .refine j1 ax.u ap.i Ω (cs:=#[]) Ψ ?_;intro g U K I p;refine nk (g:=g) ax.u ax.u ap.i rfl (bT.full p rfl Ω) (f.ext I) (pU _ _) Ω (by simp only[maxLen];omega) ?_;intro L q V M x y;refine⟨I.then y (by rintro r N rfl;omega),q,?_,?_⟩
  .have:=I.size;omega
  .simpa using x
theorem IX {e:x1} {a b:Λ} (h1:aF .i64 w e a) (h:aF .i64 w f b):
  am x7 yZ [e,f] w λv w'=>v= .bool (decide (a=b))/\Ext w w':=IT h1 h
theorem kP {s:x1} {a:Λ} (h1:aF .i64 w s a) (e:a.length<=1000000):
  am x7 y5 [s] w λv w'=>Ext w w'/\ ∃g,w.heap.size<=g/\au .i64 ai w' g v a:=IU h1 e
theorem IY {e:x1} {a b:Λ} (h1:aF .i64 w e a) (h:aF .i64 w f b):
  am x7 zo [e,f] w λv w'=>v= .bool (decide (a=b))/\Ext w w':=IV h1 h
theorem va {s:x1} {a:Λ} (h1:aF .i64 w s a) (e:a.length<=1000000):
  am x7 zl [s] w λv w'=>Ext w w'/\ ∃g,w.heap.size<=g/\au .i64 ap w' g v a:=IW h1 e
theorem IZ {n:Int} (h:aF .i64 w sv l) (J:b1 l) (s:0<=n) (W:n<aK l):
  am x7 Io [.agg #[sv],Δ n] w λv w'=>Ext w w'/\ ∃aL g,v= .tuple #[aL,Δ 0]/\w.heap.size<=g/\au .i64 ai w' g aL (cR l n):=by
 have X:=J.1;have Y:=prod_bound J;refine az func243 ?_;refine bo λg w0 Z x a=>?_;have aa:=h.cells;simp only[cu,aN,al];refine⟨λab=>Ω,λ_=>?_⟩;rw[bO bB.p bB.i rfl a.range];refine (oF (h.ext x) J).mono ?_;rintro _ U _ ⟨rfl,f⟩;simp only[cO,al];refine⟨λac=>Ω,λ_=>?_⟩;have j:=x.trans f;rw[aT bB.p 0 (a.ext f) rfl,aU an.u (h.ext j)];refine iU an.u ai.i Ω Ω ?_;intro C V ad y I;simp only[hE an.u];have K:=j.trans y;have s0:=x.size;have ae:=f.size;have ag:=a.lt;refine⟨λt m=>Ext w m/\Ext w0 m/\ ∃i:Nat,t=Δ i/\i<=l.length/\af m C ai (ints .i64 ((cR l n).take i++r9 (l.length-i) 0)),λt _=>l.length-(bU t).toNat,
  ⟨K,f.trans y,0,rfl,X3 _,by simpa using I⟩,?_⟩
 rintro _ m ⟨z,A,i,rfl,hi,E⟩;simp only[aN,al];refine⟨λB=>?_,λah=>?_⟩
 .have B:i<l.length:=Ω
  rw[bO bB.p bB.i rfl (a.ext A).range];refine (IS (h.ext z) J B).mono ?_;rintro _ aj _ ⟨rfl,L⟩;simp only[en];intro ak M _ _;have q:=L.trans M;have G:=z.trans q;obtain⟨k,hk⟩:∃k,l[i]? =σ k:=⟨l[i],x6 Ω⟩;have ao:=J.2 k (x5 hk);have ap:=prod_bound (J.drop (i+1));have N:0<=n / aK (l.drop (i+1)):=Int.ediv_nonneg s Ω;have aq:n / aK (l.drop (i+1))<=n:=Int.ediv_le_self _ s;rw[pR Ω,Int.tdiv_eq_ediv_of_nonneg s,wrap_i64 Ω Ω,
   aT bB.p 0 ((a.ext A).ext q) rfl,be an.u ai.i Ψ (h.ext G) hk,
   nf Ω,Int.tmod_eq_emod_of_nonneg N,e6 an.u ai.i B (λ_=>rfl),V8]
  refine bt ai.i rfl rfl (E.ext q) (by simp[iZ];omega) ?_;intro av H aw O;simp only[aM];rw[wrap_i64 Ω Ω];have ax:=y.size;have ay:=j.size;refine⟨⟨G.then H (by rintro r P rfl;omega),(A.trans q).then H (by rintro r P rfl;omega),i+1,rfl,Ω,?_⟩,?_⟩
  .have Q:=zT (n:=n) hk;have e:(ints .i64 ((cR l n).take i++r9 (l.length-i) 0)).set (0+i) (Δ (n / aK (l.drop (i+1)) % k))=ints .i64 ((cR l n).take (i+1)++r9 (l.length-(i+1)) 0):=by
    have R:((cR l n).take i).length=i:=by rw[l9,iZ];omega
    rw[X0,ints,<-V7];congr 1;rw[List.set_append,if_neg Ω,R,V6,show l.length-i=(l.length-(i+1))+1 by omega,List.replicate_succ,List.set_cons_zero,u9,Q];simp
   rw[<-e];exact O
  .simp only[bU];omega
 .have S:i=l.length:=Ω
  subst S;refine⟨z,_,C,rfl,by have:=j.size;omega,au.of (n:=l.length) (bT.full ?_ (by simp[ints,iZ]) (by simp[maxLen];omega))⟩;have e:(cR l n).take l.length++r9 (l.length-l.length) 0=cR l n:=by rw[V6,j9 (by rw[iZ];omega)];simp
  rw[<-e];exact E
def hV (x:Int):Prop:=1<=x/\x<=32
instance (x:Int):Decidable (hV x):=by unfold hV;infer_instance
theorem I0 {x:Int}:am x7 rO [Δ x] w λv w'=>v= .bool (decide (¬hV x))/\Ext w w':=by
 refine az func255 ?_;simp only[cu,aN,bR,al];refine⟨λh=>⟨?_,Ext.refl _⟩,λh=>⟨?_,Ext.refl _⟩⟩
 .rw[decide_eq_true];intro a;have:=a.1;omega
 .congr 1;have:(32<x)=(¬hV x):=propext ⟨λe a=>by have:=a.2;omega,λe=>by
   by_cases f:32<x
   .exact f
   .exact absurd ⟨Ω,Ω⟩ e⟩
  simp only[this]
theorem I1 (h:aF .i64 w sv l):
  am x7 uO [sv,.func (.func rO) #[] #[]] w λv w'=>Ext w w'/\ ∃n:Int,v=Δ n/\((0<=n)=¬∀x∈l,hV x):=by
 have r:=h.le;refine az func102 ?_;rw[aU an.u h];refine⟨λ_ t U=>Ext w U/\ ∃i:Nat,t=Δ i/\i<=l.length/\ ∀x∈l.take i,hV x,λ_ t _=>l.length-(bU t).toNat,⟨Ext.refl _,0,rfl,X3 _,Ξ⟩,?_⟩;rintro _ _ U ⟨I,i,rfl,hi,e⟩;simp only[aN,al];refine⟨λs=>?_,λz=>⟨I,-1,rfl,?_⟩⟩
 .obtain⟨x,f⟩:=aH (l:=l) (i:=i) Ω;rw[be an.u ai.i Ψ (h.ext I) f];show am x7 rO [Δ x] U _;refine I0.mono ?_;rintro _ V _ ⟨rfl,j⟩;simp only[al,aM];refine⟨λm=>⟨I.trans j,i,rfl,?_⟩,λp=>?_⟩
  .exact propext ⟨λ_ q=>m (q x (x5 f)),λ_=>Ω⟩
  .rw[wrap_i64 Ω Ω];refine⟨⟨I.trans j,i+1,rfl,Ω,λy a=>?_⟩,?_⟩
   .rw[u9,f] at a;rcases o7.1 a with a|a
    .exact e y a
    .simp at a;subst a;exact Z9.1 p
   .simp only[bU];omega
 .have:i=l.length:=Ω
  rw[this,o5] at e;exact propext ⟨λh=>Ω,λh=>absurd e h⟩
theorem I2 (h:aF .i64 w sv l):
  am x7 uR [sv,.func (.func rO) #[] #[]] w λv w'=>v= .bool (decide (¬∀x∈l,hV x))/\Ext w w':=by
 refine az func191 ?_;refine (I1 h).mono ?_;rintro _ U _ ⟨I,n,rfl,a⟩;simp only[cO];exact⟨by congr 1;simp only[a],I⟩
def I3 (w:x3) (l:Λ) (v:x1) (w':x3):Prop:=
 Ext w w'/\
   (¬b1 l->v= .tuple #[.agg #[.slice ν 0 0],Δ 1])/\
   (b1 l->4096<aK l->v= .tuple #[.agg #[.slice ν 0 0],Δ 5])/\
   (b1 l->aK l<=4096-> ∃g aL,v= .tuple #[.agg #[aL],Δ 0]/\w.heap.size<=g/\au .i64 ai w' g aL l)
theorem I4 (h:aF .i64 w sv l):am x7 H4 [sv] w (I3 w l):=by
 refine az func216 ?_;refine bG bB.i λX U aq a m=>?_;have av:=m.lt;refine aV (λv V=>Ext w V/\Ext U V/\ ∃c:Bool,v= .bool c/\((c=true)=¬b1 l)) ?_ ?_
 .rintro _ V ⟨I,q,c,rfl,E⟩;simp only[cb];refine⟨λY=>?_,λae=>?_⟩
  .have G:¬b1 l:=by rw[<-E];exact Y
   rw[dn (cs:=#[.slice ν 0 0]) Ψ];refine ck (vs:=[.slice ν 0 0]) bB.i rfl rfl (by simp;rfl) (m.ext q) ?_;intro aw Z ax aa;rw[fO bB.p bB.i rfl aa.range];exact⟨I.then Z (by rintro r s rfl;omega),λ_=>rfl,λh=>absurd h G,λh=>absurd h G⟩
  .have e:b1 l:=by
    have H:¬(c=true):=by simp[ae]
    rw[E] at H;exact Classical.not_not.1 H
   have aA:=e.1;refine (kP (h.ext I) Ω).mono ?_;rintro aL K _ ⟨x,L,aB,hm⟩;have M:=hm.ls.cells;rw[dn (cs:=#[aL]) (by obtain⟨_,_,_,_,_,rfl,_⟩:=hm.ls;kernel_rfl)];refine bG bB.i λgs aC aD y ac=>?_;refine ck (vs:=[aL]) bB.i rfl rfl (by intro u hu;simp at hu;subst hu;exact M.2) ac ?_;intro z N aE O;rw[bO bB.p bB.i rfl O.range];have aG:=x.size;have aH:=y.size;have aI:=q.size;have aJ:ah (λr=>r=gs) K z:=(y.ab _).trans N;have A:Ext K z:=y.then N (by rintro r s rfl;omega);have ad:=(I.trans x).trans A;have P:au .i64 ai z L aL l:=hm.ext A;refine (oF P.ls e).mono ?_;rintro _ ag _ ⟨rfl,f⟩;have Q:=ad.trans f;have R:af ag X bB [.slice ν 0 0]:=m.ext (((q.trans x).trans A).trans f);simp only[bR,al];refine⟨λaj=>?_,λak=>?_⟩
   .rw[dn (cs:=#[.slice ν 0 0]) Ψ];refine ck (vs:=[.slice ν 0 0]) bB.i rfl rfl (by simp;rfl) R ?_;intro ao j ap B;rw[fO bB.p bB.i rfl B.range];exact⟨Q.then j (by rintro r s rfl;omega),λh=>absurd e h,λ_ _=>rfl,λ_ h=>Ω⟩
   .rw[bO bB.p bB.i rfl (O.ext f).range];refine ck (vs:=[aL]) bB.i rfl rfl (by intro u hu;simp at hu;subst hu;exact M.2) R ?_;intro ao j ap B;rw[fO bB.p bB.i rfl B.range];have aK:=a.size;exact⟨Q.then j (by rintro r s rfl;omega),λh=>absurd e h,λ_ h=>Ω,λ_ _=>⟨L,aL,rfl,Ω,(P.ext f).ab j Ω⟩⟩
 .intro ay S;rw[aU an.u (h.ext a)];simp only[bR,al];refine⟨λaj=>S _ _ ⟨a,Ext.refl _,true,rfl,?_⟩,λak=>?_⟩
  .exact propext ⟨λ_ J=>by have:=J.1;omega,λ_=>rfl⟩
  .refine (I2 (h.ext a)).mono ?_;rintro _ V _ ⟨rfl,W⟩;refine S _ _ ⟨a.trans W,W,_,rfl,?_⟩;rw[decide_eq_true_eq];exact propext ⟨λC J=>C J.2,λC J=>C ⟨Ω,J⟩⟩
theorem vb {P:W0} (f:0<=a) (h1:a<4294967296):
  aa P (aJ .and t cx cy (.int .u64 a) (.int .u64 4294967295)) w K=K (.int .u64 a):=aa.of λw' _=>by
 obtain⟨n,rfl⟩:=U4 f;have p:n<4294967296:=Ω
 have e:(U5 64 (n:Int) &&& U5 64 4294967295).toNat=n:=by
  rw[BitVec.toNat_and,BitVec.toNat_ofInt,BitVec.toNat_ofInt];have h:((n:Int) % ((2 ^ 64:Nat):Int)).toNat=n:=Ω
  have j:((4294967295:Int) % ((2 ^ 64:Nat):Int)).toNat=2 ^ 32-1:=Φ
  rw[h,j,Nat.and_two_pow_sub_one_eq_mod];omega
 have m:(U5 U1.bits (n:Int) &&& U5 U1.bits 4294967295).toNat=n:=e;simp only[aJ,eqGuard,binOp,Op.intBits,m];rw[wrap_u64 Ω Ω];rfl
theorem pX {P:W0} (f:0<=a) (h1:a<4294967296):
  aa P (aJ .shr t cx cy (.int .u64 a) (.int .u64 32)) w K=K (.int .u64 0):=aa.of λw' _=>by
 have e:a.fdiv (2 ^ min 32 U1.bits)=0:=by
  have:(2:Int) ^ min 32 U1.bits=4294967296:=rfl;rw[this,Int.fdiv_eq_ediv_of_nonneg _ Ω];omega
 simp[aJ,eqGuard,binOp,Op.shift,e]
theorem I5 {x:Int} (I:0<=x/\x<65536) (e:0<=y/\y<65536):
  am x7 Ir [.int .u64 x,.int .u64 y] w λv w'=>v= .tuple #[.int .u64 0,.int .u64 (x*y)]/\Ext w w':=by
 have h:0<=x*y/\x*y<4294967296:=⟨Int.mul_nonneg I.1 e.1,by
  have:x*y<=65535*65535:=Int.mul_le_mul Ω Ω e.1 Ω;omega⟩
 refine az func256 ?_;refine am.mono (K:=λv w'=>v= .tuple #[.int .u64 0,.int .u64 (x*y)]/\Ext w w') ?_ ?_
 .refine az func273 ?_;rw[vb Ω Ω,pX Ω Ω,vb Ω Ω,pX Ω Ω];simp only[gE,Int.zero_mul,Int.mul_zero];rw[wrap_u64 (x:=x*y) Ω Ω,show U1.wrap 0=0 from rfl,pX (a:=x*y) Ω Ω];simp only[aM,Int.add_zero];rw[show U1.wrap 0=0 from rfl,vb Ω Ω,pX Ω Ω];simp only[gE,aM,Int.zero_mul,Int.mul_zero,Int.add_zero,show U1.wrap 0=0 from rfl];rw[pX Ω Ω];simp only[gE,aM,Int.add_zero,show U1.wrap 0=0 from rfl];exact⟨trivial,Ext.refl _⟩
 .rintro _ U _ ⟨rfl,f⟩;rw[bi,bj];exact⟨rfl,f⟩
theorem zW {e7:x1} {c:Int} (h:aF .i64 w e7 [c]) (Y:n<65536):
  am x7 H5 [e7,Δ n] w λv w'=>Ext w w'/\ ∃g,w.heap.size<=g/\au .i64 ap w' g v (r9 n c):=by
 refine az func217 ?_;refine dh (λU=>w=U) ?_ ?_
 .rintro _ rfl;rw[aU ax.u h,eW ai.u oz.u,eW ai.u oz.u,wrap_u64 Ξ Ξ,wrap_u64 Ω Ω];refine (I5 (x:=([c].length:Int)) Ξ Ω).mono ?_;rintro _ V _ ⟨rfl,z⟩;rw[bi,bj];have E:(([c].length:Int)*n)=(n:Int):=Ξ
  rw[E];refine dh (λa=>V=a) ?_ ?_
  .rintro _ rfl;rw[eW oz.u ai.u,wrap_i64 Ω Ω];refine iU ax.u ap.i Ω Ω ?_;intro g Z aa G H;have I:=z.trans G;have ab:=z.size;refine zG ax.u ap.i H (o:=0) (λ_=>rfl) Ξ (h.ext I) (pU _ _) ?_;intro ac J ad A;have K:=I.then J (by rintro r L rfl;omega);have st:over (ints .i64 (r9 n 0)) 0 ((ints .i64 [c]).take n)=ints .i64 (r9 (min 1 n) c++r9 (n-min 1 n) 0):=by
    rcases Q0 n with rfl|e
    .simp[over]
    .rw[j9 Θ,mg Θ];have:min 1 n=1:=Ω
     simp[this,ints]
   rw[st] at A;refine⟨λt f=>Ext w f/\ ∃i:Nat,t=Δ i/\i<=n/\(0<n->0<i)/\af f g ap (ints .i64 (r9 i c++r9 (n-i) 0)),λt _=>n-(bU t).toNat,
    ⟨K,min 1 n,Ξ,Ω,Ω,A⟩,?_⟩
   rintro _ f ⟨p,i,rfl,hi,ae,q⟩;simp only[hE ax.u,aN,al,en];refine⟨λM N s _ _=>?_,λag=>?_⟩
   .have M:i<n:=Ω
    have B:=q.ext s;rw[hF ax.u ap.i (l:=i) (h:=n) (m:=n) pS jv fw Ω Ω Ω,
     hF ax.u ap.i (l:=0) (h:=i) (m:=n) ju pT fw Ω Ω Ω]
    have O:ca N 1 (.slice (σ ⟨g,0,ν⟩) n n) n (ints .i64 (r9 i c++r9 (n-i) 0)):=(bT.full B (by simp<;>omega) (by simp[maxLen]<;>omega)).sl;have e:=O.part (l:=0) (h:=i) (m:=n) Ω Ω Ω Ω;have P:((ints .i64 (r9 i c++r9 (n-i) 0)).drop (0*1)).take ((i-0)*1)=ints .i64 (r9 i c):=by
     simp[ints]
    rw[P] at e;refine zG ax.u ap.i B (o:=i) (λ_=>?_) (by simp<;>omega) e (pU _ _) ?_
    .rw[if_neg Ω];simp[T1]
    .intro ah Q aj C;have ak:=p.size;have an:=s.size;have R:over (ints .i64 (r9 i c++r9 (n-i) 0)) i ((ints .i64 (r9 i c)).take (n-i))=ints .i64 (r9 (i+min i (n-i)) c++r9 (n-(i+min i (n-i))) 0):=by
      apply Y6;intro j;rw[ni _ _ _ (by simp[ints]<;>omega)];simp only[ints,b6,List.map_replicate,List.getElem?_append,List.getElem?_take,List.getElem?_replicate,l9,List.length_replicate]
      repeat' split
      all_goals first|rfl|omega
     rw[R] at C;have S:min (i-0) (n-i)=min i (n-i):=Ω
     simp only[aM,S];have W:X2.wrap ((i:Int)+((min i (n-i):Nat):Int))=((i+min i (n-i):Nat):Int):=by rw[wrap_i64 Ω Ω];omega
     rw[W];refine⟨⟨(p.trans s).then Q (by rintro r L rfl;omega),_,rfl,Ω,Ω,C⟩,?_⟩;simp only[bU,u6];omega
   .have:i=n:=Ω
    subst this;rw[V6,List.replicate_zero,U2] at q;exact⟨p,g,Ω,au.of (n:=i) (bT.full q Ξ (by simp[maxLen];omega))⟩
  .intro ay y;refine aV (λv a=>v= .bool false/\V=a) ?_ ?_
   .rintro _ _ ⟨rfl,rfl⟩;rw[aY];exact y _ rfl
   .intro ao X;simp only[bR,al];refine⟨λh=>Ω,λ_=>X _ _ ⟨?_,rfl⟩⟩;rw[decide_eq_false];omega
 .intro ay y;simp only[aN,al];exact⟨λh=>Ω,λ_=>y _ rfl⟩
def leads (v:x1) (r:Nat):Prop:=∃a n c,v= .slice (σ a) n c/\a.block=r
theorem bM {g:Nat} (h:au k e w g v l) {r:Nat} (f:leads v r):r=g/\g<w.heap.size:=by
 obtain⟨a,n,c,rfl,rfl⟩:=f;obtain⟨_,⟨h,_⟩|⟨cap,cs,h,j,_⟩⟩:=h
 .cases h
 .cases h;exact⟨rfl,j.lt⟩
theorem bp {g:Nat} (h:au k e w g v l) (I:ah S w w') (a:∀r,leads v r->¬S r):au k e w' g v l:=by
 refine⟨h.1,h.2.imp id λ⟨cap,cs,h1,f,j⟩=>⟨cap,cs,h1,f.ab I (a g ⟨_,_,_,h1,rfl⟩),j⟩⟩
def db (w:x3) (g a:Nat) (sv:x1) (aj:Λ) (k:Int) (cs:Λ):Prop:=
 (∃a7 gs,af w g cX [sv,Δ k,a7]/\au .i64 ai w gs sv aj/\au .i64 ap w a a7 cs)/\(g≠a/\¬leads sv a/\aK aj<=4096)/\b1 aj/\cs.length=(aK aj).toNat
theorem db.ext {g a:Nat} {k:Int} {cs:Λ} (h:db w g a sv aj k cs) (I:Ext w w'):db w' g a sv aj k cs:=by
 obtain⟨⟨a7,gs,h1,e,f⟩,j⟩:=h;exact⟨⟨a7,gs,h1.ext I,e.ext I,f.ext I⟩,j⟩
def zX (w:x3) (l:Λ) (k a:Int) (v:x1) (w':x3):Prop:=
 Ext w w'/\
  (¬b1 l->v= .tuple #[.pointer ν,Δ 1])/\
  (b1 l->4096<aK l->v= .tuple #[.pointer ν,Δ 5])/\
  (b1 l->aK l<=4096->¬cn a k->v= .tuple #[.pointer ν,Δ 3])/\
  (b1 l->aK l<=4096->cn a k-> ∃g e sv,v= .tuple #[Γ g,Δ 0]/\w.heap.size<=g/\w.heap.size<=e/\(∀r,leads sv r->w.heap.size<=r)/\
   db w' g e sv l k (r9 (aK l).toNat a))
theorem vc {k z:Int} (h:aF .i64 w sv l):am x7 Hv [sv,Δ k,Δ z] w (zX w l k z):=by
 refine az func163 ?_;refine (I4 h).mono ?_;rintro v U _ ⟨I,X,Y,Z⟩;obtain⟨aL,e,rfl,ab,he⟩:∃ (aL:x1) (e:Int),v= .tuple #[.agg #[aL],Δ e]/\aL.oneCell'=true/\
   ((e=1/\¬b1 l)\/(e=5/\b1 l/\4096<aK l)\/(e=0/\b1 l/\aK l<=4096/\ ∃g,w.heap.size<=g/\au .i64 ai U g aL l)):=by
  by_cases J:b1 l
  .by_cases y:aK l<=4096
   .obtain⟨g,aL,rfl,h1,K⟩:=Z J y;exact⟨aL,0,rfl,K.ls.cells.2,.inr (.inr ⟨rfl,J,y,g,h1,K⟩)⟩
   .exact⟨_,_,Y J Ω,rfl,.inr (.inl ⟨rfl,J,Ω⟩)⟩
  .exact⟨_,_,X J,rfl,.inl ⟨rfl,J⟩⟩
 rw[bi,bj];refine bG bB.i λaN V aO ac ad=>?_;refine ck (vs:=[aL]) bB.i rfl rfl (by intro u hu;simp at hu;subst hu;exact ab) ad ?_;intro af ag aP ah;have L:Ext U af:=ac.then ag (by rintro r j rfl;omega);have M:=I.trans L;simp only[bz,al];refine⟨λaj=>⟨M,?_⟩,λaQ=>?_⟩
 .rcases he with⟨rfl,A⟩|⟨rfl,J,y⟩|⟨rfl,_⟩
  .exact⟨λ_=>rfl,λh=>absurd h A,λh=>absurd h A,λh=>absurd h A⟩
  .exact⟨λh=>absurd J h,λ_ _=>rfl,λ_ h=>Ω,λ_ h=>Ω⟩
  .exact absurd rfl aj
 .obtain⟨rfl,J,y,gs,aR,hm⟩:e=0/\b1 l/\aK l<=4096/\ ∃g,w.heap.size<=g/\au .i64 ai U g aL l:=by
   rcases he with⟨rfl,A⟩|⟨rfl,J,y⟩|h
   .omega
   .omega
   .exact h
  have aS:=prod_bound J;refine jx.mono ?_;rintro _ aT _ ⟨rfl,C⟩;have N:=M.trans C;simp only[bI,cb];refine⟨λae=>⟨N,λh=>absurd J h,λ_ h=>Ω,λ_ _ _=>rfl,λ_ _ h=>by simp[h] at ae⟩,λak=>?_⟩;have an:cn z k:=by simpa using ak
  simp only[cu,en];intro O E _ _;have ao:=N.trans E;have B:=(L.trans C).trans E;have P:=(ah.ext C).ext E;rw[bO bB.p bB.i rfl P.range,bO bB.p bB.i rfl P.range];have aU:=I.size;have aV:=B.size;have Q:((aK l).toNat:Int)=aK l:=Ω
  have R:∀ {s:x3} {q:x1} {x:Nat},Ext O s->O.heap.size<=x->au .i64 ap s x q (r9 (aK l).toNat z)->
    aa x7 (Instr.build cX #[(0,.agg #[aL]),(1,Δ k),(2,q)]) s λav=>aC x7 (Instr.box cX av) s λaw S=>zX w l k z (.tuple #[aw,Δ 0]) S:=by
   intro s q x m W j;rw[dn (cs:=#[aL,Δ k,q]) (by
    obtain⟨_,_,_,_,_,rfl,_⟩:=j.ls;obtain⟨_,_,_,_,_,rfl,_⟩:=hm.ls;kernel_rfl)]
   refine bo λg S aW G ay=>?_;have aX:=m.size;have aA:leads q x:=by
    obtain⟨aY,⟨_,aB⟩|⟨cap,cs,rfl,_⟩⟩:=j
    .simp at aB;omega
    .exact⟨_,_,_,rfl,rfl⟩
   have aZ:=(bM j aA).2;refine⟨(ao.trans m).trans G,λh=>absurd J h,λ_ h=>Ω,λ_ _ h=>absurd an h,λ_ _ _=>⟨g,x,aL,rfl,Ω,Ω,λr aD=>?_,⟨q,gs,ay,((hm.ext B).ext m).ext G,j.ext G⟩,⟨Ω,λaE=>?_,y⟩,J,Ξ⟩⟩
   .have:=(bM hm aD).1;omega
   .have:=bM hm aE;omega
  constructor
  .refine eo ax.u ap.i rfl λe7 aq aG aH a H=>⟨.inl a,?_⟩;refine (oF ((hm.ext B).ext a).ls J).mono ?_;rintro _ aI _ ⟨rfl,f⟩;refine⟨.inl (a.trans f),?_⟩;rw[<-Q];refine (zW (H.ext f).ls Ω).mono ?_;rintro q s _ ⟨m,x,W,j⟩;have aJ:=a.size;have aM:=f.size;exact⟨.inl ((a.trans f).trans m),R ((a.trans f).trans m) Ω j⟩
  .refine (oF (hm.ext B).ls J).mono ?_;rintro _ aG _ ⟨rfl,a⟩;refine⟨.inl a,?_⟩;refine eo ax.u ap.i rfl λe7 aq aI aH f H=>⟨.inl (a.trans f),?_⟩;rw[<-Q];refine (zW H.ls Ω).mono ?_;rintro q s _ ⟨m,x,W,j⟩;have aJ:=a.size;have aM:=f.size;exact⟨.inl ((a.trans f).trans m),R ((a.trans f).trans m) Ω j⟩
theorem nr {g:Nat} {a:List x1} {o:Nat} (h:af w g e cs) (f:∀j v,a[j]? =σ v->cs[o+j]? =σ v):w.rangeAt g o a:=λj v ac=>h.cell (f j v ac)
theorem zY {g a:Nat} {t:Λ} {k:Int} {cs:Λ} (h:db w g a sv aj k cs) (e:aF .i64 w aL t):
  am x7 Ia [Γ g,aL] w λv w'=>v=kO aj t/\Ext w w':=by
 obtain⟨⟨a7,gs,f,hm,m⟩,_,J,_⟩:=h;refine az func223 ?_;rw[c5 eP.u];simp only[b9,aY];rw[bS,aW cX.p rfl,bO (cs:=[sv]) bB.p bB.i rfl (nr f (by
  intro j v ac
  match j,ac with
  |0,ac=>exact ac))]
 refine (zV hm.ls e J).mono ?_;rintro _ U _ ⟨rfl,I⟩;unfold kO;cases cJ aj t 0 with
 |none=>rw[bi,bj];exact⟨rfl,I⟩
 |some n=>rw[bi,bj];exact⟨rfl,I⟩
def oG (aj t cs:Λ):x1:=match cJ aj t 0 with
 |some n=>.tuple #[Δ (cs.getD n.toNat 0),Δ 0]
 |none=>.tuple #[Δ 0,Δ 3]
theorem zZ {t cs:Λ} {n:Int} (J:b1 aj) (a:cs.length=(aK aj).toNat) (h:cJ aj t 0=σ n):n=(n.toNat:Int)/\n.toNat<cs.length:=by
 have:=nq J.2 h;simp only[Int.zero_mul,Int.zero_add,Int.one_mul] at this;omega
theorem vd {g e:Nat} {t:Λ} {k:Int} {cs:Λ} (h:db w g e sv aj k cs) (f:aF .i64 w aL t):
  am x7 H1 [Γ g,aL] w λv w'=>v=oG aj t cs/\Ext w w':=by
 refine az func207 ?_;refine (zY h f).mono ?_;rintro _ U _ ⟨rfl,I⟩;obtain⟨⟨a7,gs,j,hm,m⟩,_,J,q⟩:=h.ext I;unfold kO oG;cases hi:cJ aj t 0 with
 |none=>
  rw[bi,bj];simp only[bz,al];exact⟨λ_=>⟨trivial,I⟩,λh=>by simp at h⟩
 |some n=>
  obtain⟨r,a⟩:=zZ J q hi;rw[bi,bj];simp only[bz,al];refine⟨λh=>absurd rfl h,λ_=>?_⟩;rw[aO cX.p 2 j rfl,
   fx r ax.u ap.i Ψ m.ls (x6 a)]
  refine⟨?_,I⟩;rw[v8,x6 a];rfl
def rZ (aj t:Λ) (k c:Int) (cs:Λ):Λ:=match cJ aj t 0 with
 |some n=>if cn c k then cs.set n.toNat c else cs
 |none=>cs
def z1 (aj t:Λ) (k c:Int):Int:=match cJ aj t 0 with
 |some _=>if cn c k then 0 else 3
 |none=>3
theorem I6 {g e:Nat} {t:Λ} {k c:Int} {cs:Λ} (h:db w g e sv aj k cs) (A:aF .i64 w aL t):
  am x7 Hx [Γ g,aL,Δ c] w λv w'=>v=Δ (z1 aj t k c)/\ah (λr=>r=e) w w'/\db w' g e sv aj k (rZ aj t k c cs):=by
 refine az func165 ?_;refine (zY h A).mono ?_;rintro _ U _ ⟨rfl,I⟩;have h1:=h.ext I;obtain⟨⟨a7,gs,a,hm,f⟩,_,J,j⟩:=h1;unfold kO z1 rZ;cases hi:cJ aj t 0 with
 |none=>
  rw[bi,bj];simp only[bz,al];exact⟨λ_=>⟨trivial,I.ab _,h.ext I⟩,λh=>by simp at h⟩
 |some n=>
  obtain⟨N,O⟩:=zZ J j hi;rw[bi,bj];simp only[bz,al];refine⟨λh=>absurd rfl h,λ_=>?_⟩;rw[aO cX.p 1 a rfl];refine jx.mono ?_;rintro _ V _ ⟨rfl,m⟩;have s:=(h.ext I).ext m;by_cases x:cn c k
  .simp only[x,decide_true,bI,Y7,aY,if_true];obtain⟨⟨a7,gs,a,hm,f⟩,⟨B,y⟩,J,j⟩:=s;have P:=f;obtain⟨Q,⟨rfl,R⟩|⟨cap,full,rfl,C,E,G,H,z⟩⟩:=f
   .omega
   .rw[aO cX.p 2 a rfl,
     zC (i:=n) ax.u ap.i Ω Ω (λ_=>rfl)]
    refine bt ap.i rfl rfl C Ω ?_;intro S q W K;refine⟨trivial,((I.trans m).ab _).trans q,⟨_,gs,a.ab q Ω,bp hm q (λr L M=>y.1 (M▸L)),?_⟩,⟨B,y⟩,J,by simp[j]⟩;refine⟨Ξ,.inr ⟨cap,full.set (0+n.toNat*1) (Δ c),?_,K,by simpa using E,G,by simpa using H,?_⟩⟩
    .simp
    .simp only[Z2,X0,V8] at z ⊢;rw[List.take_set,z,ints,ints,V7]
  .simp only[x,decide_false,bI,W5,bQ,if_false];exact⟨trivial,(I.trans m).ab _,s⟩
def cw (b:Int):Bool:=decide (b=32\/b=9\/b=10\/b=13)
def bJ (b:Int):Bool:=decide (33<=b/\b<=126)
def ns:Nat->Λ->List (Λ)×Bool
 |0,_=>([],true)
 |n+1,p=>
  match p.dropWhile cw with
  |[]=>([],true)
  |b::q=>
   if bJ b then
    match (b::q).dropWhile bJ with
    |[]=>([(b::q).takeWhile bJ],true)
    |c::r=>if cw c then (((b::q).takeWhile bJ)::(ns n (c::r)).1,(ns n (c::r)).2) else ([],false)
   else ([],false)
def lex (p:Λ):List (Λ)×Bool:=ns (p.length+1) p
theorem oH (f:Int->Bool):∀ (l:Λ),(l.dropWhile f).length<=l.length
 |[]=>p8 _
 |x::l=>by
  rw[List.dropWhile_cons];split
  .exact Y9 (oH f l) (Nat.le_succ _)
  .exact p8 _
theorem r0 {f:Int->Bool} {x:Int} (h:f x=true):((x::l).dropWhile f).length<=l.length:=by
 rw[List.dropWhile_cons,if_pos h];exact oH f l
theorem z6:∀ {n m:Nat} {p:Λ},p.length<n->p.length<m->ns n p=ns m p
 |n+1,m+1,p,j,hm=>by
  unfold ns;have h1:=oH cw p;cases f:p.dropWhile cw with
  |nil=>rfl
  |cons b q=>
   rw[f] at h1;simp only;by_cases a:bJ b=true
   .rw[if_pos a,if_pos a];have e:=r0 (l:=q) a;cases h:(b::q).dropWhile bJ with
    |nil=>rfl
    |cons c r=>
     rw[h] at e;simp only[c7] at h1 e;simp only;rw[z6 (n:=n) (m:=m) (p:=c::r) (by rw[c7];omega) (by rw[c7];omega)]
   .rw[if_neg a,if_neg a]
theorem j3 (p:Λ):lex p=match p.dropWhile cw with
  |[]=>([],true)
  |b::q=>
   if bJ b then
    match (b::q).dropWhile bJ with
    |[]=>([(b::q).takeWhile bJ],true)
    |c::r=>if cw c then (((b::q).takeWhile bJ)::(lex (c::r)).1,(lex (c::r)).2) else ([],false)
   else ([],false):=by
 unfold lex
 conv=>lhs;unfold ns
 have h1:=oH cw p;cases f:p.dropWhile cw with
 |nil=>rfl
 |cons b q=>
  rw[f] at h1;simp only;by_cases a:bJ b=true
  .rw[if_pos a,if_pos a];have e:=r0 (l:=q) a;cases h:(b::q).dropWhile bJ with
   |nil=>rfl
   |cons c r=>
    rw[h] at e;simp only[c7] at h1 e;simp only;rw[z6 (n:=p.length) (m:=(c::r).length+1) (p:=c::r) (by rw[c7];omega) Ω]
  .rw[if_neg a,if_neg a]
theorem pY:∀ (n:Nat) (p:Λ),p.length<=n->(lex p).1.length<=p.length
 |n,p,m=>by
  rw[j3];have h1:=oH cw p;cases h:p.dropWhile cw with
  |nil=>simp
  |cons b q=>
   rw[h] at h1;simp only;by_cases a:bJ b=true
   .rw[if_pos a];have e:=r0 (l:=q) a;cases j:(b::q).dropWhile bJ with
    |nil=>simp only[c7,List.length_nil] at h1 ⊢;omega
    |cons c r=>
     rw[j] at e;simp only[c7] at h1 e;simp only;by_cases f:cw c=true
     .rw[if_pos f]
      match n with
      |0=>omega
      |n+1=>
       have:=pY n (c::r) (by rw[c7];omega);simp only[c7] at this ⊢;omega
     .rw[if_neg f];simp
   .rw[if_neg a];simp
theorem r1:∀ (n:Nat) (p:Λ),p.length<=n-> ∀w∈(lex p).1,w≠[]/\(∀b∈w,bJ b=true)/\w.length<=p.length
 |n,p,z,w,hw=>by
  rw[j3] at hw;have h1:=oH cw p;cases e:p.dropWhile cw with
  |nil=>rw[e] at hw;simp at hw
  |cons b q=>
   rw[e] at h1 hw;simp only at hw;have y:(b::q).length<=p.length:=h1;by_cases a:bJ b=true
   .rw[if_pos a] at hw;have f:=r0 (l:=q) a;have j:(b::q).takeWhile bJ≠[]/\(∀x∈(b::q).takeWhile bJ,bJ x=true)/\((b::q).takeWhile bJ).length<=p.length:=
     ⟨by rw[List.takeWhile_cons,if_pos a];simp,λx I=>List.all_takeWhile (l:=b::q) (p:=bJ) |> List.all_eq_true.1 |> λh=>h x I,Y9 (List.takeWhile_sublist _).length_le y⟩
    cases m:(b::q).dropWhile bJ with
    |nil=>
     rw[m] at hw;simp only[o9] at hw;subst hw;exact j
    |cons c r=>
     rw[m] at f hw;simp only[c7] at h1 f;simp only at hw;by_cases s:cw c=true
     .rw[if_pos s] at hw;rcases W9.1 hw with rfl|hw
      .exact j
      .match n with
       |0=>omega
       |n+1=>
        have:=r1 n (c::r) (by rw[c7];omega) w hw;exact⟨this.1,this.2.1,Y9 this.2.2 (by rw[c7];omega)⟩
     .rw[if_neg s] at hw;simp at hw
   .rw[if_neg a] at hw;simp at hw
def aw:Int:=4611686018427387904
def gk (b:Int):Bool:=decide (48<=b/\b<=57)
def eY (n b:Int):Int:=min aw (10*n+(b-48))
def j7:Λ->Option Int
 |[]=>ν
 |l=>if l.all gk then σ (l.foldl eY 0) else ν
def gl:Λ->Option Int
 |45::l=>(j7 l).map λn=>-n
 |l=>j7 l
theorem I7 {n b:Int} (e:0<=n) (a:gk b=true):0<=eY n b/\eY n b<=aw:=by
 have a:=of_decide_eq_true a;unfold eY aw;omega
theorem r2:∀ {l:Λ} {n:Int},l.all gk=true->0<=n/\n<=aw->0<=l.foldl eY n/\l.foldl eY n<=aw
 |[],n,_,a=>a
 |b::l,n,h,a=>by
  rw[List.all_cons,V0] at h;exact r2 (l:=l) h.2 (I7 a.1 h.1)
structure aD where
 toks:List (Λ)
 told:Int
 big:Bool
 shared:List (Λ×List (Λ×Int))
deriving DecidableEq
def dL (s:aD):Option (Λ×aD):=match s.toks with
 |[]=>ν
 |w::l=>σ (w,{s with toks:=l})
def bf (lo hi:Int) (s:aD):Option (Int×aD):=match dL s with
 |none=>ν
 |some (w,s)=>match gl w with
  |none=>ν
  |some n=>if lo<=n/\n<=hi then σ (n,s) else ν
def bd (b:Bool) (s:aD):aD:={s with big:=s.big||b}
def cN {α:Type} (f:List α->aD->Option (α×aD)):Nat->List α->aD->Option (List α×aD)
 |0,acc,s=>σ (acc,s)
 |n+1,acc,s=>match f acc s with
  |none=>ν
  |some (a,s)=>cN f n (acc++[a]) s
def eZ (n:Int) (a:Nat) (s:aD):Option (Λ×aD):=cN (λacc s=>match bf 0 (n-1) s with
 |none=>ν
 |some (v,s)=>if v∈acc then ν else σ (v,s)) a [] s
def ip:Λ->Λ->aD->Option (Λ×aD)
 |[],acc,s=>σ (acc,s)
 |k::l,acc,s=>match bf 0 (k-1) s with
  |none=>ν
  |some (v,s)=>ip l (acc++[v]) s
def dM (sizes:Λ) (acc:List (Λ×Int)) (s:aD):Option ((Λ×Int)×aD):=match ip sizes [] s with
 |none=>ν
 |some (t,s)=>match bf 0 aw s with
  |none=>ν
  |some (c,s)=>if t∈acc.map (·.1) then ν else σ ((t,c),s)
def dN (sizes:Λ) (s:aD):Option (List (Λ×Int)×aD):=match bf (-aw) aw s with
 |none=>ν
 |some (n,s)=>
  if n<0 then match s.shared[(-n-1).toNat]? with
   |none=>ν
   |some (z,l)=>if z=sizes then σ (l,s) else ν
  else cN (dM sizes) n.toNat [] (bd (decide (16384<min (s.told+n) aw)) {s with told:=min (s.told+n) aw})
def dq (sizes:Λ):Bool:=decide (4096<aK (sizes.map λk=>min k 4097))
structure cv where
 scope:Λ
 sizes:Λ
 other:Int
 lines:List (Λ×Int)
deriving DecidableEq
def c6 (all:Λ) (s:aD):Option (cv×aD):=match bf (-aw) aw s with
 |none=>ν
 |some (a,s)=>match eZ all.length a.natAbs s with
  |none=>ν
  |some (scope,s)=>
   let sizes:=scope.map λv=>all.getD v.toNat 0
   match bf 0 aw (bd (decide (6<a.natAbs)||dq sizes) s) with
   |none=>ν
   |some (other,s)=>match dN sizes s with
    |none=>ν
    |some (lines,s)=>σ (⟨scope,sizes,other,lines⟩,if a<0 then {s with shared:=s.shared++[(sizes,lines)]} else s)
def fP (most:Int) (_:Λ) (s:aD):Option (Int×aD):=match bf 1 most s with
 |none=>ν
 |some (z,s)=>σ (z,bd (decide (32<z)) s)
structure bZ where
 name:Λ
 k:Int
 sizes:Λ
 funs:List cv
deriving DecidableEq
def hG (s:aD):Option (bZ×aD):=match dL s with
 |none=>ν
 |some (name,s)=>match bf 1 aw (bd (decide (64<name.length)) s) with
  |none=>ν
  |some (n,s)=>match bf 1 aw (bd (decide (64<n)) s) with
   |none=>ν
   |some (most,s)=>match bf 0 aw s with
    |none=>ν
    |some (a,s)=>match bf 1 aw (bd (decide (256<a)) s) with
     |none=>ν
     |some (k,s)=>match cN (fP most) n.toNat [] (bd (decide (2147483648<k)) s) with
      |none=>ν
      |some (sizes,s)=>match cN (λ_ s=>c6 sizes s) a.toNat [] s with
       |none=>ν
       |some (funs,s)=>σ (⟨name,k,sizes,funs⟩,s)
def gm (p:Λ):Option bZ:=if 65536<p.length then ν else match hG ⟨(lex p).1,0,false,[]⟩ with
 |none=>ν
 |some (f,s)=>if s.toks=[]/\(lex p).2=true/\s.big=false then σ f else ν
def mj (n:Int) (a:Bool) (v:Int):Prop:=0<=n/\n<=4611686018427387909/\(a=true->v=aw)/\(a=false->v=min aw n)
theorem I8 {n b v:Int} {a:Bool} (h:mj n a v) (p:48<=b/\b<=57):
  mj (if a=true\/461168601842738790<n then n else 10*n+(b-48)) (a||decide (461168601842738790<n)) (eY v b):=by
 obtain⟨h1,f,j,m⟩:=h;unfold eY mj aw at*;cases a with
 |true=>
  have:=j rfl;rw[if_pos (.inl rfl)];exact⟨h1,f,λ_=>Ω,λh=>by cases h⟩
 |false=>
  have:=m rfl;by_cases e:461168601842738790<n
  .rw[if_pos (.inr e),decide_eq_true e];exact⟨h1,f,λ_=>Ω,λh=>by cases h⟩
  .rw[if_neg (by simp[e]),decide_eq_false e];exact⟨Ω,Ω,(λh=>by cases h),λ_=>Ω⟩
theorem I9:mj 0 false 0:=by unfold mj aw;exact⟨Ω,Ω,(λh=>by cases h),λ_=>Ω⟩
theorem Ja {n v:Int} {a:Bool} (h:mj n a v):v=if a=true\/4611686018427387904<n then 4611686018427387904 else n:=by
 obtain⟨h1,m,f,j⟩:=h;unfold aw at*;cases a with
 |true=>rw[if_pos (.inl rfl)];exact f rfl
 |false=>
  have:=j rfl;by_cases e:4611686018427387904<n
  .rw[if_pos (.inr e)];omega
  .rw[if_neg (by simp[e])];omega
structure Cell where
 v:Int
 st:Nat
structure kQ where
 i:Nat
 c:Cell
structure r3 where
 olds:Nat
 cells:Nat
 st:Nat
structure aB where
 cells:List Cell
 olds:List kQ
 marks:List r3
 iq:Nat
def aB.bP (t:aB):Λ:=t.cells.map (·.v)
def aB.set (t:aB) (i:Nat) (x:Int):aB:=match t.cells[i]? with
 |none=>t
 |some c=>match t.marks.getLast? with
  |none=>{t with cells:=t.cells.set i ⟨x,c.st⟩}
  |some m=>if c.st<m.st/\i<m.cells then {t with olds:=t.olds++[⟨i,c⟩],cells:=t.cells.set i ⟨x,m.st⟩} else {t with cells:=t.cells.set i ⟨x,c.st⟩}
def aB.grow (t:aB) (n:Nat):aB:={t with cells:=t.cells++r9 n ⟨0,0⟩}
def back (os:List kQ) (cs:List Cell):List Cell:=os.foldr (λo cs=>cs.set o.i o.c) cs
theorem pZ:∀ (os:List kQ) (cs:List Cell),(back os cs).length=cs.length
 |[],_=>rfl
 |o::os,cs=>by
  have:=pZ os cs;show ((back os cs).set o.i o.c).length=_;rw[Z2,this]
theorem back_append (a b:List kQ) (cs:List Cell):back (a++b) cs=back a (back b cs):=by unfold back;rw[List.foldr_append]
theorem ve:∀ {os:List kQ} {cs:List Cell} {n:Nat},(back os cs).take n=back (os.filter λo=>decide (o.i<n)) (cs.take n)
 |[],cs,n=>rfl
 |o::os,cs,n=>by
  show ((back os cs).set o.i o.c).take n=_;by_cases h:o.i<n
  .rw[List.filter_cons_of_pos (by simpa using h),List.take_set,ve];rfl
  .rw[List.filter_cons_of_neg (by simpa using h),List.take_set_of_le Ω,ve]
theorem z7 {os:List kQ} {cs:List Cell} (h:∀o∈os,o.i<n):(back os cs).take n=back os (cs.take n):=by
 rw[ve,List.filter_eq_self.2 λo a=>by simpa using h o a]
theorem z8:∀ {os:List kQ} {cs a:List Cell} {i:Nat},cs.length=a.length->(∃o∈os,o.i=i)->(back os cs)[i]? =(back os a)[i]?
 |[],_,_,_,_,⟨_,h,_⟩=>by cases h
 |o::os,cs,a,i,e,hm=>by
  show ((back os cs).set o.i o.c)[i]? =((back os a).set o.i o.c)[i]?;rw[Y3,Y3];by_cases h:o.i=i
  .rw[if_pos h,if_pos h,pZ,pZ,e]
  .rw[if_neg h,if_neg h];obtain⟨x,I,he⟩:=hm;rcases W9.1 I with rfl|I
   .exact absurd he h
   .exact z8 e ⟨x,I,he⟩
theorem Aa:∀ {os:List kQ} {cs a:List Cell} {i:Nat},cs[i]? =a[i]? ->cs.length=a.length->(back os cs)[i]? =(back os a)[i]?
 |[],_,_,_,h,_=>h
 |o::os,cs,a,i,h,e=>by
  show ((back os cs).set o.i o.c)[i]? =((back os a).set o.i o.c)[i]?;rw[Y3,Y3,pZ,pZ,e,Aa h e]
def ee:aB->List aB->Prop
 |t,[]=>t.marks=[]/\t.olds=[]/\ ∀c∈t.cells,c.st<=t.iq
 |t,s::h=>ee s h/\(∀c∈t.cells,c.st<=t.iq)/\ ∃m new,t.marks=s.marks++[m]/\m.olds=s.olds.length/\m.cells=s.cells.length/\t.olds=s.olds++new/\m.cells<=t.cells.length/\(back new t.cells).take m.cells=s.cells/\
   (∀c∈s.cells,c.st<m.st)/\(∀c∈t.cells,c.st<=m.st)/\(∀ (i:Nat) c,i<m.cells->t.cells[i]? =σ c->c.st=m.st-> ∃o∈new,o.i=i)/\(∀o∈new,o.i<m.cells)/\m.st<=t.iq/\s.iq<=t.iq
theorem ee.grow {h:List aB} {t:aB} (hk:ee t h):ee (t.grow n) h:=by
 cases h with
 |nil=>
  refine⟨hk.1,hk.2.1,λc a=>?_⟩;rcases o7.1 a with a|a
  .exact hk.2.2 c a
  .rw[(List.mem_replicate.1 a).2];exact X3 _
 |cons s h=>
  obtain⟨h1,j,m,new,p,q,a3,a4,a5,r,w,x,a9,e,y,z⟩:=hk;have f:∀ {b:Nat},(∀c∈t.cells,c.st<=b)-> ∀c∈(t.grow n).cells,c.st<=b:=λA c a=>by
   rcases o7.1 a with a|a
   .exact A c a
   .rw[(List.mem_replicate.1 a).2];exact X3 _
  refine⟨h1,f j,m,new,p,q,a3,a4,by show m.cells<=(t.cells++_).length;rw[p9];omega,?_,w,f x,λi c hi a he=>?_,e,y,z⟩
  .show (back new (t.cells++_)).take m.cells=_;rw[z7 e,List.take_append_of_le_length a5,<-z7 e];exact r
  .have a:(t.cells++r9 n ⟨0,0⟩)[i]? =σ c:=a;rw[Y1 Ω] at a;exact a9 i c hi a he
theorem Jb {s:aB} {m:r3} {l:List r3} (h:l=s.marks++[m]):l.getLast? =σ m:=by rw[h,List.getLast?_concat]
theorem ee.set {h:List aB} {t:aB} {i:Nat} {x:Int} (hk:ee t h):ee (t.set i x) h:=by
 unfold aB.set;cases q:t.cells[i]? with
 |none=>exact hk
 |some c=>
  have F:=(x4.1 q).1;have y:=x5 q;have r:∀ {b st:Nat},(∀c∈t.cells,c.st<=b)->st<=b-> ∀d∈t.cells.set i ⟨x,st⟩,d.st<=b:=λM B d a=>by
   rcases X6 a with a|rfl
   .exact M d a
   .exact B
  cases h with
  |nil=>
   obtain⟨h1,w,G⟩:=hk;simp only[h1,List.getLast?_nil];exact⟨rfl,w,r G (G c y)⟩
  |cons s h=>
   obtain⟨h1,w,m,new,C,H,a3,a4,a5,I,J,z,a9,K,E,L⟩:=hk;simp only[Jb C];by_cases A:c.st<m.st/\i<m.cells
   .rw[if_pos A];refine⟨h1,r w E,m,new++[⟨i,c⟩],C,H,a3,by show t.olds++_=_;rw[a4,T0],by show m.cells<=(t.cells.set i _).length;rw[Z2];exact a5,?_,J,r z (p8 _),λj d e a he=>?_,λo p=>?_,E,L⟩
    .show (back (new++[⟨i,c⟩]) (t.cells.set i _)).take m.cells=_;rw[back_append];have:back [⟨i,c⟩] (t.cells.set i ⟨x,m.st⟩)=t.cells:=by
      show (t.cells.set i _).set i c=_;rw[List.set_set];refine Y6 λj=>?_;rw[Y3];by_cases e:i=j
      .subst e;rw[if_pos rfl,if_pos F,q]
      .rw[if_neg e]
     rw[this];exact I
    .have a:(t.cells.set i ⟨x,m.st⟩)[j]? =σ d:=a;by_cases f:i=j
     .exact⟨⟨i,c⟩,Ξ,f⟩
     .rw[Y3,if_neg f] at a;obtain⟨o,p,he⟩:=a9 j d e a he;exact⟨o,List.mem_append_left _ p,he⟩
    .rcases o7.1 p with p|p
     .exact K o p
     .rw[o9.1 p];exact A.2
   .rw[if_neg A];refine⟨h1,r w (w c y),m,new,C,H,a3,a4,by show m.cells<=(t.cells.set i _).length;rw[Z2];exact a5,?_,J,r z (z c y),λj d e a he=>?_,K,E,L⟩
    .rw[<-I];show (back new (t.cells.set i _)).take m.cells=_;refine Y6 λj=>?_;by_cases e:j<m.cells
     .rw[Z7 e,Z7 e];by_cases f:i=j
      .subst f;have B:c.st=m.st:=by
        have:=z c y;have:¬c.st<m.st:=λaG=>A ⟨aG,e⟩;omega
       exact z8 (by rw[Z2]) (a9 i c e q B)
      .exact Aa (by rw[Y3,if_neg f]) (by rw[Z2])
     .rw[Z6 (by rw[l9];omega),Z6 (by rw[l9];omega)]
    .have a:(t.cells.set i ⟨x,c.st⟩)[j]? =σ d:=a;by_cases f:i=j
     .subst f;rw[Y3,if_pos rfl,if_pos F] at a;cases a;exact a9 i c e q he
     .rw[Y3,if_neg f] at a;exact a9 j d e a he
theorem aB.p0 {t:aB} {i:Nat} {x:Int}:(t.set i x).bP=t.bP.set i x:=by
 unfold aB.set aB.bP;cases a:t.cells[i]? with
 |none=>rw[List.set_eq_of_length_le (by rw[u7];exact List.getElem?_eq_none_iff.1 a)]
 |some c=>
  simp only;cases t.marks.getLast? with
  |none=>simp only;rw[V7]
  |some m=>simp only;split<;>rw[V7]
theorem aB.Jc {t:aB}:(t.grow n).bP=t.bP++r9 n 0:=by
 unfold aB.grow aB.bP;rw[b6,List.map_replicate]
end Go.Proofs.YtmgflbkdggdhoaaGreatDoor
