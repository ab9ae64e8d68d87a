/- own texts, made small by a tool (wip/ holds them as they were written): no statement of the seat. -/
import Derived.RangeFuncNested
import Derived.RangeFuncLeaves
import Derived.OrdersIn
import Derived.KernelRfl
import Derived.Deep.Upon
import Derived.RangeFuncBound
import Derived.Deep.MidRow
import Derived.Laws.Cover3
import Derived.Laws.Pointers
import Derived.Laws.StructEq
import Derived.Laws.Tables
import Derived.Below
import Derived.Laws.MakeOwn
import Derived.Lib.Overlaps
import Derived.Lib.AppendZerosOnto
import Derived.Lib.SliceRun
import Derived.OpenShut
import Derived.Lib.ConvBytes
import Derived.Laws.BytesArg
import Derived.Laws.Concat
import Derived.MapKept
import Derived.Carry
import Derived.WideKeyArr
import Derived.WideKeyMaps
import Derived.Laws.IdiomRangeMap
import Derived.Shelf.SlSortCmp.NoneTotal
import Derived.Shelf.SlSortCmp.WholeK
import Derived.Ground.SlsfProg
import Derived.WideKeyEntry
import Derived.WalkKit
import Derived.Test.YthjegppepbbojaaGreatDoorProg
import Derived.Test.YthjegppepbbojaaGreatDoorChecked
set_option linter.unusedVariables false
set_option linter.unusedSimpArgs false
set_option linter.unnecessarySimpa false
open Array renaming getElem?_eq_some_iff→o7,getElem?_toList→U5
open BitVec renaming ofInt→V9
open Bool renaming not_true→Y0,not_false→Y9,eq_iff_iff→X8,and_eq_true→W0,or_eq_false_iff→U3
open Decidable renaming not_not→Z6
open Go renaming Value→y0,World→x1,TypeId→u9,IntKind→o4,Builtin→l6,Program→Y3,Oper→W9,Operand→U1
open Go.Addr renaming add_mid→W7
open Go.Builtin renaming append_→l9,len_→Y4
open Go.Instr renaming loadAt→x6,fieldAt→x8,storeAt→n0,indexAt→j9,extract→c9,buildSlice→b6,sliceAt→X4
open Go.IntKind renaming i64→X5,u64→W6
open Go.Proofs.Tryz renaming prog→x5
open Go.Result renaming andThen→Z9
open Go.Sem renaming run_bind→Z8,run_pure→Y5
open Go.Sort renaming Holds→U2
open Go.Value renaming int→X0
open Int renaming toNat_natCast→j6
open List renaming mem_of_getElem?→x2,getElem?_eq_some_iff→x3,getElem?_eq_getElem→x4,getElem?_map→x7,getD_eq_getElem?_getD→u4,take_add_one→u5,replicate→u6,length_append→u7,length_map→r8,mem_append→p8,mem_singleton→p9,take_length→o5,length_take→o6,mem_map→o8,eq_nil_of_length_eq_zero→o9,length_cons→n9,map_append→j4,getElem?_take_of_lt→c7,getElem?_eq_none→c8,take_of_length_le→Z0,range→Z1,getElem?_append_left→Z4,getElem?_append_right→Z7,drop_eq_getElem_cons→Y1,append_assoc→Y2,getElem?_set→Y6,ext_getElem?→Y7,append_nil→Y8,mem_iff_getElem?→X1,pairwise_iff_getElem→X6,length_set→X7,mem_or_eq_of_mem_set→W3,flatMap_cons→V1,length→V3,length_singleton→V5,length_eq_one_iff→V7,getElem?_set_self→V8,mem_cons→U4,getElem_mem→U6
open Nat renaming le_refl→r9,le_trans→Z3,zero_le→Z5,mul_le_mul_right→X2,sub_self→X9,add_mul→W8,zero_add→V0,mul_one→V2,beq→V6
open Option renaming some→l5,toList_some→j5,map_some→c5,isNone_some→c6,map_eq_some_iff→Z2,map→X3,getD_some→V4
open Option.some renaming injEq→b8,inj→b9
open Prod renaming mk→U7
open Prod.mk renaming injEq→W5
variable {a y:Int}{c w w':x1}{S:Nat→Prop}{E h j m n o:Nat}{J ac sv v z:y0}{args cs vs xs:List y0}{K:y0→Prop}{ai l:List Int}{D:List Nat}{k:o4}{e t:u9}{cx cy:Bool}
namespace Go.Vc
open Go Go.RowKit
def eK:Obj→Bool
 | .loop _=>false
 | .deferred _=>false
 | .mapIter ..=>false
 |_=>true
def book:Obj→Bool
 | .loop _=>true
 | .deferred _=>true
 |_=>false
theorem Az {o:Obj} (h:book o=true):eK o=false:=by cases o <;> first|rfl|cases h
def oF:Obj→Bool
 | .mapIter ..=>true
 |_=>false
theorem AA {o:Obj} (h:oF o=true):eK o=false:=by cases o <;> first|rfl|cases h
structure Ext (w w':x1):Prop where
 size:w.heap.size≤w'.heap.size
 aX:∀ (r:Nat) (o:Obj),w.heap[r]? =some o→eK o=true→w'.heap[r]? =some o
theorem Ext.refl (w:x1):Ext w w:=⟨r9 _,fun _ _ h _=>h⟩
theorem Ext.trans {a b:x1} (h:Ext a b) (k:Ext b c):Ext a c:=
 ⟨Z3 h.size k.size,fun r o J E=>k.aX r o (h.aX r o J E) E⟩
structure ad (S:Nat→Prop) (w w':x1):Prop where
 size:w.heap.size≤w'.heap.size
 aX:∀ (r:Nat) (o:Obj),w.heap[r]? =some o→eK o=true→¬S r→w'.heap[r]? =some o
theorem Ext.U (S:Nat→Prop) (h:Ext w w'):ad S w w':=⟨h.size,fun r o E J _=>h.aX r o E J⟩
theorem ad.ext (h:ad S w w') (J:∀ r,r<w.heap.size→¬S r):Ext w w':=
 ⟨h.size,fun r o E O=>h.aX r o E O (J r (o7.1 E).1)⟩
theorem ad.refl (S:Nat→Prop) (w:x1):ad S w w:=⟨r9 _,fun _ _ h _ _=>h⟩
theorem ad.trans {a b:x1} (h:ad S a b) (k:ad S b c):ad S a c:=
 ⟨Z3 h.size k.size,fun r o O E J=>k.aX r o (h.aX r o O E J) E J⟩
theorem ad.mono {T:Nat→Prop} {a b:x1} (h:ad S a b) (J:∀ r,r<a.heap.size→S r→T r):ad T a b:=
 ⟨h.size,fun r o E O U=>h.aX r o E O fun V=>U (J r (o7.1 E).1 V)⟩
theorem Ext.then {a b:x1} (h:Ext a b) (k:ad S b c) (O:∀ r,r<a.heap.size→¬S r):Ext a c:=
 ⟨Z3 h.size k.size,fun r o E J=>k.aX r o (h.aX r o E J) J (O r (o7.1 E).1)⟩
def h8 (w w':x1):Prop:=w'.tape=w.tape∧w.drawn≤w'.drawn
theorem h8.iI (h:w'.tape=w.tape:=by rfl) (k:w'.drawn=w.drawn:=by rfl):h8 w w':=⟨h,Nat.le_of_eq k.symm⟩
theorem h8.trans {a b:x1} (k:h8 b c) (h:h8 a b):h8 a c:=⟨k.1.trans h.1,Z3 h.2 k.2⟩
structure cm (w w':x1):Prop where
 os:w'.os=w.os
 tape:h8 w w'
 output:w'.output=w.output
 size:w.heap.size≤w'.heap.size
 aX:∀ (r:Nat) (o:Obj),w.heap[r]? =some o→eK o=false→w'.heap[r]? =some o
structure bN (n:Nat) (w w':x1):Prop where
 os:w'.os=w.os
 tape:h8 w w'
 output:w'.output=w.output
 size:w.heap.size≤w'.heap.size
 aX:∀ (r:Nat) (o:Obj),w.heap[r]? =some o→book o=true→w'.heap[r]? =some o
 old:∀ (r:Nat) (o:Obj),r<n→w.heap[r]? =some o→eK o=false→w'.heap[r]? =some o
theorem cm.b (h:cm w w'):bN n w w':=⟨h.os,h.tape,h.output,h.size,fun r o E J=>h.aX r o E (Az J),fun r o _ E J=>h.aX r o E J⟩
theorem bN.refl (n:Nat) (w:x1):bN n w w:=⟨rfl,.iI,rfl,r9 _,fun _ _ h _=>h,fun _ _ _ h _=>h⟩
theorem bN.trans {a b:x1} (h:bN n a b) (k:bN n b c):bN n a c:=
 ⟨k.os.trans h.os,k.tape.trans h.tape,k.output.trans h.output,Z3 h.size k.size,fun r o J E=>k.aX r o (h.aX r o J E) E,fun r o O J E=>k.old r o O (h.old r o O J E) E⟩
theorem bN.step {a b:x1} (h:bN n a b) (k:bN m b c) (hm:a.heap.size≤m):bN n a c:=
 ⟨k.os.trans h.os,k.tape.trans h.tape,k.output.trans h.output,Z3 h.size k.size,fun r o J E=>k.aX r o (h.aX r o J E) E,
  fun r o O J E=>k.old r o (Nat.lt_of_lt_of_le (o7.1 J).1 hm) (h.old r o O J E) E⟩
theorem bN.cD (h:bN n w w') (J:w.heap.size≤n):cm w w':=
 ⟨h.os,h.tape,h.output,h.size,fun r o E O=>h.old r o (Nat.lt_of_lt_of_le (o7.1 E).1 J) E O⟩
def dR (w w':x1):Prop:=∀ (r:Nat) (o:Obj),w.heap[r]? =some o→oF o=true→w'.heap[r]? =some o
theorem dR.refl (w:x1):dR w w:=fun _ _ h _=>h
theorem dR.trans {a b:x1} (h:dR a b) (k:dR b c):dR a c:=fun r o J E=>k r o (h r o J E) E
theorem cm.j1 (h:cm w w'):dR w w':=fun r o E J=>h.aX r o E (AA J)
abbrev ev:=Bool×Nat
theorem cm.refl (w:x1):cm w w:=⟨rfl,.iI,rfl,r9 _,fun _ _ h _=>h⟩
theorem cm.trans {a b:x1} (h:cm a b) (k:cm b c):cm a c:=
 ⟨k.os.trans h.os,k.tape.trans h.tape,k.output.trans h.output,Z3 h.size k.size,fun r o J E=>k.aX r o (h.aX r o J E) E⟩
theorem oG (w:x1) (n:Nat):Ext w {w with drawn:=n}:=⟨r9 _,fun _ _ h _=>h⟩
theorem nb (w:x1) (n:Nat) (h:w.drawn≤n):cm w {w with drawn:=n}:=⟨rfl,⟨rfl,h⟩,rfl,r9 _,fun _ _ h _=>h⟩
theorem nc (w:x1) (o:Obj):Ext w {w with heap:=w.heap.push o}:=
 ⟨by simp,fun r o' h _=>by
  have E:=(o7.1 h).1;simp only[Array.getElem?_push];rw[if_neg (by omega)];exact h⟩
theorem ne (w:x1) (o:Obj):cm w {w with heap:=w.heap.push o}:=
 ⟨rfl,.iI,rfl,by simp,fun r o' h _=>by
  have E:=(o7.1 h).1;simp only[Array.getElem?_push];rw[if_neg (by omega)];exact h⟩
inductive dw where
 |v (x:y0)
 |b (c:Bool)
 |u
def dw.val:dw→y0
 | .v x=>x
 | .b c=>.bool c
 | .u=>undef
def dw.ofConst:y0→dw
 | .bool c=>.b c
 |x=>.v x
theorem dw.AB (x:y0):(dw.ofConst x).val=x:=by cases x <;> rfl
abbrev Env:=List (Nat×dw)
def look:Env→Nat→Option dw
 |[],_=>none
 |(s,x)::r,t=>bif V6 s t then some x else look r t
def dE (e:Env):U1→Option dw
 | .tmp t=>look e t
 | .const x=>some (dw.ofConst x)
 | .global g=>some (.v (.pointer (some ⟨g,0,none⟩)))
 | .func f=>some (.v (.func (.func f) #[] #[]))
def ce (e:Env) (x:U1):y0:=
 match dE e x with
 |some y=>y.val
 |none=>undef
def known (e:Env):List U1→Bool
 |[]=>true
 |x::r=>(dE e x).isSome&&known e r
def U2 (N:Nat) (e:Env) (a:Act):Prop:=
 a.tmps.size=N∧ ∀ t x,look e t=some x→a.tmps.getD t undef=x.val
theorem U2.dE {N:Nat} {e:Env} {a:Act} (h:U2 N e a) {x:U1} {y:dw} (J:Vc.dE e x=some y):a.eval x=y.val:=by
 cases x with
 |tmp t=>exact h.2 t y J
 |const v=>simp[Vc.dE] at J;subst J;simp[Act.eval,dw.AB]
 |global g=>simp[Vc.dE] at J;subst J;rfl
 |func f=>simp[Vc.dE] at J;subst J;rfl
theorem U2.eval {N:Nat} {e:Env} {a:Act} (h:U2 N e a) {x:U1} (J:(Vc.dE e x).isSome=true):a.eval x=ce e x:=by
 obtain⟨y,E⟩:=Option.isSome_iff_exists.1 J;rw[h.dE E];simp[ce,E]
theorem qX {e:Env}:∀ {l:List U1},known e l=true→ ∀ x∈l,(dE e x).isSome=true
 |[],_,_,J=>by cases J
 |y::r,h,x,J=>by
  simp only[known,W0] at h;cases J with
  |head=>exact h.1
  |tail _ J=>exact qX h.2 x J
def dg (e:Env) (d:Option Tmp) (x:dw):Env:=
 match d with
 |some t=>(t,x)::e
 |none=>e
def hF (N:Nat) (d:Option Tmp):Bool:=
 match d with
 |some t=>Nat.blt t N
 |none=>true
theorem U2.put {N:Nat} {e:Env} {a:Act} (h:U2 N e a) {d:Option Tmp} (U:hF N d=true) {x:dw} (ac:x.val=v):
  U2 N (dg e d x) (a.put d v):=by
 cases d with
 |none=>exact h
 |some t=>
  have V:t<N:=by simpa[hF,Nat.blt_eq] using U
  refine⟨by simp[Act.put,h.1],fun s y E=>?_⟩;simp only[dg,look] at E;cases J:V6 t s with
  |true=>
   have O:t=s:=Nat.eq_of_beq_eq_true J;subst O;simp only[J,cond_true,b8] at E;subst E;simp[Act.put,h.1,V,ac]
  |false=>
   have O:t≠s:=Nat.ne_of_beq_eq_false J;simp only[J,cond_false] at E;have:=h.2 s y E;simp only[Act.put,Array.getD_eq_getD_getElem?] at this ⊢;rw[Array.getElem?_setIfInBounds_ne O];exact this
def dt (r:Option Nat):Fence:={Fence.wide with round:=r}
theorem qY (r:Option Nat) (n:Nat):(dt r).depth.isSome=true→1≤n:=fun h=>by simp[dt,Fence.wide] at h
theorem tQ {r:Option Nat} {P:Y3} {f:FuncId} {args:Array y0} {R:Ending→x1→Prop}
  (h:Calls P f args w R):CallsIn (dt r) n P f args w R:=by
 have:=(callsIn_wide (n:=n)).2 h;exact this
section
variable (P:Y3)
def aw {α:Type} (s:Sem α) (w:x1) (K:α→x1→Prop):Prop:=∃ v w',s.run P w= .ok v w'∧cm w w'∧K v w'
def oH {α:Type} (free:ev) (s:Sem α) (w:x1) (K:α→x1→Prop):Prop:=∃ v w',s.run P w= .ok v w'∧(free.1=false→bN free.2 w w')∧K v w'
def Split (x:y0) (A B:Prop):Prop:=∃ c,x= .bool c∧(c=true→A)∧(c=false→B)
def aJ:Bool→U1
 |true=>.const (.bool true)
 |false=>.tmp 0
def lN:U1→Bool
 | .const _=>true
 |_=>false
theorem AC (op:BinOp) (t:u9) (x y:U1) (a b:y0):eqGuard op t x y a b=eqGuard op t (aJ (lN x)) (aJ (lN y)) a b:=by
 cases x <;> cases y <;> rfl
def ax (op:BinOp) (t:u9) (cx cy:Bool) (a b:y0):Sem y0:=do eqGuard op t (aJ cx) (aJ cy) a b;binOp op t a b
def oI (s:Sem Next):Sem y0:=do
 match ←s with
 | .value v=>pure v
 |_=>stuck "no value"
def bl (x:y0):Sem y0:=oI (execOp (fun _=>x) {dst:=none,op:=.nilCheck (.tmp 0),type:=0,pos:= "",after:=#[],guard:=none})
def bH (E:U1→y0):List U1→List y0
 |[]=>[]
 |x::r=>E x::bH E r
theorem oJ (E:U1→y0):∀ l,bH E l=l.map E
 |[]=>rfl
 |x::r=>by simp[bH,oJ E r]
theorem qZ (E:U1→y0) (l:Array U1):(bH E l.toList).toArray=l.map E:=by
 apply Array.toList_inj.1;simp[oJ]
def partsOf (E:U1→y0):List (Nat×U1)→List (Nat×y0)
 |[]=>[]
 |x::r=>(x.1,E x.2)::partsOf E r
theorem tR (E:U1→y0):∀ l,partsOf E l=l.map fun(i,x)=>(i,E x)
 |[]=>rfl
 |x::r=>by simp[partsOf,tR E r]
theorem AD (E:U1→y0) (l:Array (Nat×U1)):(partsOf E l.toList).toArray=l.map fun(i,x)=>(i,E x):=by
 apply Array.toList_inj.1;simp[tR]
def opsOf:Op→List U1
 | .alloc _| .ready _| .waits _=>[]
 | .move x| .assign x| .box _ x| .load _ x| .nilCheck x| .unOp _ _ x| .convert _ _ x| .sliceToArrayPointer _ x| .makeInterface _ x
 | .makeChan _ x| .fieldAddr _ x _| .field _ x _| .range _ x| .next x _| .entry x| .typeAssert x _ _ _| .extract x _| .panic x| .recv _ x _=>[x]
 | .pick c a b=>[c,a,b]
 | .build _ E| .buildSlice _ _ E=>E.toList.map (·.2)
 | .store _ a v| .binOp _ _ a v _| .makeSlice _ a v| .indexAddr _ a v| .index _ a v| .lookup _ a v _| .mapEntry _ a v| .send a v=>[a,v]
 | .makeFunc _ first J=>first.toList++J.toList
 | .makeMap _ r=>match r with
  |some x=>[x]
  |none=>[]
 | .slice _ x l h m=>x::((match l with
  |some y=>[y]
  |none=>[])++((match h with
  |some y=>[y]
  |none=>[])++(match m with
  |some y=>[y]
  |none=>[])))
 | .mapUpdate _ m k v| .entryStore _ m k v| .insert _ m k v=>[m,k,v]
 | .call c=>match c.callee with
  | .value f=>f::c.args.toList
  | .invoke r _=>r::c.args.toList
  | .builtin _=>c.args.toList
 | .go _| .defer _| .select ..=>[]
theorem AE {op:Op} (h1:∀ c,op≠ .go c) (E:∀ c,op≠ .defer c) (O:∀ cs b,op≠ .select cs b):∀ x∈op.operands,x∈opsOf op:=by
 intro x J;cases op <;> simp only[Op.operands,opsOf] at J ⊢ <;> try (first|(simp at J;done)|(simp at J ⊢;exact J))
 case go c=>exact absurd rfl (h1 c)
 case defer c=>exact absurd rfl (E c)
 case select cs b=>exact absurd rfl (O cs b)
 case makeMap t r=>cases r <;> simp at J ⊢ <;> exact J
 case slice t y l h m=>cases l <;> cases h <;> cases m <;> simpa[or_assoc] using J
 case call c=>cases U:c.callee <;> simpa[Call.operands,U] using J
def nf (E:U1→y0):Op→Option (Sem y0)
 | .pick c a b=>some (do pure (if ←asBool (E c) then E a else E b))
 | .alloc U=>some (Instr.alloc U true (.tuple #[]))
 | .box U x=>some (Instr.box U (E x))
 | .build t parts=>some (Instr.build t (partsOf E parts.toList).toArray)
 | .buildSlice t len parts=>some (b6 t len (partsOf E parts.toList).toArray)
 | .load t a=>some (x6 t (E a))
 | .nilCheck x=>some (bl (E x))
 | .binOp op J x y _=>some (ax op J (lN x) (lN y) (E x) (E y))
 | .unOp op _ x=>some (Op.unary op (E x))
 | .convert src dst x=>some (convert src dst (E x))
 | .makeInterface J x=>some (Instr.makeInterface J (E x))
 | .makeFunc fn first V=>some (Instr.makeFunc fn (bH E first.toList).toArray (bH E V.toList).toArray)
 | .makeMap t r=>some (Instr.makeMap t (r.map E))
 | .makeSlice t l c=>some (Instr.makeSlice t (E l) (E c))
 | .slice t x lo hi mx=>some (X4 t (E x) (lo.map E) (hi.map E) (mx.map E))
 | .fieldAddr s x f=>some (x8 s (E x) f)
 | .field J x f=>some (Instr.field J (E x) f)
 | .indexAddr t x O=>some (j9 t (E x) (E O))
 | .index J x O=>some (Instr.index J (E x) (E O))
 | .lookup J x O ok=>some (Instr.lookup J (E x) (E O) ok)
 | .mapEntry t m k=>some (Instr.mapEntry t (E m) (E k))
 | .range J x=>some (Instr.range J (E x))
 | .entry W=>some (Instr.entry (E W))
 | .typeAssert x J X ok=>some (Instr.typeAssert (E x) J X ok)
 | .extract t O=>some (c9 (E t) O)
 |_=>none
def q0 (E:U1→y0):Op→Option (Sem Unit)
 | .store t a x=>some (n0 t (E a) (E x))
 | .mapUpdate t m k x=>some (Instr.mapUpdate t (E m) (E k) (E x))
 | .insert t m k x=>some (Instr.mapUpdate t (E m) (E k) (E x))
 | .entryStore t m s x=>some (Instr.entryStore t (E m) (E s) (E x))
 |_=>none
def lO (b:l6) (ats:Array u9) (E:u9) (args:Array y0):Option (Sem y0):=
 match b with
 | .append=>some (l9 ats E args)
 | .cap=>some (l6.cap_ ats E args)
 | .clear=>some (l6.clear_ ats E args)
 | .copy=>some (l6.copy_ ats E args)
 | .delete=>some (l6.delete_ ats E args)
 | .len=>some (Y4 ats E args)
 | .max=>some (l6.max_ ats E args)
 | .min=>some (l6.min_ ats E args)
 |_=>none
theorem AF {s:Sem Next} (h:(oI s).run P w= .ok v w'):s.run P w= .ok (.value v) w':=by
 unfold oI at h;rw[Z8] at h;cases E:s.run P w with
 |halt x J=>rw[E] at h;simp[Z9] at h
 |ok x J=>
  rw[E] at h;cases x <;> simp_all [Z9,stuck,Y5]
theorem AG (x:y0) (b:Bool) (t:u9):Instr.next x b 0=Instr.next x b t:=rfl
theorem q1 {O:U1→y0} {o:W9} {s:Sem y0} (h:nf O o.op=some s) (E:s.run P w= .ok v w'):
  (execOp O o).run P w= .ok (.value v) w':=by
 cases J:o.op with
 |nilCheck x=>
  rw[J] at h;cases h;have:=AF P E;unfold execOp at this ⊢;simpa[J] using this
 |pick c x y=>
  rw[J] at h;cases h;unfold execOp;simp only[J,Z8,Y5] at E ⊢;cases U:(asBool (O c)).run P w with
  |halt x V=>rw[U] at E;simp[Z9] at E
  |ok x V=>rw[U] at E;simp only[Z9,Result.ok.injEq] at E ⊢;simp[E]
 |binOp op W x y X=>
  rw[J] at h;cases h;unfold execOp;simp only[J];unfold ax at E;rw[←AC] at E;simp only[Z8,Y5] at E ⊢;rw[E];rfl
 |_=>
  rw[J] at h
  first
   |(cases h;done)
   |(cases h;simp only[qZ,AD] at E;unfold execOp;simp only[J,Z8,E,Z9,Y5])
   |(cases h;unfold execOp;simp only[J,Z8,E,Z9,Y5])
theorem AH {E:U1→y0} {o:W9} {s:Sem Unit} (h:q0 E o.op=some s) {v:Unit} (O:s.run P w= .ok v w'):
  (execOp E o).run P w= .ok .skip w':=by
 cases J:o.op with
 |_=>
  rw[J] at h
  first
   |(cases h;done)
   |(cases h;unfold execOp;simp only[J,Z8,O,Z9,Y5])
def Enters (f:FuncId):Prop:=∀ args w,(callFunc f args).run P w= .ok (.enter f args) w
inductive ag (f:FuncId) (args:List y0) (w:x1) (K:y0→x1→Prop):Prop
 |code (h1:Enters P f) (h2:Calls P f args.toArray w fun e w'=>∃ v,e= .returned v∧cm w w'∧K v w')
 |ext (v:y0) (w':x1) (h1:(callFunc f args.toArray).run P w= .ok (.value v) w') (h2:cm w w') (h3:K v w')
inductive fp (f:FuncId) (args:List y0) (w:x1) (K:y0→x1→Prop):Prop
 |code (h1:Enters P f) (h2:Calls P f args.toArray w fun e w'=>∃ v,e= .returned v∧K v w')
 |ext (v:y0) (w':x1) (h1:(callFunc f args.toArray).run P w= .ok (.value v) w') (h3:K v w')
theorem fp.calls {f:FuncId} {K:y0→x1→Prop} (h:fp P f args w K) (E:Enters P f):Calls P f args.toArray w fun e w'=>∃ v,e= .returned v∧K v w':=by
 cases h with
 |code _ h=>exact h
 |ext v w' h1=>rw[E] at h1;cases h1
def hG (l:Nat) (args:List y0) (w:x1) (K:y0→x1→Prop):Prop:=
 YieldAt Fence.wide 0 P l args.toArray w fun e w'=>∃ v,e= .returned v∧K v w'
theorem hG.mono {P:Y3} {l:Nat} {K E:y0→x1→Prop} (h:hG P l args w K) (J:∀ v w',K v w'→E v w'):hG P l args w E:=by
 obtain⟨fn,tmps,O,body,U,V⟩:=h;exact⟨fn,tmps,O,body,U,RoundIn.mono V fun _ w' ⟨v,h1,W⟩=>⟨v,h1,J v w' W⟩⟩
def oK (free:Bool) (f:y0) (args:List y0) (w:x1) (K:y0→x1→Prop):Prop:=
 match f with
 | .func (.func g) first cap=>bif free then fp P g (first.toList++args++cap.toList) w K else ag P g (first.toList++args++cap.toList) w K
 | .func (.yield l) first _=>bif free then free=true∧hG P l (first.toList++args) w K else hG P l (first.toList++args) w fun v w'=>cm w w'∧K v w'
 |_=>False
def O (s:Sem y0) (w:x1) (K:y0→Prop):Prop:=∃ v,(∀ w',Ext w w'→s.run P w'= .ok v w')∧K v
def AI:List (Nat×Nat):=[(9,22),(22,22)]
def AJ (s d:Nat):Bool:=AI.any fun p=>V6 p.1 s&&V6 p.2 d
def hd (o:W9):Bool:=
 match o.op with
 | .convert s d _=>!AJ s d
 | .move _| .assign _| .pick .. | .load .. | .nilCheck _| .binOp .. | .unOp .. | .makeInterface .. | .makeFunc .. | .slice .. | .fieldAddr .. | .field ..
 | .indexAddr .. | .index .. | .lookup .. | .extract .. | .build .. | .typeAssert ..=>true
 | .call c=>
  match c.callee with
  | .builtin .len| .builtin .cap| .builtin .min| .builtin .max=>true
  |_=>false
 |_=>false
def bR (s:Sem y0) (v:y0) (w':x1):Prop:=∀ E,Ext w' E→s.run P E= .ok v E
def jt (o:W9) (e:Env) (w:x1) (K:Env→(x1→Prop)→Prop):Prop:=
 bif known e (opsOf o.op) then
  match o.op with
  | .move x| .assign x=>
   match dE e x with
   |some y=>K (dg e o.dst y) (fun _=>True)
   |none=>False
  | .pick c a b=>
   match dE e c with
   |some (.b true)=>(match dE e a with|some y=>K (dg e o.dst y) (fun _=>True)|none=>False)
   |some (.b false)=>(match dE e b with|some y=>K (dg e o.dst y) (fun _=>True)|none=>False)
   |some (.v x)=>Split x (K (dg e o.dst (.v (ce e a))) (fun _=>True)) (K (dg e o.dst (.v (ce e b))) (fun _=>True))
   |some .u=>False
   |none=>False
  | .call c=>
   match c.callee with
   | .builtin b=>
    match lO b c.argTypes o.type (bH (ce e) c.args.toList).toArray with
    |some s=>O P s w fun v=>K (dg e o.dst (.v v)) (bR P s v)
    |none=>False
   |_=>False
  |op=>
   match nf (ce e) op with
   |some s=>O P s w fun v=>K (dg e o.dst (.v v)) (bR P s v)
   |none=>False
 else False
def q2 (free:ev) (o:W9) (e:Env) (w:x1) (K:Env→x1→Prop):Prop:=
 bif known e (opsOf o.op) then
  match o.op with
  | .call c=>
   match c.callee with
   | .builtin b=>
    match lO b c.argTypes o.type (bH (ce e) c.args.toList).toArray with
    |some s=>aw P s w fun v w'=>K (dg e o.dst (.v v)) w'
    |none=>False
   | .value (.func f)=>
    bif free.1 then fp P f (bH (ce e) c.args.toList) w fun v w'=>K (dg e o.dst (.v v)) w'
    else ag P f (bH (ce e) c.args.toList) w fun v w'=>K (dg e o.dst (.v v)) w'
   | .value x=>oK P free.1 (ce e x) (bH (ce e) c.args.toList) w fun v w'=>K (dg e o.dst (.v v)) w'
   | .invoke _ _=>False
  | .next x str=>oH P free (Instr.next (ce e x) str 0) w fun v w'=>K (dg e o.dst (.v v)) w'
  |op=>
   match nf (ce e) op with
   |some s=>aw P s w fun v w'=>K (dg e o.dst (.v v)) w'
   |none=>
    match q0 (ce e) op with
    |some s=>aw P s w fun _ w'=>K (dg e o.dst (.v undef)) w'
    |none=>False
 else False
def lP (free:ev) (o:W9) (e:Env) (w:x1) (K:Env→x1→Prop):Prop:=
 bif hd o then jt P o e w (fun E _=>K E w) else q2 P free o e w K
theorem Enters.of {f:FuncId} {fn:Func} {c:Code} (ae:P.funcs[f]? =some fn) (E:fn.body=some c) (J:(fn.name == "runtime.NumGoroutine")=false):Enters P f:=by
 intro args w;have O:fn.name≠ "runtime.NumGoroutine":=by simpa using J
 unfold callFunc;simp[Z8,program,Sem.run,Z9,ae,O,E,Y5]
variable {P}
variable {N:Nat} {r:Option Nat} {o:W9} {e:Env} {a:Act} {w:x1}
theorem h9 (O:U2 N e a) (U:known e (opsOf o.op)=true) (E:∀ cs b,o.op≠ .select cs b) (V:∀ c,o.op≠ .go c:=by simp_all) (W:∀ c,o.op≠ .defer c:=by simp_all):
  execOp a.eval o=execOp (ce e) o:=
 execOp_congr o E fun x J=>O.eval (qX U x (AE V W E x J))
theorem ng {next:Act→x1→Prop} {Q:Exit→Act→x1→Prop} (J:U2 N e a) (O:known e (opsOf o.op)=true) (U:∀ cs b,o.op≠ .select cs b)
  (E:∀ c,o.op≠ .defer c) {v:y0} {w':x1} (V:(execOp (ce e) o).run P w= .ok (.value v) w') (h:next (a.put o.dst v) w') (W:∀ c,o.op≠ .go c:=by simp_all):o.wpIn (dt r) 0 P a w next Q:=by
 refine⟨fun _ _=>trivial,?_⟩;rw[W9.semAt_eq _ _ _ E,h9 J O U W E,V,W9.uponIn_value];exact h
theorem AK {next:Act→x1→Prop} {Q:Exit→Act→x1→Prop} (J:U2 N e a) (O:known e (opsOf o.op)=true) (U:∀ cs b,o.op≠ .select cs b)
  (E:∀ c,o.op≠ .defer c) {w':x1} (V:(execOp (ce e) o).run P w= .ok .skip w') (h:next (a.put o.dst undef) w') (W:∀ c,o.op≠ .go c:=by simp_all):o.wpIn (dt r) 0 P a w next Q:=by
 refine⟨fun _ _=>trivial,?_⟩;rw[W9.semAt_eq _ _ _ E,h9 J O U W E,V,W9.uponIn_skip];exact h
def ef (N:Nat) (free:ev) (K:Env→x1→Prop) (o:W9) (a:Act) (w:x1) (a':Act) (w':x1):Prop:=
 ∃ E v,K E w'∧U2 N E a'∧a'=a.put o.dst v∧(free.1=false→bN free.2 w w')
theorem ef.of {free:ev} {K:Env→x1→Prop} {x:dw} (E:K (dg e o.dst x) w') (O:U2 N e a) (U:hF N o.dst=true) (J:x.val=v)
  (V:free.1=false→bN free.2 w w'):ef N free K o a w (a.put o.dst v) w':=⟨_,v,E,O.put U J,rfl,V⟩
theorem tS {free:ev} {K:Env→x1→Prop} {Q:Exit→Act→x1→Prop} {f:FuncId} {args:Array y0} (J:U2 N e a) (O:hF N o.dst=true)
  (h:Calls P f args w fun E w'=>∃ v,E= .returned v∧(free.1=false→bN free.2 w w')∧K (dg e o.dst (.v v)) w'):
  o.uponIn (dt r) 0 P a (ef N free K o a w) Q (.ok (.enter f args) w):=by
 rw[W9.uponIn_enter];refine⟨qY _ _,CallsIn.mono (tQ h) ?_⟩;rintro E w' ⟨v,rfl,U,V⟩;exact ef.of V J O rfl U
theorem ju {x:U1} {y:dw} (h:dE e x=some y):ce e x=y.val:=by simp[ce,h]
theorem tT {l:List U1} {x:U1} (E:known e l=true) (J:x∈l):∃ y,dE e x=some y:=Option.isSome_iff_exists.1 (qX E x J)
theorem tU {K:Env→(x1→Prop)→Prop} (h:jt P o e w K) (X:U2 N e a) (ah:hF N o.dst=true):
  ∃ v,∃ st:x1→Prop,(∀ w',Ext w w'→(execOp a.eval o).run P w'= .ok (.value v) w')∧(∃ Y,K Y st∧U2 N Y (a.put o.dst v))∧(∀ c,o.op≠ .defer c)∧
   (∀ w',st w'→ ∀ O,Ext w' O→(execOp a.eval o).run P O= .ok (.value v) O):=by
 unfold jt at h;cases W:known e (opsOf o.op) with
 |false=>rw[W] at h;exact h.elim
 |true=>
  rw[W] at h;simp only[cond_true] at h;have put:∀ {x:dw} {v:y0} {st:x1→Prop},K (dg e o.dst x) st→x.val=v→ ∃ Y,K Y st∧U2 N Y (a.put o.dst v):=fun h1 Z=>⟨_,h1,X.put ah Z⟩;cases E:o.op with
  |move x=>
   rw[E] at h;simp only at h;cases J:dE e x with
   |none=>rw[J] at h;exact h.elim
   |some y=>
    rw[J] at h;have all:∀ w':x1,(execOp a.eval o).run P w'= .ok (.value y.val) w':=fun w'=>by
     rw[h9 X W (by simp[E])];unfold execOp;simp only[E,Y5,ju J]
    exact⟨y.val,_,fun w' _=>all w',put h rfl,by simp,fun _ _ O _=>all O⟩
  |assign x=>
   rw[E] at h;simp only at h;cases J:dE e x with
   |none=>rw[J] at h;exact h.elim
   |some y=>
    rw[J] at h;have all:∀ w':x1,(execOp a.eval o).run P w'= .ok (.value y.val) w':=fun w'=>by
     rw[h9 X W (by simp[E])];unfold execOp;simp only[E,Y5,ju J]
    exact⟨y.val,_,fun w' _=>all w',put h rfl,by simp,fun _ _ O _=>all O⟩
  |pick c x y=>
   rw[E] at h;simp only at h;have ac:=W;rw[E] at ac;obtain⟨ak,J⟩:=tT ac (x:=x) (by simp[opsOf]);obtain⟨al,ag⟩:=tT ac (x:=y) (by simp[opsOf]);have aa:∀ (t:Bool) (w':x1),ce e c= .bool t→(execOp a.eval o).run P w'= .ok (.value (if t=true then ce e x else ce e y)) w':=by
    intro t w' ad;rw[h9 X W (by simp[E])];unfold execOp;simp[E,ad,asBool,Y5]
   cases U:dE e c with
   |none=>rw[U] at h;exact h.elim
   |some ai=>
    rw[U] at h;cases ai with
    |b t=>
     cases t with
     |true=>
      simp only[J] at h;exact⟨_,_,fun w' _=>aa true w' (ju U),put h (by simp[ju J]),by simp,fun _ _ w' _=>aa true w' (ju U)⟩
     |false=>
      simp only[ag] at h;exact⟨_,_,fun w' _=>aa false w' (ju U),put h (by simp[ju ag]),by simp,fun _ _ w' _=>aa false w' (ju U)⟩
    |v z=>
     obtain⟨t,aj,ad,ae⟩:=h;have V:=fun w'=>aa t w' (by rw[ju U];exact aj);cases t with
     |true=>exact⟨_,_,fun w' _=>V w',put (ad rfl) rfl,by simp,fun _ _ w' _=>V w'⟩
     |false=>exact⟨_,_,fun w' _=>V w',put (ae rfl) rfl,by simp,fun _ _ w' _=>V w'⟩
    |u=>exact h.elim
  |call c=>
   rw[E] at h;simp only at h;cases U:c.callee with
   |builtin b=>
    rw[U] at h;simp only at h;rw[qZ] at h;cases ab:lO b c.argTypes o.type (c.args.map (ce e)) with
    |none=>rw[ab] at h;exact h.elim
    |some s=>
     rw[ab] at h;obtain⟨v,V,af⟩:=h;have all:∀ w':x1,s.run P w'= .ok v w'→(execOp a.eval o).run P w'= .ok (.value v) w':=fun w' V=>by
      rw[h9 X W (by simp[E])];unfold execOp;cases b <;> simp only[lO] at ab <;> first|(cases ab;done)|(cases ab;simp[E,U,resolve,invoke,builtin,V,Z9])
     exact⟨v,_,fun w' hw=>all w' (V w' hw),put af rfl,by simp,fun w' h1 O Z=>all O (h1 O Z)⟩
   |value x=>rw[U] at h;exact h.elim
   |invoke x m=>rw[U] at h;exact h.elim
  |_=>
   rw[E] at h
   first
    |(simp only[nf] at h;done)
    |(obtain⟨v,V,af⟩:=h
      refine⟨v,_,fun w' hw=>?_,put af rfl,by simp,fun w' h1 O Z=>?_⟩
      ·rw[h9 X W (by simp[E])];exact q1 P (by rw[E];rfl) (V w' hw)
      ·rw[h9 X W (by simp[E])];exact q1 P (by rw[E];rfl) (h1 O Z))
theorem AL {free:ev} {K:Env→x1→Prop} {Q:Exit→Act→x1→Prop} (h:q2 P free o e w K) (J:U2 N e a) (Y:hF N o.dst=true):
  o.wpIn (dt r) 0 P a w (ef N free K o a w) Q:=by
 unfold q2 at h;cases O:known e (opsOf o.op) with
 |false=>rw[O] at h;exact h.elim
 |true=>
  rw[O] at h;simp only[cond_true] at h;cases E:o.op with
  |call c=>
   rw[E] at h;simp only at h;cases Z:c.callee with
   |builtin b=>
    rw[Z] at h;simp only at h;rw[qZ] at h;cases aa:lO b c.argTypes o.type (c.args.map (ce e)) with
    |none=>rw[aa] at h;exact h.elim
    |some s=>
     rw[aa] at h;obtain⟨v,w',U,W,X⟩:=h;refine ng J O (by simp[E]) (by simp[E]) (v:=v) (w':=w') ?_ (ef.of X J Y rfl fun _=>W.b);unfold execOp;cases b <;> simp only[lO] at aa <;> first|(cases aa;done)|(cases aa;simp[E,Z,resolve,invoke,builtin,U,Z9])
   |value x=>
    rw[Z] at h;have step:∀ (d:Deferred) (y:y0),ce e x=y→Deferred.ofValue y (c.args.map (ce e))=pure d→
      (invoke d.target d.args).run P w=(execOp (ce e) o).run P w:=by
     intro d y V ak;unfold execOp;simp only[E,Z,resolve,V,ak,Z8,Y5,Z9]
    have ad:∀ (g:FuncId) (first cap:Array y0),ce e x= .func (.func g) first cap→
      (execOp (ce e) o).run P w=(callFunc g (first.toList++bH (ce e) c.args.toList++cap.toList).toArray).run P w:=by
     intro g first cap V
     rw[←step {target:=.fn (.func g) cap,args:=first++c.args.map (ce e)} _ V rfl];simp only[invoke];have ae:first++c.args.map (ce e)++cap=(first.toList++bH (ce e) c.args.toList++cap.toList).toArray:=by apply Array.toList_inj.1;simp[oJ]
     rw[ae]
    have enter:∀ (g:FuncId) (first cap:Array y0),ce e x= .func (.func g) first cap→Enters P g→
      (execOp (ce e) o).run P w= .ok (.enter g (first.toList++bH (ce e) c.args.toList++cap.toList).toArray) w:=by
     intro g first cap V ab
     rw[ad g first cap V,ab]
    have go:∀ (g:FuncId) (first cap:Array y0),ce e x= .func (.func g) first cap→
      (bif free.1 then fp P g (first.toList++bH (ce e) c.args.toList++cap.toList) w fun v w'=>K (dg e o.dst (.v v)) w'
       else ag P g (first.toList++bH (ce e) c.args.toList++cap.toList) w fun v w'=>K (dg e o.dst (.v v)) w')→
      o.wpIn (dt r) 0 P a w (ef N free K o a w) Q:=by
     intro g first cap V h
     obtain⟨fr,al⟩:=free;cases fr with
     |true=>
      rcases h with⟨ab,af⟩|⟨v,w',U,X⟩
      ·refine⟨fun _ _=>trivial,?_⟩;rw[W9.semAt_eq _ _ _ (by simp[E]),h9 J O (by simp[E])];rw[enter g first cap V ab];exact tS J Y (af.mono fun ac w' ⟨v,h1,ah⟩=>⟨v,h1,(fun h=>by cases h),ah⟩)
      ·rw[←ad g first cap V] at U;exact ng J O (by simp[E]) (by simp[E]) U (ef.of X J Y rfl fun h=>by cases h)
     |false=>
      rcases h with⟨ab,af⟩|⟨v,w',U,W,X⟩
      ·refine⟨fun _ _=>trivial,?_⟩;rw[W9.semAt_eq _ _ _ (by simp[E]),h9 J O (by simp[E])];rw[enter g first cap V ab];exact tS J Y (af.mono fun ac w' ⟨v,h1,W,ah⟩=>⟨v,h1,fun _=>W.b,ah⟩)
      ·rw[←ad g first cap V] at U;exact ng J O (by simp[E]) (by simp[E]) U (ef.of X J Y rfl fun _=>W.b)
    have ai:oK P free.1 (ce e x) (bH (ce e) c.args.toList) w (fun v w'=>K (dg e o.dst (.v v)) w')→
      o.wpIn (dt r) 0 P a w (ef N free K o a w) Q:=by
     intro h;unfold oK at h;split at h
     ·rename_i g first cap V
      exact go g first cap V h
     ·rename_i l first cap V
      obtain⟨fn,tmps,aj,body,am,an⟩:hG P l (first.toList++bH (ce e) c.args.toList) w fun v w'=>(free.1=false→bN free.2 w w')∧K (dg e o.dst (.v v)) w':=by
       obtain⟨fr,al⟩:=free;cases fr with
       |true=>exact hG.mono h.2 fun v w' O=>⟨(fun h=>by cases h),O⟩
       |false=>exact hG.mono h fun v w' O=>⟨fun _=>O.1.b,O.2⟩
      refine⟨fun _ _=>trivial,?_⟩;rw[W9.semAt_eq _ _ _ (by simp[E]),h9 J O (by simp[E])];have:(execOp (ce e) o).run P w= .ok (.round l fn tmps aj body) w:=by
       rw[←step {target:=.fn (.yield l) cap,args:=first++c.args.map (ce e)} _ V rfl,←am];have ae:(first.toList++bH (ce e) c.args.toList).toArray=first++c.args.map (ce e):=by apply Array.toList_inj.1;simp[oJ]
       rw[ae];rfl
      rw[this,W9.uponIn_round];refine⟨qY _ _,?_⟩;have ao:RoundIn (dt r) (0-1) P l fn tmps aj body w fun ac w'=>∃ v,ac= .returned v∧(free.1=false→bN free.2 w w')∧K (dg e o.dst (.v v)) w':=an;refine RoundIn.mono ao ?_;rintro ac w' ⟨v,rfl,W,X⟩;exact ef.of X J Y rfl W
     ·exact h.elim
    cases x with
    |func f=>exact go f #[] #[] rfl (by simpa using h)
    |tmp t=>exact ai h
    |const v=>exact ai h
    |global g=>exact ai h
   |invoke x m=>rw[Z] at h;exact h.elim
  |next x str=>
   rw[E] at h;obtain⟨v,w',U,W,X⟩:=h;refine ng J O (by simp[E]) (by simp[E]) (v:=v) (w':=w') ?_ (ef.of X J Y rfl W);rw[AG _ _ o.type] at U;unfold execOp;simp only[E,Z8,U,Z9,Y5]
  |_=>
   rw[E] at h
   first
    |(simp only[nf,q0] at h;done)
    |(obtain⟨v,w',U,W,X⟩:=h
      exact ng J O (by simp[E]) (by simp[E]) (q1 P (by rw[E];rfl) U) (ef.of X J Y rfl fun _=>W.b))
    |(obtain⟨v,w',U,W,X⟩:=h
      exact AK J O (by simp[E]) (by simp[E]) (AH P (by rw[E];rfl) U) (ef.of X J Y rfl fun _=>W.b))
theorem oL {free:ev} {K:Env→x1→Prop} {Q:Exit→Act→x1→Prop} (h:lP P free o e w K) (J:U2 N e a) (O:hF N o.dst=true):
  o.wpIn (dt r) 0 P a w (ef N free K o a w) Q:=by
 unfold lP at h;cases U:hd o with
 |false=>rw[U] at h;exact AL h J O
 |true=>
  rw[U] at h;have h:jt P o e w (fun E _=>K E w):=h;obtain⟨v,st,V,⟨E,W,X⟩,Y,_⟩:=tU h J O;refine⟨fun _ _=>trivial,?_⟩;rw[W9.semAt_eq _ _ _ Y,V w (Ext.refl _),W9.uponIn_value];exact⟨E,v,W,X,rfl,fun _=>bN.refl _ _⟩
end
section
variable {P:Y3}
def Still {α:Type} (P:Y3) (s:Sem α):Prop:=∀ w v E,s.run P w= .ok v E→E=w∧ ∀ w',s.run P w'= .ok v w'
theorem Still.pure {α:Type} (a:α):Still P (Pure.pure a:Sem α):=fun w v E h=>by
 rw[Y5] at h;cases h;exact⟨rfl,fun w'=>by rw[Y5]⟩
theorem Still.bind {α β:Type} {s:Sem α} {f:α→Sem β} (J:Still P s) (ae:∀ a,Still P (f a)):Still P (s >>= f):=fun w v O h=>by
 rw[Z8] at h;cases E:s.run P w with
 |halt x V=>rw[E] at h;simp[Z9] at h
 |ok a V=>
  rw[E] at h;obtain⟨rfl,U⟩:=J w a V E;obtain⟨rfl,W⟩:=ae a _ v O h;exact⟨rfl,fun w'=>by rw[Z8,U w'];exact W w'⟩
theorem Still.never {α:Type} {s:Sem α} (h:∀ w v E,s.run P w≠ .ok v E):Still P s:=fun w v E h'=>absurd h' (h w v E)
theorem Still.stuck {α:Type} (m:String):Still P (stuck m:Sem α):=.never fun w v E h=>by simp[Go.stuck] at h
theorem Still.unsupported {α:Type} (m):Still P (unsupported m:Sem α):=.never fun w v E h=>by simp[Go.unsupported] at h
theorem Still.program:Still P program:=fun w v E h=>by cases h;exact⟨rfl,fun _=>rfl⟩
theorem Still.underlying (t:u9):Still P (underlying t):=Still.bind .program fun p=>by
 cases p.underlying t with
 |some d=>exact Still.pure d
 |none=>exact Still.stuck _
theorem Still.typeInfo (t:u9):Still P (typeInfo t):=Still.bind .program fun p=>by
 cases p.info? t with
 |some d=>exact Still.pure d
 |none=>exact Still.stuck _
theorem Still.sizeOf (t:u9):Still P (sizeOf t):=Still.bind (.typeInfo t) fun _=>Still.pure _
theorem Still.boundsPanic {α:Type} (k:o4) (x y:Int) (c:BoundsCode):Still P (boundsPanic k x y c:Sem α):=.never fun w v E h=>by
 have J:∀ (s:Sem Bool) (w:x1) (v:α) (E:x1),(s >>= fun b=>(runtimePanic (.bounds (X5.wrap x) y b c):Sem α)).run P w≠ .ok v E:=by
  intro s w v E h;rw[Z8] at h;cases O:s.run P w with
  |halt x V=>rw[O] at h;simp[Z9] at h
  |ok a V=>rw[O] at h;simp[Z9,Go.runtimePanic,Go.goPanic] at h
 unfold Go.boundsPanic at h;dsimp only at h;split at h
 ·exact J _ _ _ _ h
 ·exact J _ _ _ _ h
theorem Still.asIntOf (v:y0):Still P (asIntOf v):=by
 unfold Go.asIntOf;split
 ·exact Still.pure _
 ·exact Still.unsupported _
 ·exact Still.stuck _
theorem Still.sureAddr (v:y0):Still P (Instr.sureAddr v):=by
 unfold Instr.sureAddr;split
 ·exact Still.pure _
 ·exact Still.stuck _
theorem Still.extract (v:y0) (i:Nat):Still P (c9 v i):=by
 unfold c9;split
 ·split
  ·exact Still.pure _
  ·exact Still.stuck _
 ·exact Still.stuck _
theorem Still.indexAt (t:u9) (x i:y0):Still P (j9 t x i):=by
 have tail:∀ (t:u9) (k:o4) (i:Int) (base:Option Addr) (len:Nat) (E:u9),Still P (do
   let J:=len≤1&&(match ←Go.underlying t with| .array ..=>true|_=>false)
   match base with
   |some a=>
    if 0≤i∧i<len then Pure.pure (y0.pointer (some (a.add (i.toNat*(←Go.sizeOf E)))))
    else if J then Go.unsupported (.noEntry "op/indexAddr.an index out of range at an array of length 0 or 1 (ledger 616)")
    else Go.boundsPanic k i len .index
   |none=>Go.boundsPanic k i 0 .index):=by
  intro t k i base len E;refine .bind (.underlying t) fun d=>?_;cases base with
  |none=>exact Still.boundsPanic _ _ _ _
  |some a=>
   dsimp only;split
   ·exact .bind (.sizeOf E) fun _=>.pure _
   ·split <;> split <;> first|exact Still.unsupported _|exact Still.boundsPanic _ _ _ _
 unfold j9;refine .bind (.asIntOf i) fun O=>?_;refine .bind (.underlying t) fun d=>?_;split
 ·refine .bind (.sureAddr _) fun b=>?_;refine .bind (.pure _) fun y=>?_;exact tail _ _ _ _ _ _
 ·refine .bind (.pure _) fun y=>?_;exact tail _ _ _ _ _ _
 ·refine .bind (.stuck _) fun y=>?_;exact tail _ _ _ _ _ _
end
section
variable (P:Y3)
def oM (free:ev) (ops:Array W9) (o:W9) (e:Env) (w:x1) (K:Env→x1→Prop):Prop:=
 match o.guard with
 |none=>lP P free o e w K
 |some (j,b)=>
  match (ops[j]?).bind (·.dst) with
  |none=>False
  |some s=>
   match look e s with
   |some (.b c)=>bif xor c b then K (dg e o.dst .u) w else lP P free o e w K
   |some (.v x)=>
    Split x (bif b then lP P free o ((s,.b true)::e) w K else K (dg ((s,.b true)::e) o.dst .u) w)
     (bif b then K (dg ((s,.b false)::e) o.dst .u) w else lP P free o ((s,.b false)::e) w K)
   |some .u=>K (dg e o.dst .u) w
   |none=>False
def lQ (free:ev) (ops:Array W9):List W9→Env→x1→(Env→x1→Prop)→Prop
 |[],e,w,K=>K e w
 |o::l,e,w,K=>oM P free ops o e w fun E w'=>lQ free ops l E w' K
def q3 (ops:Array W9) (o:W9) (e:Env) (w:x1) (K:Env→(x1→Prop)→Prop):Prop:=
 match o.guard with
 |none=>jt P o e w K
 |some (j,b)=>
  match (ops[j]?).bind (·.dst) with
  |none=>False
  |some s=>
   match look e s with
   |some (.b c)=>bif xor c b then K (dg e o.dst .u) (fun _=>True) else jt P o e w K
   |some (.v x)=>
    Split x (bif b then jt P o ((s,.b true)::e) w K else K (dg ((s,.b true)::e) o.dst .u) (fun _=>True))
     (bif b then K (dg ((s,.b false)::e) o.dst .u) (fun _=>True) else jt P o ((s,.b false)::e) w K)
   |some .u=>K (dg e o.dst .u) (fun _=>True)
   |none=>False
def jv (o:W9):Bool:=
 match o.op with
 | .move _| .assign _| .extract .. | .indexAddr ..=>true
 |_=>false
def j2 (ops:Array W9):List Nat→Option Nat
 |[]=>none
 |i::r=>match ops[i]? with
  |some o=>bif hd o then some i else j2 ops r
  |none=>j2 ops r
def q4 (p:Nat→Prop):List Nat→Prop
 |[]=>True
 |[i]=>p i
 |i::r=>p i∧q4 p r
def iJ (bs:Array Nat) (j k:Nat):Bool:=!(V6 k j)&&(!((bs.getD j 0).testBit k)&& !((bs.getD k 0).testBit j))
def nh (same:Bool) (q:Nat) (w:x1) (st:x1→Prop) (E:List (x1×List (Nat×(x1→Prop)))):List (x1×List (Nat×(x1→Prop))):=
 match same,E with
 |true,g::r=>(g.1,(q,st)::g.2)::r
 |_,E=>(w,[(q,st)])::E
def ni (bs:Array Nat) (j:Nat):List (Nat×(x1→Prop))→Bool
 |[]=>false
 |x::r=>iJ bs j x.1||ni bs j r
def lR (bs:Array Nat) (j:Nat) (w':x1):List (Nat×(x1→Prop))→Prop
 |[]=>True
 |x::r=>bif iJ bs j x.1 then x.2 w'∧lR bs j w' r else lR bs j w' r
def kL (bs:Array Nat) (j:Nat) (w':x1) (C:Prop):List (x1×List (Nat×(x1→Prop)))→Prop
 |[]=>C
 |g::r=>bif ni bs j g.2 then (Ext g.1 w'∨lR bs j w' g.2)∧kL bs j w' C r else kL bs j w' C r
def j3 (free:ev) (ops:Array W9) (bs:Array Nat):Nat→Array Bool→Bool→List (x1×List (Nat×(x1→Prop)))→Env→x1→(Env→x1→Prop)→Prop
 |0,E,_,_,e,w,K=>match Region.ready .any ops E with|[]=>K e w|_=>False
 |fuel+1,E,same,J,e,w,K=>
  match Region.ready .any ops E with
  |[]=>K e w
  |i::r=>
   match j2 ops (i::r) with
   |some q=>
    bif Region.free .any ops E q then
     match ops[q]? with
     |some o=>q3 P ops o e w fun O st=>
       bif jv o then j3 free ops bs fuel (E.setIfInBounds q true) same J O w K
       else j3 free ops bs fuel (E.setIfInBounds q true) true (nh same q w st J) O w K
     |none=>False
    else False
   |none=>
    q4 (fun j=>match ops[j]? with
     |some o=>oM P free ops o e w fun O w'=>kL bs j w' (j3 free ops bs fuel (E.setIfInBounds j true) false J O w' K) J
     |none=>False) (i::r)
def q5 (free:ev) (ops:Array W9) (e:Env) (w:x1) (K:Env→x1→Prop):Prop:=
 bif Region.noSelect ops then j3 P free ops (Region.before ops) ops.size (Array.replicate ops.size false) false [] e w K else False
end
section
variable {P:Y3} {N:Nat} {r:Option Nat} {free:ev} {ops:Array W9}
theorem AM {e:Env} {a:Act} (O:U2 N e a) {s:Nat} {c:Bool} (U:(ops[j]?).bind (·.dst)=some s) {x:dw} (V:look e s=some x) (J:x.val= .bool c):
  yielded ops a.tmps j=some c:=by
 have h:=O.2 s x V;rw[J] at h;have W:a.tmps[s]? =some (.bool c):=by
  rw[Array.getD_eq_getD_getElem?] at h;cases E:a.tmps[s]? with
  |none=>rw[E] at h;simp[undef] at h
  |some y=>rw[E] at h;simpa using h
 simp[yielded,U,W]
theorem oN {e:Env} {a:Act} (E:U2 N e a) {o:W9} {s:Nat} {b c:Bool} (O:o.guard=some (j,b)) (U:(ops[j]?).bind (·.dst)=some s) {x:dw}
  (V:look e s=some x) (J:x.val= .bool c):Region.wanted o (yielded ops a.tmps)= !(xor c b):=by
 simp only[Region.wanted,O,AM E U V J];cases c <;> cases b <;> rfl
theorem tV {e:Env} {a:Act} (J:U2 N e a) {o:W9} {s:Nat} {b:Bool} (O:o.guard=some (j,b)) (U:(ops[j]?).bind (·.dst)=some s)
  (V:look e s=some .u):Region.wanted o (yielded ops a.tmps)=false:=by
 have h:=J.2 s .u V;have W:yielded ops a.tmps j=none:=by
  rw[Array.getD_eq_getD_getElem?] at h;unfold yielded;rw[U];cases E:a.tmps[s]? with
  |none=>simp[E]
  |some y=>
   rw[E] at h;simp only[V4,dw.val] at h;subst h;simp[E,undef]
 simp[Region.wanted,O,W]
theorem U2.lit {e:Env} {a:Act} (O:U2 N e a) {s:Nat} {x:dw} {c:Bool} (V:look e s=some x) (J:x.val= .bool c):U2 N ((s,.b c)::e) a:=by
 refine⟨O.1,fun t y E=>?_⟩;simp only[look] at E;cases U:V6 s t with
 |true=>
  have:s=t:=Nat.eq_of_beq_eq_true U;subst this;simp only[U,cond_true,b8] at E;subst E;rw[O.2 s x V,J];rfl
 |false=>simp only[U,cond_false] at E;exact O.2 t y E
theorem tW {o:W9} {e:Env} {a:Act} {K:Env→x1→Prop} {Q:Exit→Act→x1→Prop} (h:oM P free ops o e w K) (E:U2 N e a) (O:hF N o.dst=true):
  (Region.wanted o (yielded ops a.tmps)=true∧o.wpIn (dt r) 0 P a w (ef N free K o a w) Q)∨
  (Region.wanted o (yielded ops a.tmps)=false∧ef N free K o a w (a.put o.dst undef) w):=by
 unfold oM at h;cases U:o.guard with
 |none=>rw[U] at h;exact .inl ⟨by simp[Region.wanted,U],oL h E O⟩
 |some Z=>
  obtain⟨j,b⟩:=Z;rw[U] at h;simp only at h;cases W:(ops[j]?).bind (·.dst) with
  |none=>rw[W] at h;exact h.elim
  |some s=>
   rw[W] at h;simp only at h;cases V:look e s with
   |none=>rw[V] at h;exact h.elim
   |some x=>
    rw[V] at h;cases x with
    |b c=>
     simp only at h;have hw:=oN E U W V (c:=c) rfl;cases J:xor c b with
     |true=>
      rw[J] at h hw;exact .inr ⟨hw,ef.of h E O rfl fun _=>bN.refl _ _⟩
     |false=>
      rw[J] at h hw;exact .inl ⟨hw,oL h E O⟩
    |v y=>
     simp only at h;obtain⟨c,rfl,X,ae⟩:=h;have hw:=oN E U W V (c:=c) rfl;have Y:=E.lit V (c:=c) rfl;cases c with
     |true=>
      have X:=X rfl;cases b with
      |true=>exact .inl ⟨hw,oL X Y O⟩
      |false=>exact .inr ⟨hw,ef.of X Y O rfl fun _=>bN.refl _ _⟩
     |false=>
      have ae:=ae rfl;cases b with
      |true=>exact .inr ⟨hw,ef.of ae Y O rfl fun _=>bN.refl _ _⟩
      |false=>exact .inl ⟨hw,oL ae Y O⟩
    |u=>exact .inr ⟨tV E U W V,ef.of h E O rfl fun _=>bN.refl _ _⟩
def fb (D:List Nat) (a a':Act):Prop:=a'.defers=a.defers∧ ∀ t,t∉D→a'.tmps.getD t undef=a.tmps.getD t undef
theorem fb.refl (D:List Nat) (a:Act):fb D a a:=⟨rfl,fun _ _=>rfl⟩
theorem fb.trans {a b c:Act} (h:fb D a b) (k:fb D b c):fb D a c:=⟨k.1.trans h.1,fun t E=>(k.2 t E).trans (h.2 t E)⟩
theorem fb.put (a:Act) {d:Option Tmp} (v:y0) (E:∀ t,d=some t→t∈D):fb D a (a.put d v):=by
 cases d with
 |none=>exact fb.refl _ _
 |some s=>
  refine⟨rfl,fun t J=>?_⟩;have O:s≠t:=fun h=>J (h▸E s rfl);simp only[Act.put,Array.getD_eq_getD_getElem?];rw[Array.getElem?_setIfInBounds_ne O]
def j7 (N:Nat) (free:ev) (K:Env→x1→Prop) (D:List Nat) (a:Act) (w:x1) (a':Act) (w':x1):Prop:=
 ∃ E,K E w'∧U2 N E a'∧fb D a a'∧(free.1=false→bN free.2 w w')
theorem j7.step {K:Env→x1→Prop} {a E a':Act} {J:x1} (h:j7 N free K D E J a' w') (O:fb D a E) (U:free.1=false→bN free.2 w J):
  j7 N free K D a w a' w':=by
 obtain⟨V,h1,W,X,Y⟩:=h;exact⟨V,h1,W,O.trans X,fun ae=>(U ae).trans (Y ae)⟩
def kM (N:Nat) (l:List W9):Bool:=l.all fun o=>hF N o.dst
theorem AN {K:Env→x1→Prop} {Q:Exit→Act→x1→Prop} (aa:∀ o∈ops.toList,∀ t,o.dst=some t→t∈D) (X:kM N ops.toList=true):
  ∀ (l:List W9) (k:Nat) (e:Env) (a:Act) (w:x1),(∀ j,l[j]? =ops[k+j]?)→lQ P free ops l e w K→U2 N e a→
   (∀ a' w',j7 N free K D a w a' w'→Q .normal a' w')→wpOpsIn (dt r) 0 P ops Q (List.range' k l.length) a w:=by
 intro l;induction l with
 |nil=>
  intro k e a w _ h O U;exact U a w ⟨e,h,O,fb.refl _ _,fun _=>bN.refl _ _⟩
 |cons o l ab=>
  intro k e a w Y h O U;have V:=Y 0;simp only[List.getElem?_cons_zero,Nat.add_zero] at V;have Z:o∈ops.toList:=by
   have:=V.symm;rw[←U5] at this;exact x2 this
  have ac:hF N o.dst=true:=by
   simp only[kM,List.all_eq_true] at X;exact X o Z
  have ad:∀ j,l[j]? =ops[k+1+j]?:=fun j=>by
   have:=Y (j+1);rw[List.getElem?_cons_succ] at this;rw[this];congr 1;omega
  have next:∀ W E,ef N free (fun ae w'=>lQ P free ops l ae w' K) o a w W E→wpOpsIn (dt r) 0 P ops Q (List.range' (k+1) l.length) W E:=by
   rintro W E ⟨af,v,ag,ah,rfl,ai⟩;refine ab (k+1) af _ E ad ag ah fun a' w' aj=>U a' w' (aj.step (fb.put a v fun t ak=>aa o Z t ak) ai)
  simp only[lQ] at h;show wpOpsIn (dt r) 0 P ops Q (k::List.range' (k+1) l.length) a w;unfold wpOpsIn;rw[←V];simp only;rcases tW (r:=r) (Q:=Q) h O ac with⟨hw,J⟩|⟨hw,J⟩
  ·rw[if_pos hw];exact W9.wpIn_mono next J
  ·rw[hw];exact⟨fun _ _=>trivial,next _ _ J⟩
theorem AO {K:Env→x1→Prop} {Q:Exit→Act→x1→Prop} {id:Nat} {e:Env} {a:Act} (E:∀ o∈ops.toList,∀ t,o.dst=some t→t∈D)
  (J:kM N ops.toList=true) (h:lQ P free ops ops.toList e w K) (O:U2 N e a) (U:∀ a' w',j7 N free K D a w a' w'→Q .normal a' w'):
  (Code.region id ops false).wpIn (dt r) 0 P Q a w:=by
 refine wpIn_region ?_;have:=AN (r:=r) E J ops.toList 0 e a w (fun j=>by simp) h O U;rw[List.range_eq_range'];simpa using this
end
section
variable {P:Y3} {N:Nat} {r:Option Nat} {free:ev} {ops:Array W9} {Q:Exit→Act→x1→Prop}
theorem AP (E:Option Nat) (o:W9) (O:∀ cs b,o.op≠ .select cs b) (a:Act) (d:Option Tmp) (v:y0) (h:∀ t,d=some t→t∉o.looksAt ops):
  o.semAt E (a.put d v).eval=o.semAt E a.eval:=by
 have he:=execOp_put o O a d v h;unfold W9.semAt;split
 ·rename_i l c U;have:resolve (a.put d v).eval c o.type=resolve a.eval c o.type:=resolve_congr c o.type fun x J=>Act.eval_put fun t V W=>h t V (by
   subst W;refine List.mem_append_left _ (List.mem_filterMap.2 ⟨.tmp t,?_,rfl⟩);rw[U];simpa[Op.operands] using J)
  rw[this]
 ·exact he
def j8 (o:W9) (w0:x1) (st:x1→Prop) (w':x1):Prop:=jv o=true∨Ext w0 w'∨ ∃ E,st E∧Ext E w'
theorem j8.ext {o:W9} {w0:x1} {st:x1→Prop} (h:j8 o w0 st w) (k:Ext w w'):j8 o w0 st w':=by
 rcases h with h|h|⟨E,h1,J⟩
 ·exact .inl h
 ·exact .inr (.inl (h.trans k))
 ·exact .inr (.inr ⟨E,h1,J.trans k⟩)
theorem AQ {o:W9} (hm:jv o=true) {E:U1→y0} (h:(execOp E o).run P w= .ok (.value v) w):(execOp E o).run P w'= .ok (.value v) w':=by
 unfold jv at hm;split at hm
 ·rename_i x J;unfold execOp at h ⊢;simp only[J,Y5,Result.ok.injEq,and_true] at h ⊢;exact h
 ·rename_i x J;unfold execOp at h ⊢;simp only[J,Y5,Result.ok.injEq,and_true] at h ⊢;exact h
 ·rename_i x i J;unfold execOp at h ⊢;simp only[J] at h ⊢;exact ((Still.bind (Still.extract _ _) fun _=>Still.pure _) _ _ _ h).2 _
 ·rename_i t x i J;unfold execOp at h ⊢;simp only[J] at h ⊢;exact ((Still.bind (Still.indexAt _ _ _) fun _=>Still.pure _) _ _ _ h).2 _
 ·cases hm
def gh (P:Y3) (ops:Array W9) (o:W9) (v:y0) (a:Act) (w0:x1→Prop):Prop:=
 (Region.wanted o (yielded ops a.tmps)=true∧(∀ c,o.op≠ .defer c)∧ ∀ w',w0 w'→(execOp a.eval o).run P w'= .ok (.value v) w')∨
 (Region.wanted o (yielded ops a.tmps)=false∧v=undef)
theorem gh.put {o E:W9} {a:Act} {w0:x1→Prop} (J:gh P ops o v a w0) (O:∀ cs b,o.op≠ .select cs b) (h:∀ t,E.dst=some t→t∉o.looksAt ops) (u:y0):
  gh P ops o v (a.put E.dst u) w0:=by
 unfold gh at*;rw[execOp_put o O a E.dst u h,wanted_put o a E.dst u h];exact J
theorem gh.go {i:Nat} {E:W9} {a:Act} {w0:x1→Prop} (hi:ops[i]? =some E) (J:gh P ops E v a w0) (hw:w0 w) {K:Act→x1→Prop} (h:K (a.put E.dst v) w):
  wpOpIn (dt r) 0 P ops Q i K a w:=by
 unfold wpOpIn;simp only[hi];rcases J with⟨h1,O,U⟩|⟨h1,rfl⟩
 ·rw[if_pos h1];refine⟨fun _ _=>trivial,?_⟩;rw[W9.semAt_eq _ _ _ O,U w hw,W9.uponIn_value];exact h
 ·rw[h1];exact⟨fun _ _=>trivial,h⟩
theorem AR {E O:W9} (X:ops[j]? =some O) (Y:E.apart ops O=true) (Z:∀ cs b,E.op≠ .select cs b) (aa:∀ cs b,O.op≠ .select cs b)
  (V:∀ c a w,¬Q (.panic c) a w) {K:Act→x1→Prop} {a:Act} {w:x1} {w0:x1→Prop} (J:gh P ops E v a w0) (h:wpOpIn (dt r) 0 P ops Q j K (a.put E.dst v) w):
  wpOpIn (dt r) 0 P ops Q j (fun a' w'=>gh P ops E v a' w0∧K (a'.put E.dst v) w') a w:=by
 obtain⟨h1,U,ab⟩:=W9.apart_spec Y;have aX:∀ (a:Act),gh P ops E v a w0→ ∀ u,gh P ops E v (a.put O.dst u) w0:=fun a J u=>J.put Z ab u;have ac:∀ d,gh P ops E v {a with defers:=d::a.defers} w0:=fun d=>J;unfold wpOpIn at*;simp only[X] at*;rw[wanted_put O a E.dst v h1] at h;split
 ·rename_i hw;simp only[hw,if_true] at h;obtain⟨_,h⟩:=h;refine⟨fun _ _=>trivial,?_⟩;rw[AP _ O aa a E.dst v h1] at h;generalize (O.semAt (dt r).round a.eval).run P w=res at*;cases res with
  |ok n w'=>
   cases n <;> simp only[W9.uponIn] at h ⊢
   case value u=>exact⟨aX a J u,by rw[←Act.put_comm a v u U];exact h⟩
   case skip=>exact⟨aX a J _,by rw[←Act.put_comm a v undef U];exact h⟩
   case defer d=>
    refine⟨aX _ (ac d) _,?_⟩;rw[←Act.put_comm _ v undef U,←Act.put_defers];exact h
   case enter f args=>
    refine⟨h.1,CallsIn.mono h.2 fun e W he=>?_⟩;cases e with
    |returned u=>exact⟨aX a J u,by rw[←Act.put_comm a v u U];exact he⟩
    |panicked c=>exact absurd he (V _ _ _)
    |outgrown=>exact he
   case row row args=>exact⟨h.1,RowsIn.mono h.2 fun u W he=>⟨aX a J u,by rw[←Act.put_comm a v u U];exact he⟩⟩
   case round l f tmps ad body=>
    refine⟨h.1,RoundIn.mono h.2 fun e W he=>?_⟩;cases e with
    |returned u=>exact⟨aX a J u,by rw[←Act.put_comm a v u U];exact he⟩
    |panicked c=>exact absurd he (V _ _ _)
    |outgrown=>exact he
  |halt x w'=>
   cases x <;> simp only[W9.uponIn] at h ⊢
   case panic u=>exact absurd h (V _ _ _)
 ·rename_i hw;simp only[hw] at h;exact⟨fun _ _=>trivial,aX a J _,by rw[←Act.put_comm a v undef U];exact h.2⟩
def jw (ops:Array W9) (bs:Array Nat):Bool:=
 (Z1 ops.size).all fun j=>(Z1 ops.size).all fun k=>!((bs.getD j 0).testBit k)||
  (match ops[j]? with
   |some o=>o.after.any fun e=>Region.binds .any e&&Nat.blt e.on j&&(V6 e.on k||(bs.getD e.on 0).testBit k)
   |none=>false)
def Down (ops:Array W9) (E:Array Bool):Prop:=
 ∀ (x:Nat) (o:W9),ops[x]? =some o→E.getD x false=true→ ∀ e∈o.after,Region.binds .any e=true→E.getD e.on false=true
theorem tX {bs:Array Nat} (E:jw ops bs=true) {k:Nat} (U:j<ops.size) (V:k<ops.size) (h:(bs.getD j 0).testBit k=true):
  ∃ o,ops[j]? =some o∧ ∃ e∈o.after,Region.binds .any e=true∧e.on<j∧(e.on=k∨(bs.getD e.on 0).testBit k=true):=by
 simp only[jw,List.all_eq_true,List.mem_range] at E;have:=E j U k V;rw[h] at this;simp only[Y0,Bool.false_or] at this;cases O:ops[j]? with
 |none=>rw[O] at this;cases this
 |some o=>
  rw[O] at this;obtain⟨e,he,J⟩:=Array.any_eq_true'.1 this;simp only[W0,Nat.blt_eq,Bool.or_eq_true] at J;exact⟨o,rfl,e,he,J.1.1,J.1.2,J.2.imp (fun h=>Nat.eq_of_beq_eq_true h) id⟩
theorem AS {bs:Array Nat} {E:Array Bool} (U:jw ops bs=true) (V:Down ops E):∀ (j k:Nat),j<ops.size→k<ops.size→E.getD j false=true→
  (bs.getD j 0).testBit k=true→E.getD k false=true:=by
 intro j;induction j using Nat.strongRecOn with
 |_ j W=>
  intro k X J Y h;obtain⟨o,Z,e,he,aa,ab,h⟩:=tX U X J h;have O:=V j o Z Y e he aa;rcases h with rfl|h
  ·exact O
  ·exact W e.on ab k (by omega) J O h
theorem tY {bs:Array Nat} {E:Array Bool} (J:jw ops bs=true) (X:Down ops E) {k:Nat} (O:k<ops.size) (Y:j∈Region.ready .any ops E)
  (h:(bs.getD j 0).testBit k=true):E.getD k false=true:=by
 obtain⟨_,o,U,Z⟩:=mem_ready.1 Y;have aa:=(o7.1 U).1;obtain⟨o',V,e,he,ab,ac,h⟩:=tX J aa O h;rw[U] at V;cases V;have W:=Z e he ab;rcases h with rfl|h
 ·exact W
 ·exact AS J X e.on k (by omega) O W h
theorem Down.set {E:Array Bool} (X:Down ops E) {i:Nat} (Y:i∈Region.ready .any ops E):Down ops (E.setIfInBounds i true):=by
 intro x o J O e he U;by_cases V:x=i
 ·subst V;obtain⟨_,o',W,Z⟩:=mem_ready.1 Y;rw[J] at W;cases W;exact getD_set_true (Z e he U)
 ·rw[getD_set_ne false (Ne.symm V)] at O;exact getD_set_true (X x o J O e he U)
theorem q6 {E:Array Bool} {k:Nat} (h:E.getD k true=false):E.getD k false=false:=by
 rcases Nat.lt_or_ge k E.size with h'|h'
 ·simpa[h'] using h
 ·simp[Array.getElem?_eq_none h'] at h
def ka (ops:Array W9) (i:Nat):Bool:=match ops[i]? with
 |some o=>hd o
 |none=>false
def kb (bs:Array Nat) (E:List (x1×List (Nat×(x1→Prop)))) (j:Nat) (w':x1):Prop:=∀ g∈E,∀ x∈g.2,iJ bs j x.1=true→Ext g.1 w'∨x.2 w'
theorem q7 {bs:Array Nat} {j:Nat} {w':x1}:∀ {l:List (Nat×(x1→Prop))},lR bs j w' l→ ∀ x∈l,iJ bs j x.1=true→x.2 w'
 |[],_,_,h,_=>by cases h
 |y::l,h,x,J,hu=>by
  unfold lR at h;cases E:iJ bs j y.1 with
  |true=>
   rw[E] at h;cases J with
   |head=>exact h.1
   |tail _ J=>exact q7 h.2 x J hu
  |false=>
   rw[E] at h;cases J with
   |head=>rw[E] at hu;cases hu
   |tail _ J=>exact q7 (show lR bs j w' l from h) x J hu
theorem tZ {bs:Array Nat} {j:Nat}:∀ {l:List (Nat×(x1→Prop))},ni bs j l=false→ ∀ x∈l,iJ bs j x.1=false
 |[],_,_,h=>by cases h
 |y::l,h,x,J=>by
  simp only[ni,U3] at h;cases J with
  |head=>exact h.1
  |tail _ J=>exact tZ h.2 x J
theorem q8 {bs:Array Nat} {j:Nat} {w':x1} {C:Prop}:∀ {W:List (x1×List (Nat×(x1→Prop)))},kL bs j w' C W→C∧kb bs W j w'
 |[],h=>⟨h,fun g X=>by cases X⟩
 |g::r,h=>by
  unfold kL at h;cases hu:ni bs j g.2 with
  |true=>
   rw[hu] at h;obtain⟨h1,U⟩:=q8 h.2;refine⟨h1,fun V E x J O=>?_⟩;cases E with
   |head=>exact h.1.imp id fun h=>q7 h x J O
   |tail _ E=>exact U V E x J O
  |false=>
   rw[hu] at h;obtain⟨h1,U⟩:=q8 (show kL bs j w' C r from h);refine⟨h1,fun V E x J O=>?_⟩;cases E with
   |head=>rw[tZ hu x J] at O;cases O
   |tail _ E=>exact U V E x J O
def q9 (ops:Array W9) (bs:Array Nat) (E:List (x1×List (Nat×(x1→Prop)))) (j:Nat) (w w':x1):Prop:=(ka ops j=true→Ext w w')∧(ka ops j=false→kb bs E j w')
def gG (r:Option Nat) (P:Y3) (ops:Array W9) (bs:Array Nat) (Q:Exit→Act→x1→Prop):Nat→Array Bool→List (x1×List (Nat×(x1→Prop)))→Act→x1→Prop
 |0,E,_,a,w=>Region.ready .any ops E=[]∧Q .normal a w
 |fuel+1,E,J,a,w=>(Region.ready .any ops E=[]→Q .normal a w)∧
  ∀ i∈Region.ready .any ops E,wpOpIn (dt r) 0 P ops Q i (fun a' w'=>q9 ops bs J i w w'∧gG r P ops bs Q fuel (E.setIfInBounds i true) J a' w') a w
theorem gG.any {bs:Array Nat}:∀ (fuel:Nat) (E:Array Bool) (J:List (x1×List (Nat×(x1→Prop)))) (a:Act) (w:x1),gG r P ops bs Q fuel E J a w→wpAnyIn (dt r) 0 P .any ops Q fuel E a w
 |0,_,_,_,_,h=>h
 |fuel+1,_,_,_,_,h=>⟨h.1,fun i hi=>wpOpIn_mono (fun a' w' h'=>gG.any fuel _ _ a' w' h'.2) (h.2 i hi)⟩
theorem AT {bs:Array Nat} {E:Array Bool} (J:jw ops bs=true) (O:Down ops E) {i:Nat} {W:W9} (hi:ops[i]? =some W)
  (U:i∈Region.ready .any ops E) (V:j∈Region.ready .any ops E) (X:j≠i):iJ bs j i=true:=by
 have Y:=(o7.1 hi).1;obtain⟨Z,ad,aa,_⟩:=mem_ready.1 V;have ab:=(o7.1 aa).1;have ac:=(mem_ready.1 U).1;simp only[iJ,W0,Bool.not_eq_true'];refine⟨?_,?_,?_⟩
 ·cases h:V6 i j with
  |true=>exact absurd (Nat.eq_of_beq_eq_true h).symm X
  |false=>rfl
 ·cases h:(bs.getD j 0).testBit i with
  |true=>have:=tY J O Y V h;rw[q6 ac] at this;cases this
  |false=>rfl
 ·cases h:(bs.getD i 0).testBit j with
  |true=>have:=tY J O ab U h;rw[q6 Z] at this;cases this
  |false=>rfl
theorem gG.take {bs:Array Nat} (am:jw ops bs=true) (an:Region.noSelect ops=true) (ao:∀ c a w,¬Q (.panic c) a w) {i:Nat} {J:W9} (hi:ops[i]? =some J) (ap:hd J=true)
  {w0:x1} {Y ev':List (x1×List (Nat×(x1→Prop)))} (ad:∀ j w',kb bs ev' j w'→kb bs Y j w') {st:x1→Prop} (aq:jv J=false→ ∀ j w',iJ bs j i=true→kb bs ev' j w'→Ext w0 w'∨st w'):
  ∀ (fuel:Nat) (E:Array Bool) (a:Act) (w:x1),Down ops E→
   (∀ j W,ops[j]? =some W→j≠i→E.getD j true=false→(∀ e∈W.after,Region.binds .any e=true→e.on≠i)→J.apart ops W=true)→
   i∈Region.ready .any ops E→gh P ops J v a (j8 J w0 st)→j8 J w0 st w→
   gG r P ops bs Q fuel (E.setIfInBounds i true) ev' (a.put J.dst v) w→gG r P ops bs Q (fuel+1) E Y a w:=by
 have ae:=Region.noSelect_spec an;have au:ka ops i=true:=by simp[ka,hi,ap]
 have gi:∀ (fuel:Nat) (E:Array Bool) (a:Act) (w:x1),gG r P ops bs Q fuel E ev' a w→gG r P ops bs Q fuel E Y a w:=by
  intro fuel;induction fuel with
  |zero=>intro E a w h;exact h
  |succ fuel aa=>intro E a w h;exact⟨h.1,fun j U=>wpOpIn_mono (fun a' w' h'=>⟨⟨h'.1.1,fun ab=>ad _ _ (h'.1.2 ab)⟩,aa _ a' w' h'.2⟩) (h.2 j U)⟩
 have af:∀ w,q9 ops bs Y i w w:=fun w=>⟨fun _=>Ext.refl _,fun h=>by rw[au] at h;cases h⟩;intro fuel;induction fuel with
 |zero=>
  intro E a w _ _ V Z hw H;refine⟨fun h=>(by rw[h] at V;cases V),fun j U=>?_⟩;by_cases O:j=i
  ·subst O;exact Z.go hi hw ⟨af w,gi _ _ _ _ H⟩
  ·have:=ready_mono U O;rw[H.1] at this;cases this
 |succ fuel aa=>
  intro E a w ag ah V Z hw H;refine⟨fun h=>(by rw[h] at V;cases V),fun j U=>?_⟩;by_cases O:j=i
  ·subst O;exact Z.go hi hw ⟨af w,gi _ _ _ _ H⟩
  ·have h1:=H.2 j (ready_mono U O);have hu:=AT am ag hi V U O;obtain⟨ai,W,ac,av⟩:=mem_ready.1 U;have aw:∀ e∈W.after,Region.binds .any e=true→e.on≠i:=fun e he ax ay=>by
    have h1:=av e he ax;rw[ay,q6 (mem_ready.1 V).1] at h1;cases h1
   have az:=AR ac (ah j W ac O ai aw) (fun cs b=>ae i J cs b hi) (fun cs b=>ae j W cs b ac) ao Z h1;have aA:∀ k ok,ops[k]? =some ok→k≠i→(E.setIfInBounds j true).getD k true=false→
     (∀ e∈ok.after,Region.binds .any e=true→e.on≠i)→J.apart ops ok=true:=fun k ok aB aC aj aD=>by
    refine ah k ok aB aC ?_ aD;by_cases ak:j=k
    ·subst ak;exact ai
    ·rw[getD_set_ne true ak] at aj;exact aj
   refine wpOpIn_mono (fun a' w' X=>⟨⟨X.2.1.1,fun ab=>ad _ _ (X.2.1.2 ab)⟩,aa (E.setIfInBounds j true) a' w' (ag.set U) aA (ready_mono V (Ne.symm O)) X.1 ?_ ?_⟩) az
   ·cases hm:jv J with
    |true=>exact .inl hm
    |false=>
     cases al:ka ops j with
     |true=>exact hw.ext (X.2.1.1 al)
     |false=>exact .inr ((aq hm j w' hu (X.2.1.2 al)).imp id fun h=>⟨w',h,Ext.refl _⟩)
   ·rw[Array.setIfInBounds_comm _ _ O];exact X.2.2
theorem ua {p:Nat→Prop}:∀ {l:List Nat},q4 p l→ ∀ i∈l,p i
 |[],_,_,h=>by cases h
 |[i],h,j,E=>by cases E with
  |head=>exact h
  |tail _ h=>cases h
 |i::k::l,h,j,E=>by
  obtain⟨h1,J⟩:=h;cases E with
  |head=>exact h1
  |tail _ E=>exact ua J j E
theorem ra:∀ {l:List Nat} {q:Nat},j2 ops l=some q→q∈l∧ ∃ o,ops[q]? =some o∧hd o=true
 |[],q,h=>by cases h
 |i::l,q,h=>by
  simp only[j2] at h;cases E:ops[i]? with
  |none=>rw[E] at h;obtain⟨h1,J⟩:=ra h;exact⟨.tail _ h1,J⟩
  |some o=>
   rw[E] at h;simp only at h;cases O:hd o with
   |true=>rw[O] at h;simp only[cond_true,b8] at h;subst h;exact⟨.head _,o,E,O⟩
   |false=>rw[O] at h;obtain⟨h1,J⟩:=ra h;exact⟨.tail _ h1,J⟩
theorem AU {o:W9} {e:Env} {a:Act} {K:Env→(x1→Prop)→Prop} (h:q3 P ops o e w K) (E:U2 N e a) (aa:hF N o.dst=true):
  ∃ v st,gh P ops o v a (j8 o w st)∧ ∃ O,K O st∧U2 N O (a.put o.dst v):=by
 unfold q3 at h;have X:∀ {e:Env},U2 N e a→jt P o e w K→Region.wanted o (yielded ops a.tmps)=true→ ∃ v st,gh P ops o v a (j8 o w st)∧ ∃ O,K O st∧U2 N O (a.put o.dst v):=fun E h hw=>by
  obtain⟨v,st,h1,ab,ac,ad⟩:=tU h E aa;exact⟨v,st,.inl ⟨hw,ac,fun w' J=>J.elim (fun hm=>AQ hm (h1 w (Ext.refl w))) fun h=>h.elim (h1 w') fun⟨af,ag,ah⟩=>ad af ag w' ah⟩,ab⟩
 have skip:∀ {e:Env},U2 N e a→K (dg e o.dst .u) (fun _=>True)→Region.wanted o (yielded ops a.tmps)=false→ ∃ v st,gh P ops o v a (j8 o w st)∧ ∃ O,K O st∧U2 N O (a.put o.dst v):=fun E h hw=>
  ⟨undef,_,.inr ⟨hw,rfl⟩,_,h,E.put aa rfl⟩
 cases U:o.guard with
 |none=>rw[U] at h;exact X E h (by simp[Region.wanted,U])
 |some ai=>
  obtain⟨j,b⟩:=ai;rw[U] at h;simp only at h;cases W:(ops[j]?).bind (·.dst) with
  |none=>rw[W] at h;exact h.elim
  |some s=>
   rw[W] at h;simp only at h;cases V:look e s with
   |none=>rw[V] at h;exact h.elim
   |some x=>
    rw[V] at h;cases x with
    |b c=>
     simp only at h;have hw:=oN E U W V (c:=c) rfl;cases J:xor c b with
     |true=>rw[J] at h hw;exact skip E h hw
     |false=>rw[J] at h hw;exact X E h hw
    |v y=>
     simp only at h;obtain⟨c,rfl,Y,ae⟩:=h;have hw:=oN E U W V (c:=c) rfl;have Z:=E.lit V (c:=c) rfl;cases c with
     |true=>
      have Y:=Y rfl;cases b with
      |true=>exact X Z Y hw
      |false=>exact skip Z Y hw
     |false=>
      have ae:=ae rfl;cases b with
      |true=>exact skip Z ae hw
      |false=>exact X Z ae hw
    |u=>exact skip E h (tV E U W V)
theorem rb:∀ {l:List Nat},j2 ops l=none→ ∀ j∈l,ka ops j=false
 |[],_,_,h=>by cases h
 |i::l,h,j,E=>by
  simp only[j2] at h;cases J:ops[i]? with
  |none=>
   rw[J] at h;cases E with
   |head=>simp[ka,J]
   |tail _ E=>exact rb h j E
  |some o=>
   rw[J] at h;simp only at h;cases O:hd o with
   |true=>rw[O] at h;cases h
   |false=>
    rw[O] at h;cases E with
    |head=>simp[ka,J,O]
    |tail _ E=>exact rb h j E
theorem AV {bs:Array Nat} {same:Bool} {q:Nat} {st:x1→Prop} {E:List (x1×List (Nat×(x1→Prop)))} (U:same=true→ ∃ ks r,E=(w,ks)::r):
  (∀ j w',kb bs (nh same q w st E) j w'→kb bs E j w')∧(∀ j w',iJ bs j q=true→kb bs (nh same q w st E) j w'→Ext w w'∨st w')∧ ∃ ks r,nh same q w st E=(w,ks)::r:=by
 cases same with
 |true=>
  obtain⟨ks,r,rfl⟩:=U rfl;refine⟨fun j w' h g O x J hu=>?_,fun j w' hu h=>h (w,(q,st)::ks) (.head _) (q,st) (.head _) hu,_,_,rfl⟩;cases O with
  |head=>exact h (w,(q,st)::ks) (.head _) x (.tail _ J) hu
  |tail _ O=>exact h g (.tail _ O) x J hu
 |false=>
  refine⟨fun j w' h g O x J hu=>h g (.tail _ O) x J hu,fun j w' hu h=>h (w,[(q,st)]) (.head _) (q,st) (.head _) hu,_,_,rfl⟩
theorem AW {K:Env→x1→Prop} {bs:Array Nat} (an:jw ops bs=true) (ao:Region.noSelect ops=true) (ap:∀ c a w,¬Q (.panic c) a w)
  (ai:∀ o∈ops.toList,∀ t,o.dst=some t→t∈D) (aq:kM N ops.toList=true):
  ∀ (fuel:Nat) (O:Array Bool) (same:Bool) (U:List (x1×List (Nat×(x1→Prop)))) (e:Env) (a:Act) (w:x1),Down ops O→(same=true→ ∃ ks r,U=(w,ks)::r)→
   j3 P free ops bs fuel O same U e w K→U2 N e a→
   (∀ a' w',j7 N free K D a w a' w'→Q .normal a' w')→gG r P ops bs Q fuel O U a w:=by
 have ad:∀ {j:Nat} {o:W9},ops[j]? =some o→o∈ops.toList:=fun h=>by
  rw[←U5] at h;exact x2 h
 have ok:∀ {j:Nat} {o:W9},ops[j]? =some o→hF N o.dst=true:=fun h=>by
  simp only[kM,List.all_eq_true] at aq;exact aq _ (ad h)
 intro fuel;induction fuel with
 |zero=>
  intro O same U e a w Y aj h aa Z;unfold j3 at h;cases W:Region.ready .any ops O with
  |nil=>rw[W] at h;exact⟨W,Z a w ⟨e,h,aa,fb.refl _ _,fun _=>bN.refl _ _⟩⟩
  |cons i l=>rw[W] at h;exact h.elim
 |succ fuel ak=>
  intro O same U e a w Y aj h aa Z;unfold j3 at h;cases W:Region.ready .any ops O with
  |nil=>
   rw[W] at h;refine⟨fun _=>Z a w ⟨e,h,aa,fb.refl _ _,fun _=>bN.refl _ _⟩,fun i hi=>?_⟩;rw[W] at hi;cases hi
  |cons i l=>
   rw[W] at h;simp only at h;cases ae:j2 ops (i::l) with
   |some q=>
    rw[ae] at h;simp only at h;obtain⟨az,o,E,au⟩:=ra ae;cases af:Region.free .any ops O q with
    |false=>rw[af] at h;exact h.elim
    |true=>
     rw[af,E] at h;simp only[cond_true] at h;obtain⟨v,st,av,ag,X,aw⟩:=AU h aa (ok E);have ah:q∈Region.ready .any ops O:=by rw[W];exact az
     cases hm:jv o with
     |true=>
      rw[hm] at X;refine gG.take an ao ap E au (w0:=w) (ev':=U) (fun _ _ h=>h) (fun h=>by rw[hm] at h;cases h) fuel O a w Y (Region.free_spec E af) ah av (.inr (.inl (Ext.refl _))) ?_;exact ak _ same U ag _ w (Y.set ah) aj X aw fun a' w' V=>Z a' w' (V.step (fb.put a v fun t ab=>ai o (ad E) t ab) fun _=>bN.refl _ _)
     |false=>
      rw[hm] at X;obtain⟨h1,aA,aB⟩:=AV (bs:=bs) (q:=q) (st:=st) aj;refine gG.take an ao ap E au (w0:=w) (ev':=nh same q w st U) h1 (fun _=>aA) fuel O a w Y (Region.free_spec E af) ah av (.inr (.inl (Ext.refl _))) ?_;exact ak _ true _ ag _ w (Y.set ah) (fun _=>aB) X aw fun a' w' V=>Z a' w' (V.step (fb.put a v fun t ab=>ai o (ad E) t ab) fun _=>bN.refl _ _)
   |none=>
    rw[ae] at h;simp only at h;refine⟨(fun ax=>by rw[W] at ax;cases ax),fun j ay=>?_⟩;have al:=ay;rw[W] at al;have aC:=rb ae j al;have V:=ua h j al;cases E:ops[j]? with
    |none=>rw[E] at V;exact V.elim
    |some o=>
     rw[E] at V;simp only at V;unfold wpOpIn;simp only[E];have next:∀ am ac,ef N free (fun ag w'=>kL bs j w' (j3 P free ops bs fuel (O.setIfInBounds j true) false U ag w' K) U) o a w am ac→
       q9 ops bs U j w ac∧gG r P ops bs Q fuel (O.setIfInBounds j true) U am ac:=by
      rintro am ac ⟨aD,v,X,aE,rfl,aF⟩;obtain⟨X,aG⟩:=q8 X;exact⟨⟨fun h=>(by rw[aC] at h;cases h),fun _=>aG⟩,
       ak _ false U aD _ ac (Y.set ay) (fun h=>by cases h) X aE fun a' w' V=>Z a' w' (V.step (fb.put a v fun t ab=>ai o (ad E) t ab) aF)⟩
     rcases tW (r:=r) (Q:=Q) V aa (ok E) with⟨hw,J⟩|⟨hw,J⟩
     ·rw[if_pos hw];exact W9.wpIn_mono next J
     ·rw[hw];exact⟨fun _ _=>trivial,next _ _ J⟩
theorem AX (hm:P.follows .mixedOrders=true) {K:Env→x1→Prop} {id:Nat} {e:Env} {a:Act} (O:jw ops (Region.before ops)=true) (U:∀ c a w,¬Q (.panic c) a w)
  (V:∀ o∈ops.toList,∀ t,o.dst=some t→t∈D) (W:kM N ops.toList=true)
  (h:∀ w',Ext w w'→Ext w' w→cm w w'→q5 P free ops e w' K) (X:U2 N e a) (Y:∀ a' w',j7 N free K D a w a' w'→Q .normal a' w'):
  (Code.region id ops true).wpIn (dt r) 0 P Q a w:=by
 refine wpIn_region_any hm ?_;have h:=h {w with drawn:=w.drawn+1} (oG w _) ⟨r9 _,fun _ _ h _=>h⟩ (nb w _ (Nat.le_succ _));unfold q5 at h;cases E:Region.noSelect ops with
 |false=>rw[E] at h;exact h.elim
 |true=>
  rw[E] at h;refine gG.any _ _ _ _ _ (AW O E U V W ops.size _ false [] e a _ ?_ (fun h=>by cases h) h X fun a' w' Z=>Y a' w' (Z.step (fb.refl _ _) fun _=>(nb w _ (Nat.le_succ _)).b));intro x o _ J;rcases Nat.lt_or_ge x ops.size with h'|h'
  ·simp[h'] at J
  ·simp[h'] at J
end
def hf (t:Nat):List Nat→Bool
 |[]=>false
 |s::r=>bif V6 s t then true else hf t r
theorem re {t:Nat}:∀ {l:List Nat},hf t l=true↔t∈l
 |[]=>by simp[hf]
 |s::r=>by
  simp only[hf];cases h:V6 s t with
  |true=>simp[Nat.eq_of_beq_eq_true h]
  |false=>
   have:=Nat.ne_of_beq_eq_false h;simp[re (l:=r),Ne.symm this]
def kN:List W9→List Nat
 |[]=>[]
 |o::l=>match o.dst with
  |some d=>d::kN l
  |none=>kN l
def tmpsOf:List U1→List Nat
 |[]=>[]
 | .tmp t::l=>t::tmpsOf l
 |_::l=>tmpsOf l
def AY (ops:Array W9) (o:W9):List Nat:=
 match o.guard with
 |some (j,_)=>match (ops[j]?).bind (·.dst) with
  |some s=>[s]
  |none=>[]
 |none=>[]
def oO (D:List Nat):List Nat→List Nat
 |[]=>[]
 |t::r=>bif hf t D then oO D r else t::oO D r
def rf (D:List Nat):List Nat→List Nat
 |[]=>[]
 |t::r=>bif hf t D then t::rf D r else rf D r
def ub (ops:Array W9):List W9→List Nat→List Nat
 |[],_=>[]
 |o::l,D=>oO D (tmpsOf (opsOf o.op)++AY ops o)++ub ops l (match o.dst with
  |some d=>d::D
  |none=>D)
def cO:Code→List Nat
 | .region _ ops _=>kN ops.toList
 | .seq a b=>cO a++cO b
 | .cond _ a b=>cO a++cO b
 | .block _ c=>cO c
 | .loop c=>cO c
 | .scope c=>cO c
 |_=>[]
def hI (id:Nat):Code→Nat
 | .seq a b=>hI id a+hI id b
 | .cond _ a b=>hI id a+hI id b
 | .block _ c=>hI id c
 | .loop c=>hI id c
 | .scope c=>hI id c
 | .exit i=>bif V6 i id then 1 else 0
 | .rangeFunc _ _ _ b=>hI id b
 |_=>0
def AZ (ops:Array W9):Bool:=
 let bs:=Region.before ops;let E:=fun(i:Nat)=>match ops[i]? with|some o=>!(hd o)|none=>false
 (Z1 ops.size).any fun j=>E j&&((Z1 j).any fun i=>E i&&(!((bs.getD j 0).testBit i)&& !((bs.getD i 0).testBit j)))
def iK:Code→Nat
 | .region _ ops E=>bif (E&&AZ ops)||ops.any (·.guard.isSome) then 2 else 1
 | .seq a b=>bif V6 (iK a) 0 then 0 else iK b
 | .cond _ a b=>iK a+iK b
 | .block id c=>iK c+hI id c
 | .loop _=>0
 | .scope c=>iK c
 | .exit _=>0
 | .goto _=>0
 | .ret=>0
 | .refuse _=>0
 |_=>1
def jx:Code→List Nat
 | .region _ ops _=>kN ops.toList
 | .seq a b=>jx a++jx b
 | .cond _ a b=>bif V6 (iK a) 0 then jx b else bif V6 (iK b) 0 then jx a else rf (jx a) (jx b)
 | .block id c=>bif V6 (hI id c) 0 then jx c else[]
 | .scope c=>jx c
 |_=>[]
def reads:Code→List Nat
 | .region _ ops _=>ub ops ops.toList []
 | .seq a b=>reads a++oO (jx a) (reads b)
 | .cond c a b=>tmpsOf [c]++(reads a++reads b)
 | .block _ c=>reads c
 | .loop c=>reads c
 | .scope c=>reads c
 | .rangeFunc f _ a b=>tmpsOf [f]++(reads a++reads b)
 |_=>[]
def ia:Code→Bool
 | .seq a b=>ia a||ia b
 | .cond _ a b=>ia a||ia b
 | .block _ c=>ia c
 | .loop c=>ia c
 | .scope c=>ia c
 | .rangeFunc ..=>true
 |_=>false
def wf (N:Nat):Code→Bool
 | .region _ ops E=>kM N ops.toList&&(!E||jw ops (Region.before ops))
 | .seq a b=>wf N a&&wf N b
 | .cond _ a b=>wf N a&&wf N b
 | .block _ c=>wf N c
 | .loop c=>wf N c
 | .scope c=>wf N c
 | .rangeFunc _ J a b=>(J.toList.all fun t=>Nat.blt t N)&&(wf N a&&wf N b)
 |_=>true
def kO:Nat→Type→Type
 |0,β=>β
 |n+1,β=>y0→kO n β
def app {β:Type}:(n:Nat)→kO n β→List y0→β
 |0,f,_=>f
 |n+1,f,[]=>app n (f undef) []
 |n+1,f,v::r=>app n (f v) r
def lam {β:Type}:(n:Nat)→(List y0→β)→kO n β
 |0,f=>f []
 |n+1,f=>fun v=>lam n fun r=>f (v::r)
def oP:(n:Nat)→kO n Prop→Prop
 |0,p=>p
 |n+1,p=>∀ v,oP n (p v)
theorem oQ {β:Type}:∀ (n:Nat) (f:List y0→β) (vs:List y0),vs.length=n→app n (lam n f) vs=f vs
 |0,f,[],_=>rfl
 |n+1,f,v::r,h=>by
  simp only[app,lam];exact oQ n _ r (by simpa using h)
theorem oR:∀ (n:Nat) (p:kO n Prop) (vs:List y0),oP n p→app n p vs
 |0,_,_,h=>h
 |n+1,_,[],h=>oR n _ [] (h undef)
 |n+1,_,v::r,h=>oR n _ r (h v)
def A0 (n:Nat) (vs:List y0) (w:x1) (B:List y0→x1→(List y0→x1→Prop)→Prop):Prop:=
 ∃ (I:kO n (x1→Prop)) (E:kO n (x1→Nat)),app n I vs w∧
  oP n (lam n fun us=>∀ w',app n I us w'→B us w' fun J O=>app n I J O∧app n E J O<app n E us w')
def A1 (w:x1) (B:x1→(x1→Prop)→Prop):Prop:=
 ∃ (I:x1→Prop) (E:x1→Nat),I w∧ ∀ w',I w'→B w' fun J=>I J∧E J<E w'
def bS (a:y0) (w:x1) (B:y0→x1→(y0→x1→Prop)→Prop):Prop:=
 ∃ (I:y0→x1→Prop) (E:y0→x1→Nat),I a w∧ ∀ a w',I a w'→B a w' fun a' J=>I a' J∧E a' J<E a w'
def bO (a b:y0) (w:x1) (B:y0→y0→x1→(y0→y0→x1→Prop)→Prop):Prop:=
 ∃ (I:y0→y0→x1→Prop) (E:y0→y0→x1→Nat),I a b w∧ ∀ a b w',I a b w'→B a b w' fun a' J O=>I a' J O∧E a' J O<E a b w'
def lS (a b c:y0) (w:x1) (B:y0→y0→y0→x1→(y0→y0→y0→x1→Prop)→Prop):Prop:=
 ∃ (I:y0→y0→y0→x1→Prop) (E:y0→y0→y0→x1→Nat),I a b c w∧
  ∀ a b c w',I a b c w'→B a b c w' fun a' J O U=>I a' J O U∧E a' J O U<E a b c w'
def oS (a b c d:y0) (w:x1) (B:y0→y0→y0→y0→x1→(y0→y0→y0→y0→x1→Prop)→Prop):Prop:=
 ∃ (I:y0→y0→y0→y0→x1→Prop) (E:y0→y0→y0→y0→x1→Nat),I a b c d w∧
  ∀ a b c d w',I a b c d w'→B a b c d w' fun a' J O U V=>I a' J O U V∧E a' J O U V<E a b c d w'
def nj (a b c d e:y0) (w:x1) (B:y0→y0→y0→y0→y0→x1→(y0→y0→y0→y0→y0→x1→Prop)→Prop):Prop:=
 ∃ (I:y0→y0→y0→y0→y0→x1→Prop) (E:y0→y0→y0→y0→y0→x1→Nat),I a b c d e w∧ ∀ a b c d e w',I a b c d e w'→B a b c d e w' fun a' J O U V W=>I a' J O U V W∧E a' J O U V W<E a b c d e w'
def A2 (a b c d e f:y0) (w:x1) (B:y0→y0→y0→y0→y0→y0→x1→(y0→y0→y0→y0→y0→y0→x1→Prop)→Prop):Prop:=
 ∃ (I:y0→y0→y0→y0→y0→y0→x1→Prop) (E:y0→y0→y0→y0→y0→y0→x1→Nat),I a b c d e f w∧ ∀ a b c d e f w',I a b c d e f w'→B a b c d e f w' fun a' J O U V W X=>I a' J O U V W X∧E a' J O U V W X<E a b c d e f w'
def bX {α:Type} (E:α) (B:α→Prop):Prop:=B E
def uc (w:x1) (K:x1→Prop):Prop:=∀ w',Ext w w'→Ext w' w→K w'
def Over (w:x1) (K:x1→Prop):Prop:=∀ w',Ext w w'→Ext w' w→dR w w'→K w'
def du (w:x1) (K:x1→Prop):Prop:=∀ w',Ext w w'→Ext w' w→cm w w'→K w'
def ib (e:Env):List Nat→Option (List y0)
 |[]=>some []
 |t::r=>match look e t with
  |some x=>match ib e r with
   |some vs=>some (x.val::vs)
   |none=>none
  |none=>none
def hg:List Nat→List y0→Env→Env
 |t::r,v::vs,e=>(t,.v v)::hg r vs e
 |_,_,e=>e
def jy (D:List Nat):Env→Env
 |[]=>[]
 |(t,x)::r=>bif hf t D then jy D r else (t,x)::jy D r
def nk (N:Nat) (D R:List Nat):List Nat:=(Z1 N).filter fun t=>hf t D&&hf t R
def nl (N:Nat) (D R:List Nat) (e:Env):List Nat:=(Z1 N).filter fun t=>hf t D&&((look e t).isSome&&hf t R)
def hh:Code→Bool
 | .seq a b=>hh a||hh b
 | .cond _ a b=>hh a||hh b
 | .block _ c=>hh c
 | .loop c=>hh c
 | .scope c=>hh c
 | .rangeFunc _ _ a b=>hh a||hh b
 | .ret=>true
 |_=>false
def A3 (i:Nat) (l:List Nat):List Nat:=bif hf i l then l else i::l
def oT:List Nat→List Nat→List Nat
 |[],l=>l
 |i::r,l=>A3 i (oT r l)
def rg (i:Nat):List Nat→List Nat
 |[]=>[]
 |j::r=>bif V6 i j then rg i r else j::rg i r
def hJ:Code→List Nat
 | .seq a b=>oT (hJ a) (hJ b)
 | .cond _ a b=>oT (hJ a) (hJ b)
 | .block id c=>rg id (hJ c)
 | .loop c=>hJ c
 | .scope c=>hJ c
 | .rangeFunc _ _ a b=>oT (hJ a) (hJ b)
 | .exit i=>[i]
 |_=>[]
def kP:List (Nat×(x1→Prop))→Nat→x1→Prop
 |[],_,_=>False
 |(j,k)::r,i,w=>(i=j∧k w)∨kP r i w
def rh (K:Nat→x1→Prop):List Nat→List (Nat×(x1→Prop))
 |[]=>[]
 |i::r=>(i,fun w=>K i w)::rh K r
theorem ud {K:Nat→x1→Prop}:∀ {l:List Nat} {i:Nat} {w:x1},kP (rh K l) i w→K i w
 |[],_,_,h=>h.elim
 |j::r,i,w,h=>by
  rcases h with⟨rfl,h⟩|h
  ·exact h
  ·exact ud h
section
variable (P:Y3)
def lT {O:Type} (G:Bool) (g:FuncId) (cap:List y0) (Z:O) (aa:O→Prop) (ab:O→List y0→O→x1→Prop) (X:x1→Prop):Prop:=
 Enters P g∧ ∀ (l:Nat) (J U:O→x1→Prop) (w:x1),
  (∀ k E V,Ext E V→bN w.heap.size E V→J k E→J k V)→(∀ k E V,Ext E V→bN w.heap.size E V→U k E→U k V)→
  (∀ k Y vs w',X w'→ab k vs Y w'→J k w'→hG P l vs w' fun v W=>(v= .bool true∧X W∧J Y W∧(G=true→cm w' W))∨(v= .bool false∧U k W))→
  X w→J Z w→fp P g (.func (.yield l) #[] #[]::cap) w fun _ w'=>(∃ k,aa k∧J k w')∨ ∃ k,U k w'
def ri (G:Bool) (g:FuncId) (cap:List y0) (n:Nat) (X:Nat→List y0→x1→Prop) (W:x1→Prop):Prop:=
 Enters P g∧ ∀ (l:Nat) (J O:Nat→x1→Prop) (w:x1),
  (∀ k E V,Ext E V→bN w.heap.size E V→J k E→J k V)→(∀ k E V,Ext E V→bN w.heap.size E V→O k E→O k V)→
  (∀ k vs w',k<n→W w'→X k vs w'→J k w'→hG P l vs w' fun v U=>(v= .bool true∧W U∧J (k+1) U∧(G=true→cm w' U))∨(v= .bool false∧O k U))→
  W w→J 0 w→fp P g (.func (.yield l) #[] #[]::cap) w fun _ w'=>J n w'∨ ∃ k,k<n∧O k w'
def oU {U:Type} (o G:Bool) (g:FuncId) (cap:List y0) (Z:U) (aa:U→Prop) (ab:U→List y0→U→x1→Prop) (X:x1→Prop):Prop:=
 Enters P g∧ ∀ (l:Nat) (J W:Nat→U→x1→Prop) (w:x1),
  (∀ m k E V,ad (fun r=>o=true∧w.heap.size≤r∧r<m) E V→bN w.heap.size E V→J m k E→J m k V)→
  (∀ m k E V,ad (fun r=>o=true∧w.heap.size≤r∧r<m) E V→bN w.heap.size E V→W m k E→W m k V)→
  (∀ m k Y vs w',w.heap.size≤m→m≤w'.heap.size→X w'→ab k vs Y w'→J m k w'→hG P l vs w' fun v O=>
   (v= .bool true∧X O∧J m Y O∧(G=true∨o=true→cm w' O)∧w'.heap.size≤O.heap.size∧(o=true→ad (fun r=>r<w.heap.size∨m≤r) w' O))∨(o=false∧v= .bool false∧W m k O))→
  X w→(∀ m,J m Z w)→fp P g (.func (.yield l) #[] #[]::cap) w fun _ w'=>(∃ m k,aa k∧J m k w')∨ ∃ m k,W m k w'
abbrev lU (g:FuncId) (cap:List y0) (n:Nat) (E:Nat→List y0→x1→Prop) (J:x1→Prop):Prop:=ri P false g cap n E J
def A4 (ac:y0) (Y:Nat) (w:x1) (B:List y0→x1→(Exit→x1→Prop)→Prop) (ae af:x1→Prop) (ag:List (Nat×(x1→Prop))):Prop:=
 ∃ (E:Type) (o G:Bool) (g:FuncId) (cap:Array y0) (aa:E) (ab:E→Prop) (Z:E→List y0→E→x1→Prop) (J:x1→Prop) (I:Nat→E→x1→Prop) (U:Nat→E→Exit→x1→Prop),
  ac= .func (.func g) #[] cap∧oU P o G g cap.toList aa ab Z J∧(∀ k vs X w,Z k vs X w→vs.length=Y)∧
  (∀ w w',Ext w w'→J w→J w')∧(∀ m k W V,ad (fun r=>o=true∧w.heap.size≤r∧r<m) W V→I m k W→I m k V)∧(∀ m k ex W V,ad (fun r=>o=true∧w.heap.size≤r∧r<m) W V→U m k ex W→U m k ex V)∧
  J w∧(∀ m,I m aa w)∧
  oP Y (lam Y fun vs=>∀ m k X w',w.heap.size≤m→m≤w'.heap.size→J w'→Z k vs X w'→I m k w'→B vs w' fun ex O=>match ex with
   | .normal=>J O∧I m X O∧bif o then dR w' O∧ad (fun r=>r<w.heap.size∨m≤r) w' O else (G=true→dR w' O)
   |ex=>bif o then False else U m k ex O)∧
  (∀ m k w',ab k→I m k w'→ae w')∧(∀ m k w',U m k .ret w'→af w')∧(∀ m k i w',U m k (.exit i) w'→kP ag i w')
def jz (ab:y0) (w:x1) (B:y0→x1→(Exit→x1→Prop)→Prop) (ac ae:x1→Prop) (af:List (Nat×(x1→Prop))):Prop:=
 ∃ (E:Type) (o G:Bool) (g:FuncId) (cap:Array y0) (Z:E) (aa:E→Prop) (Y:E→List y0→E→x1→Prop) (J:x1→Prop) (I:Nat→E→x1→Prop) (U:Nat→E→Exit→x1→Prop),
  ab= .func (.func g) #[] cap∧oU P o G g cap.toList Z aa Y J∧(∀ k vs X w,Y k vs X w→vs.length=1)∧
  (∀ w w',Ext w w'→J w→J w')∧(∀ m k W V,ad (fun r=>o=true∧w.heap.size≤r∧r<m) W V→I m k W→I m k V)∧(∀ m k ex W V,ad (fun r=>o=true∧w.heap.size≤r∧r<m) W V→U m k ex W→U m k ex V)∧
  J w∧(∀ m,I m Z w)∧
  (∀ a,∀ m k X w',w.heap.size≤m→m≤w'.heap.size→J w'→Y k [a] X w'→I m k w'→B a w' fun ex O=>match ex with
   | .normal=>J O∧I m X O∧bif o then dR w' O∧ad (fun r=>r<w.heap.size∨m≤r) w' O else (G=true→dR w' O)
   |ex=>bif o then False else U m k ex O)∧
  (∀ m k w',aa k→I m k w'→ac w')∧(∀ m k w',U m k .ret w'→ae w')∧(∀ m k i w',U m k (.exit i) w'→kP af i w')
def lV (ab:y0) (w:x1) (B:y0→y0→x1→(Exit→x1→Prop)→Prop) (ac ae:x1→Prop) (af:List (Nat×(x1→Prop))):Prop:=
 ∃ (E:Type) (o G:Bool) (g:FuncId) (cap:Array y0) (Z:E) (aa:E→Prop) (Y:E→List y0→E→x1→Prop) (J:x1→Prop) (I:Nat→E→x1→Prop) (U:Nat→E→Exit→x1→Prop),
  ab= .func (.func g) #[] cap∧oU P o G g cap.toList Z aa Y J∧(∀ k vs X w,Y k vs X w→vs.length=2)∧
  (∀ w w',Ext w w'→J w→J w')∧(∀ m k W V,ad (fun r=>o=true∧w.heap.size≤r∧r<m) W V→I m k W→I m k V)∧(∀ m k ex W V,ad (fun r=>o=true∧w.heap.size≤r∧r<m) W V→U m k ex W→U m k ex V)∧
  J w∧(∀ m,I m Z w)∧
  (∀ a b,∀ m k X w',w.heap.size≤m→m≤w'.heap.size→J w'→Y k [a,b] X w'→I m k w'→B a b w' fun ex O=>match ex with
   | .normal=>J O∧I m X O∧bif o then dR w' O∧ad (fun r=>r<w.heap.size∨m≤r) w' O else (G=true→dR w' O)
   |ex=>bif o then False else U m k ex O)∧
  (∀ m k w',aa k→I m k w'→ac w')∧(∀ m k w',U m k .ret w'→ae w')∧(∀ m k i w',U m k (.exit i) w'→kP af i w')
theorem ri.s {P:Y3} {G:Bool} {g:FuncId} {cap:List y0} {O:Nat→List y0→x1→Prop} {E:x1→Prop} (h:ri P G g cap n O E):
  lT P G g cap 0 (fun k=>k=n) (fun k vs U w=>k<n∧U=k+1∧O k vs w) E:=by
 refine⟨h.1,fun l V W w X Y Z hE aa=>?_⟩;have:=h.2 l V (fun k w=>W k w) w X Y (fun k vs w' ab hac ad ae=>Z k (k+1) vs w' hac ⟨ab,rfl,ad⟩ ae) hE aa;cases this with
 |code h1 af=>exact .code h1 (af.mono fun _ _ ⟨v,ag,J⟩=>⟨v,ag,J.elim (fun h=>.inl ⟨n,rfl,h⟩) (fun⟨k,_,h⟩=>.inr ⟨k,h⟩)⟩)
 |ext v w' h1 J=>exact .ext v w' h1 (J.elim (fun h=>.inl ⟨n,rfl,h⟩) (fun⟨k,_,h⟩=>.inr ⟨k,h⟩))
theorem lT.x {P:Y3} {Y:Type} {G:Bool} {g:FuncId} {cap:List y0} {ae:Y} {af:Y→Prop} {ag:Y→List y0→Y→x1→Prop} {Z:x1→Prop} (h:lT P G g cap ae af ag Z):oU P false G g cap ae af ag Z:=by
 refine⟨h.1,fun l ah ai w aj ak al hZ am=>?_⟩;have:=h.2 l (fun k w'=>w.heap.size≤w'.heap.size∧ah w.heap.size k w') (ai w.heap.size) w (fun k aa V J ab E=>⟨Z3 E.1 J.size,aj _ k aa V (J.U _) ab E.2⟩) (fun k aa V J ab E=>ak _ k aa V (J.U _) ab E)
  (fun k an vs w' hao ap E=>hG.mono (al _ k an vs w' (r9 _) E.1 hao ap E.2) fun v av aq=>aq.imp (fun⟨h1,O,ac,W,X,_⟩=>⟨h1,O,⟨Z3 E.1 X,ac⟩,fun au=>W (.inl au)⟩) fun⟨_,h1,O⟩=>⟨h1,O⟩) hZ ⟨r9 _,am _⟩
 cases this with
 |code h1 O=>exact .code h1 (O.mono fun _ _ ⟨v,ac,W⟩=>⟨v,ac,W.imp (fun⟨k,X,ad⟩=>⟨_,k,X,ad.2⟩) (fun⟨k,h⟩=>⟨_,k,h⟩)⟩)
 |ext v w' h1 W=>exact .ext v w' h1 (W.imp (fun⟨k,X,ad⟩=>⟨_,k,X,ad.2⟩) (fun⟨k,h⟩=>⟨_,k,h⟩))
theorem jz.old {P:Y3} {B:y0→x1→(Exit→x1→Prop)→Prop} {ad ae:x1→Prop} {af:List (Nat×(x1→Prop))}
 (h:∃ (J:Type) (G:Bool) (g:FuncId) (cap:Array y0) (X:J) (Y:J→Prop) (W:J→List y0→J→x1→Prop) (E:x1→Prop) (I:J→x1→Prop) (O:J→Exit→x1→Prop),
  ac= .func (.func g) #[] cap∧lT P G g cap.toList X Y W E∧(∀ k vs U w,W k vs U w→vs.length=1)∧
  (∀ w w',Ext w w'→E w→E w')∧(∀ k w w',Ext w w'→I k w→I k w')∧(∀ k ex w w',Ext w w'→O k ex w→O k ex w')∧
  E w∧I X w∧
  (∀ a,∀ k U w',E w'→W k [a] U w'→I k w'→B a w' fun ex Z=>match ex with
   | .normal=>E Z∧I U Z∧(G=true→dR w' Z)
   |ex=>O k ex Z)∧
  (∀ k w',Y k→I k w'→ad w')∧(∀ k w',O k .ret w'→ae w')∧(∀ k i w',O k (.exit i) w'→kP af i w')):jz P ac w B ad ae af:=by
 obtain⟨J,G,g,cap,X,Y,W,E,I,O,h1,ag,ah,ai,aj,ak,al,am,an,ao,ap,aq⟩:=h;exact⟨J,false,G,g,cap,X,Y,W,E,fun _=>I,fun _=>O,h1,ag.x,ah,ai,fun _ k aa V ab=>aj k aa V (ab.ext fun _ _ h=>nomatch h.1),fun _ k ex aa V ab=>ak k ex aa V (ab.ext fun _ _ h=>nomatch h.1),al,fun _=>am,
  fun a _ k U w' _ _ hE au av=>an a k U w' hE au av,fun _=>ao,fun _=>ap,fun _=>aq⟩
theorem lV.old {P:Y3} {B:y0→y0→x1→(Exit→x1→Prop)→Prop} {ad ae:x1→Prop} {af:List (Nat×(x1→Prop))}
 (h:∃ (J:Type) (G:Bool) (g:FuncId) (cap:Array y0) (X:J) (Y:J→Prop) (W:J→List y0→J→x1→Prop) (E:x1→Prop) (I:J→x1→Prop) (O:J→Exit→x1→Prop),
  ac= .func (.func g) #[] cap∧lT P G g cap.toList X Y W E∧(∀ k vs U w,W k vs U w→vs.length=2)∧
  (∀ w w',Ext w w'→E w→E w')∧(∀ k w w',Ext w w'→I k w→I k w')∧(∀ k ex w w',Ext w w'→O k ex w→O k ex w')∧
  E w∧I X w∧
  (∀ a b,∀ k U w',E w'→W k [a,b] U w'→I k w'→B a b w' fun ex Z=>match ex with
   | .normal=>E Z∧I U Z∧(G=true→dR w' Z)
   |ex=>O k ex Z)∧
  (∀ k w',Y k→I k w'→ad w')∧(∀ k w',O k .ret w'→ae w')∧(∀ k i w',O k (.exit i) w'→kP af i w')):lV P ac w B ad ae af:=by
 obtain⟨J,G,g,cap,X,Y,W,E,I,O,h1,ag,ah,ai,aj,ak,al,am,an,ao,ap,aq⟩:=h;exact⟨J,false,G,g,cap,X,Y,W,E,fun _=>I,fun _=>O,h1,ag.x,ah,ai,fun _ k aa V ab=>aj k aa V (ab.ext fun _ _ h=>nomatch h.1),fun _ k ex aa V ab=>ak k ex aa V (ab.ext fun _ _ h=>nomatch h.1),al,fun _=>am,
  fun a b _ k U w' _ _ hE au av=>an a b k U w' hE au av,fun _=>ao,fun _=>ap,fun _=>aq⟩
def dx (N:Nat) (free:ev):Code→List Nat→Env→x1→(Exit→Env→x1→Prop)→Prop
 | .skip,_,e,w,K=>K .normal e w
 | .label _,_,e,w,K=>K .normal e w
 | .ret,_,e,w,K=>K .ret e w
 | .exit i,_,e,w,K=>K (.exit i) e w
 | .region _ ops U,_,e,w,K=>
  bif U then du w fun w'=>q5 P free ops e w' (K .normal)
  else lQ P free ops ops.toList e w (K .normal)
 | .seq x y,rd,e,w,K=>
  bif Nat.ble 2 (iK x) then
   bX (lam (nk N (cO x) (reads y++rd)).length fun vs=>fun w'=>dx N free y rd (hg (nk N (cO x) (reads y++rd)) vs (jy (cO x) e)) w' K)
    fun V=>dx N free x (reads y++rd) e w fun ex E w'=>match ex with
     | .normal=>match ib E (nk N (cO x) (reads y++rd)) with
      |some vs=>app (nk N (cO x) (reads y++rd)).length V vs w'
      |none=>False
     |ex=>K ex E w'
  else dx N free x (reads y++rd) e w fun ex E w'=>match ex with
   | .normal=>dx N free y rd E w' K
   |ex=>K ex E w'
 | .cond c x y,rd,e,w,K=>
  match dE e c with
  |some (.b true)=>dx N free x rd e w K
  |some (.b false)=>dx N free y rd e w K
  |some (.v v)=>Split v (dx N free x rd e w K) (dx N free y rd e w K)
  |some .u=>False
  |none=>False
 | .block id c,rd,e,w,K=>dx N free c rd e w fun ex E w'=>match ex with
  | .exit i=>bif V6 i id then K .normal E w' else K (.exit i) E w'
  |ex=>K ex E w'
 | .loop c,rd,e,w,K=>
  match ib e (nl N (cO c) (reads c++rd) e) with
  |some vs=>
   A0 (nl N (cO c) (reads c++rd) e).length vs w fun us w' k=>
    dx N free c (reads c++rd) (hg (nl N (cO c) (reads c++rd) e) us (jy (cO c) e)) w' fun ex E J=>match ex with
     | .normal=>match ib E (nl N (cO c) (reads c++rd) e) with
      |some W=>k W J
      |none=>False
     |ex=>K ex E J
  |none=>False
 | .scope c,rd,e,w,K=>dx N free c rd e w K
 | .rangeFunc f O X body,_,e,w,K=>
  bif free.1 then False else
  match dE e f with
  |some Y=>
   A4 P Y.val O.size w
    (fun vs w' k=>dx N free X (reads body) (hg O.toList.reverse vs.reverse e) w' fun ex E J=>match ex with
     | .normal=>Over J fun Z=>dx N free body [] E Z fun ex _ aa=>k ex aa
     |_=>False)
    (fun w'=>K .normal e w') (bif hh body then fun w'=>K .ret e w' else fun _=>False) (rh (fun i w'=>K (.exit i) e w') (hJ body))
  |none=>False
 | .goto _,_,_,_,_=>False
 | .refuse _,_,_,_,_=>False
end
theorem oV {w0:x1} (h:bN n w0 w) {l:Nat} (V:w0.heap.size≤l) (o:Obj):bN n w0 (w.putObj l o):=
 ⟨h.os,h.tape,h.output,by simpa using h.size,fun r x E J=>by
  have O:=(o7.1 E).1;rw[x1.putObj_heap_other (by omega)];exact h.aX r x E J,fun r x U E J=>by
  have O:=(o7.1 E).1;rw[x1.putObj_heap_other (by omega)];exact h.old r x U E J⟩
theorem A5 {w0:x1} (h:dR w0 w) {l:Nat} {J:Obj} (U:w.heap[l]? =some J) (V:oF J=false) (o:Obj):dR w0 (w.putObj l o):=fun r x W E=>by
 have h1:=h r x W E;by_cases O:r=l
 ·subst O;rw[U] at h1;cases h1;rw[V] at E;cases E
 ·rw[x1.putObj_heap_other O];exact h1
theorem nn {l:Nat} {J:Obj} (V:w.heap[l]? =some J) (W:eK J=false) (o:Obj):Ext w (w.putObj l o):=
 ⟨by simp,fun r x E O=>by
  by_cases U:r=l
  ·subst U;rw[V] at E;cases E;rw[W] at O;cases O
  ·rw[x1.putObj_heap_other U];exact E⟩
theorem ue {l:Nat} {o:Obj} (U:eK o=false):Ext (w.putObj l o) w:=
 ⟨by simp,fun r x E J=>by
  by_cases O:r=l
  ·subst O;rcases Nat.lt_or_ge r w.heap.size with h|h
   ·rw[x1.putObj_heap_same h] at E;cases E;rw[U] at J;cases J
   ·rw[Array.getElem?_eq_none (by simpa using h)] at E;cases E
  ·rw[x1.putObj_heap_other O] at E;exact E⟩
theorem lW (w:x1) (o:Obj):Ext w (w.alloc o):=nc w o
theorem lX (w:x1) (o:Obj):cm w (w.alloc o):=ne w o
def ic (D:Nat):Deferred:={target:=.collected D,args:=#[]}
def jA (w:x1) (J:List Deferred):Prop:=∃ E:List Nat,J=E.map ic∧E.Nodup∧ ∀ D∈E,w.heap[D]? =some (.deferred (some []))
theorem jA.cD {E:List Deferred} (h:jA w E) (J:bN n w w'):jA w' E:=by
 obtain⟨O,h1,U,V⟩:=h;exact⟨O,h1,U,fun D W=>J.aX D _ (V D W) rfl⟩
section
variable {P:Y3} {N:Nat}
def A6 (w:x1) (J O:List Deferred):Prop:=∃ E:List Nat,O=E.map ic++J∧ ∀ D∈E,w.heap.size≤D
def fc (n:Nat) (w:x1) (J:List Deferred) (w':x1) (E:List Deferred):Prop:=bN n w w'∧jA w' E∧A6 w J E
theorem fc.refl {E:List Deferred} (h:jA w E):fc n w E w E:=⟨bN.refl _ _,h,[],rfl,fun _ h=>by cases h⟩
theorem fc.trans {E:x1} {J O U:List Deferred} (h:fc n w J E O) (k:fc n E O w' U):fc n w J w' U:=by
 obtain⟨V,ad,W,a3,a4⟩:=h;obtain⟨X,Y,Z,aa,ab⟩:=k;refine⟨V.trans X,Y,Z++W,by simp[aa,a3],fun D ac=>?_⟩;rcases p8.1 ac with h|h
 ·exact Z3 V.size (ab D h)
 ·exact a4 D h
theorem fc.same {E:List Deferred} (h:jA w E) (J:bN n w w'):fc n w E w' E:=⟨J,h.cD J,[],rfl,fun _ h=>by cases h⟩
def iL:Exit→Bool
 | .panic _=>false
 | .outgrown=>false
 | .goto _=>false
 |_=>true
def kc (N:Nat) (free:ev) (J:Bool) (K:Exit→Env→x1→Prop) (D:List Nat) (a:Act) (w:x1) (ex:Exit) (a':Act) (w':x1):Prop:=
 iL ex=true∧ ∃ E,K ex E w'∧U2 N E a'∧(∀ t,t∉D→a'.tmps.getD t undef=a.tmps.getD t undef)∧(J=true→a'.defers=a.defers)∧
  (free.1=false→fc free.2 w a.defers w' a'.defers)
theorem kc.step {free:ev} {J O:Bool} {K:Exit→Env→x1→Prop} {U:List Nat} {a E a':Act} {V:x1} {ex:Exit} (h:kc N free O K U E V ex a' w')
  (X:∀ t,t∈U→t∈D) (Y:∀ t,t∉D→E.tmps.getD t undef=a.tmps.getD t undef) (Z:J=true→O=true) (ae:J=true→E.defers=a.defers)
  (aa:free.1=false→fc free.2 w a.defers V E.defers):kc N free J K D a w ex a' w':=by
 obtain⟨ab,ac,h1,ad,af,ag,ah⟩:=h;exact⟨ab,ac,h1,ad,fun t W=>(af t fun h=>W (X t h)).trans (Y t W),fun h=>(ag (Z h)).trans (ae h),fun h=>(aa h).trans (ah h)⟩
theorem oW {D:List Nat} {t:Nat} {x:dw}:∀ {e:Env},look (jy D e) t=some x→look e t=some x∧t∉D
 |[],h=>by cases h
 |(s,y)::r,h=>by
  simp only[jy] at h;cases hm:hf s D with
  |true=>
   rw[hm] at h;simp only[cond_true] at h;obtain⟨h1,J⟩:=oW h;refine⟨?_,J⟩;simp only[look];cases E:V6 s t with
   |true=>exact absurd (re.1 hm) (by rw[Nat.eq_of_beq_eq_true E];exact J)
   |false=>exact h1
  |false=>
   rw[hm] at h;simp only[cond_false,look] at h ⊢;cases E:V6 s t with
   |true=>
    rw[E] at h;refine⟨h,fun O=>?_⟩;rw[←Nat.eq_of_beq_eq_true E] at O;rw[re.2 O] at hm;cases hm
   |false=>
    rw[E] at h;exact oW h
theorem rj {a:Act} {e:Env}:∀ {S:List Nat} {vs:List y0},U2 N e a→(∀ p∈S.zip vs,a.tmps.getD p.1 undef=p.2)→U2 N (hg S vs e) a
 |[],_,h,_=>by simpa[hg] using h
 |t::r,[],h,_=>by simpa[hg] using h
 |t::r,v::vs,h,O=>by
  have U:=rj (S:=r) (vs:=vs) h fun p V=>O p (by simp[V]);refine⟨U.1,fun s x E=>?_⟩;simp only[hg,look] at E;cases J:V6 t s with
  |true=>
   rw[J] at E;simp only[cond_true,b8] at E;subst E;rw[←Nat.eq_of_beq_eq_true J];exact O (t,v) (by simp)
  |false=>rw[J] at E;exact U.2 s x E
theorem oX {e:Env} {a:Act} (O:U2 N e a):∀ {S:List Nat} {vs:List y0},ib e S=some vs→vs.length=S.length∧ ∀ p∈S.zip vs,a.tmps.getD p.1 undef=p.2
 |[],vs,h=>by simp[ib] at h;subst h;simp
 |t::r,vs,h=>by
  simp only[ib] at h;cases J:look e t with
  |none=>rw[J] at h;cases h
  |some x=>
   rw[J] at h;simp only at h;cases ac:ib e r with
   |none=>rw[ac] at h;cases h
   |some us=>
    rw[ac] at h;simp only[b8] at h;subst h;obtain⟨h1,U⟩:=oX O ac;refine⟨by simp[h1],fun p E=>?_⟩;simp only[List.zip_cons_cons,U4] at E;rcases E with rfl|E
    ·exact O.2 t x J
    ·exact U p E
theorem A7 {a a':Act} {e E:Env} (J:U2 N e a) (O:U2 N E a') (U:∀ t,t∉D→a'.tmps.getD t undef=a.tmps.getD t undef):U2 N (jy D e) a':=
 ⟨O.1,fun t x h=>by
  obtain⟨h1,V⟩:=oW h;rw[U t V];exact J.2 t x h1⟩
theorem A8 {o:W9} {t:Nat} (E:o.dst=some t) (l:List W9) (hm:o∈l):t∈kN l:=by
 induction l with
 |nil=>cases hm
 |cons o' l J=>
  simp only[kN];rcases U4.1 hm with h|h
  ·rw[←h,E];simp
  ·have:=J h;cases o'.dst with
   |none=>exact this
   |some d=>exact .tail _ this
theorem uf {free:ev} {J:Bool} {K:Exit→Env→x1→Prop} {a a':Act} (O:free.1=false→jA w a.defers) (h:j7 N free (K .normal) D a w a' w'):
  kc N free J K D a w .normal a' w':=by
 obtain⟨U,h1,V,E,W⟩:=h;exact⟨rfl,U,h1,V,E.2,fun _=>E.1,fun ae=>by rw[E.1];exact fc.same (O ae) (W ae)⟩
theorem ug:∀ (E:List Nat) (vs:List y0) (p:Nat) (v:y0) (e:Env),E.length=vs.length→hg (E++[p]) (vs++[v]) e=hg E vs ((p,.v v)::e)
 |[],[],_,_,_,_=>rfl
 |[],_::_,_,_,_,h=>by simp at h
 |_::_,[],_,_,_,h=>by simp at h
 |q::E,u::vs,p,v,e,h=>by
  simp only[List.cons_append,hg];rw[ug E vs p v e (by simpa using h)]
theorem uh:∀ (E:List Nat) (vs:List y0) (J:Array y0) (e:Env),E.length=vs.length→(E.all fun t=>Nat.blt t N)=true→U2 N e {tmps:=J,defers:=[]}→
  U2 N (hg E.reverse vs.reverse e) {tmps:=(E.zip vs).foldl (fun J (p:Nat×y0)=>J.setIfInBounds p.1 p.2) J,defers:=[]}
 |[],[],_,_,_,_,h=>h
 |[],_::_,_,_,h,_,_=>by simp at h
 |_::_,[],_,_,h,_,_=>by simp at h
 |p::E,v::vs,J,e,V,O,h=>by
  have U:E.length=vs.length:=by simpa using V
  simp only[List.all_cons,W0] at O;simp only[List.zip_cons_cons,List.foldl_cons,List.reverse_cons];rw[ug _ _ _ _ _ (by simpa using U)];exact uh E vs _ _ U O.2 (h.put (d:=some p) (x:=.v v) (v:=v) O.1 rfl)
def hj (free:ev) (c:Code):Bool:=free.1|| !ia c
theorem ui:∀ f a b:Bool,(f|| !(a||b))=true→(f|| !a)=true:=by decide
theorem uj:∀ f a b:Bool,(f|| !(a||b))=true→(f|| !b)=true:=by decide
def exitCode:Exit→Option Code
 | .ret=>some .ret
 | .exit id=>some (.exit id)
 |_=>none
end
section
variable {P:Y3} {N:Nat}
def Sound (P:Y3) (N:Nat) (c:Code):Prop:=
 ∀ (free:ev) (r:Option Nat) (rd:List Nat) (e:Env) (a:Act) (w:x1) (K:Exit→Env→x1→Prop) (Q:Exit→Act→x1→Prop),
  wf N c=true→(∀ l,r=some l→free.1=false∧ ∃ E,w.heap[l]? =some (.loop E))→(free.1=false→jA w a.defers)→
  dx P N free c rd e w K→U2 N e a→(∀ ex a' w',kc N free (hj free c) K (cO c) a w ex a' w'→Q ex a' w')→(∀ J a w,¬Q (.panic J) a w)→
  c.wpIn (dt r) 0 P Q a w
theorem A9 {x y:Code} (J:Sound P N x) (ax:Sound P N y):Sound P N (.seq x y):=by
 intro free r rd e a w K Q ad ak ay h al am an;simp only[wf,W0] at ad;have ao:∀ t,t∈cO x→t∈cO (.seq x y):=fun t W=>by simp[cO,W]
 have az:∀ t,t∈cO y→t∈cO (.seq x y):=fun t W=>by simp[cO,W]
 have ap:hj free (.seq x y)=true→hj free x=true:=fun h=>ui _ _ _ h;have aA:hj free (.seq x y)=true→hj free y=true:=fun h=>uj _ _ _ h;refine wpIn_seq ?_;have aq:∀ (O:Env) (U:Act) (E:x1),dx P N free y rd O E K→U2 N O U→(∀ t,t∉cO x→U.tmps.getD t undef=a.tmps.getD t undef)→
   (hj free (.seq x y)=true→U.defers=a.defers)→(free.1=false→fc free.2 w a.defers E U.defers)→y.wpIn (dt r) 0 P Q U E:=by
  intro O U E h1 X Y ae V;refine ax free r rd O U E K Q ad.2 ?_ (fun h=>(V h).2.1) h1 X ?_ an
  ·intro l aB;obtain⟨au,aC,ab⟩:=ak l aB;exact⟨au,aC,(V au).1.aX _ _ ab rfl⟩
  ·intro ex a' w' aa;exact am ex a' w' (aa.step az (fun t W=>Y t fun h=>W (ao t h)) aA ae V)
 have av:∀ (Z:Exit→Env→x1→Prop),dx P N free x (reads y++rd) e w Z→
   (∀ O U E,kc N free (hj free x) Z (cO x) a w .normal U E→U2 N O U→Z .normal O E→(∀ t,t∉cO x→U.tmps.getD t undef=a.tmps.getD t undef)→
    (hj free (.seq x y)=true→U.defers=a.defers)→(free.1=false→fc free.2 w a.defers E U.defers)→y.wpIn (dt r) 0 P Q U E)→
   (∀ ex O E,ex≠ .normal→Z ex O E→K ex O E)→x.wpIn (dt r) 0 P (Exit.then (y.wpIn (dt r) 0 P Q) Q) a w:=by
  intro Z ac V aD;refine J free r _ e a w Z _ ad.1 ak ay ac al ?_ ?_
  ·intro ex U E aa;cases ex with
   |normal=>
    have aE:=aa;obtain⟨ab,O,h1,af,ag,ah,ai⟩:=aa;exact V O U E aE af h1 ag (fun h=>ah (ap h)) ai
   |_=>
    obtain⟨ab,O,h1,af,ag,ah,ai⟩:=aa;refine am _ U E ⟨ab,O,aD _ O E (by simp) h1,af,fun t W=>ag t fun h=>W (ao t h),fun h=>ah (ap h),ai⟩
  ·intro aF a w aG;exact an aF a w aG
 simp only[dx] at h;cases aw:Nat.ble 2 (iK x) with
 |false=>
  rw[aw] at h;refine av _ h (fun O U E _ X h1 Y ae V=>aq O U E h1 X Y ae V) ?_;intro ex O E aj h1;cases ex <;> first|exact absurd rfl aj|exact h1
 |true=>
  rw[aw] at h;refine av _ h (fun O U E _ X h1 Y ae V=>?_) ?_
  ·simp only at h1;cases ac:ib O (nk N (cO x) (reads y++rd)) with
   |none=>rw[ac] at h1;exact h1.elim
   |some vs=>
    rw[ac] at h1;obtain⟨aH,aI⟩:=oX X ac;simp only at h1;rw[oQ _ _ _ aH] at h1;exact aq _ U E h1 (rj (A7 al X Y) aI) Y ae V
  ·intro ex O E aj h1;cases ex <;> first|exact absurd rfl aj|exact h1
theorem Ba {c:Code} (ax:Sound P N c):Sound P N (.loop c):=by
 intro free r rd e a w K Q am ay az h ad aA aB;simp only[wf] at am;simp only[dx] at h;generalize aO:nl N (cO c) (reads c++rd) e=S at h;cases ac:ib e S with
 |none=>rw[ac] at h;exact h.elim
 |some vs=>
  rw[ac] at h;simp only at h;obtain⟨I,aC,U,aD⟩:=h;obtain⟨aE,aF⟩:=oX ad ac;let Inv:Act→x1→Prop:=fun E J=>∃ us,us.length=S.length∧app S.length I us J∧(∀ p∈S.zip us,E.tmps.getD p.1 undef=p.2)∧E.tmps.size=N∧
   (∀ t,t∉cO c→E.tmps.getD t undef=a.tmps.getD t undef)∧(hj free c=true→E.defers=a.defers)∧(free.1=false→fc free.2 w a.defers J E.defers)
  let W:Act→List y0:=fun E=>S.map fun t=>E.tmps.getD t undef;have an:∀ (E:Act) (us:List y0),us.length=S.length→(∀ p∈S.zip us,E.tmps.getD p.1 undef=p.2)→W E=us:=by
   intro E us X Y;apply List.ext_getElem
   ·simp[W,X]
   ·intro i h1 O;have hi:i<S.length:=by simpa[W] using h1
    have aG:(S[i],us[i])∈S.zip us:=by
     have:=U6 (l:=S.zip us) (n:=i) (by simp[List.length_zip,X,hi]);simpa using this
    simpa[W] using Y _ aG
  refine wpIn_loop Inv (fun E J=>app S.length aC (W E) J) ⟨vs,aE,U,aF,ad.1,fun _ _=>rfl,fun _=>rfl,fun ae=>fc.refl (az ae)⟩ ?_;rintro E J ⟨us,X,aH,Y,aI,ao,ae,Z⟩;have aa:=oR S.length _ us aD;rw[oQ _ _ _ X] at aa;have aa:=aa J aH;have aJ:U2 N (hg S us (jy (cO c) e)) E:=by
   refine rj (a:=E) (e:=jy (cO c) e) ⟨aI,fun t x ab=>?_⟩ Y;obtain⟨h1,O⟩:=oW ab;rw[ao t O];exact ad.2 t x h1
  refine ax free r _ _ E J _ _ am ?_ (fun h=>(Z h).2.1) aa aJ ?_ ?_
  ·intro l aK;obtain⟨ap,aL,U⟩:=ay l aK;exact⟨ap,aL,(Z ap).1.aX _ _ U rfl⟩
  ·intro ex af V ag;have aq:∀ t,t∉cO c→af.tmps.getD t undef=a.tmps.getD t undef:=by
    obtain⟨_,_,_,_,ah,_,_⟩:=ag;exact fun t ab=>(ah t ab).trans (ao t ab)
   cases ex with
   |normal=>
    obtain⟨U,ai,h1,O,ah,aj,ak⟩:=ag;simp only at h1;cases al:ib ai S with
    |none=>rw[al] at h1;exact h1.elim
    |some au=>
     rw[al] at h1;obtain⟨av,aw⟩:=oX O al;refine⟨⟨au,av,h1.1,aw,O.1,aq,fun h=>(aj h).trans (ae h),fun h=>(Z h).trans (ak h)⟩,?_⟩;rw[an E us X Y,an af au av aw];exact h1.2
   |_=>
    obtain⟨U,ai,h1,O,ah,aj,ak⟩:=ag;exact aA _ af V ⟨U,ai,h1,O,aq,fun h=>(aj h).trans (ae h),fun h=>(Z h).trans (ak h)⟩
  ·intro aM a w aN;exact aB aM a w aN
theorem Bb {o:Obj} (h:eK o=false):book o=true∨oF o=true:=by cases o <;> first|exact .inl rfl|exact .inr rfl|cases h
theorem Bc {l:Nat} {O Y U:x1} {Z aa:Obj} (ab:O.heap[l]? =some Z) (E:bN n O Y) (J:bN n (Y.putObj l aa) U) (ac:l<U.heap.size) (hi:dR O U):cm O (U.putObj l Z):=
 ⟨J.os.trans E.os,h8.trans J.tape E.tape,J.output.trans E.output,by have h1:=E.size;have ad:=J.size;simp at ad ⊢;omega,fun r x V ae=>by
  by_cases X:r=l
  ·subst X;rw[ab] at V;cases V;exact x1.putObj_heap_same ac
  ·rw[x1.putObj_heap_other X];rcases Bb ae with W|W
   ·exact J.aX r x (by rw[x1.putObj_heap_other X];exact E.aX r x V W) W
   ·exact hi r x V W⟩
theorem Bd {f:U1} {ah:Array Tmp} {ap body:Code} (bl:Sound P N ap) (aA:Sound P N body):Sound P N (.rangeFunc f ah ap body):=by
 intro free r rd e a w K Q aZ aB bm h aw bn ce;simp only[wf,W0] at aZ;obtain⟨bo,bp,bq⟩:=aZ;simp only[dx] at h;obtain⟨fr,b⟩:=free;cases fr with
 |true=>exact h.elim
 |false=>
  simp only[cond_false] at h;cases ae:dE e f with
  |none=>rw[ae] at h;exact h.elim
  |some cg=>
   rw[ae] at h;obtain⟨a1,o,G,g,cap,ch,ci,cj,aI,I,aJ,br,⟨a2,bt⟩,bu,ha6,aC,aK,hbw,bx,bz,bA,bB,bC⟩:=h;have bD:∀ m k ex w',iL ex=true→ex≠ .normal→aJ m k ex w'→K ex e w':=by
    intro m k ex w' ax aL J;cases ex with
    |normal=>exact absurd rfl aL
    |ret=>
     have:=bB m k w' J;cases aB:hh body with
     |true=>rw[aB] at this;exact this
     |false=>rw[aB] at this;exact this.elim
    |exit i=>exact ud (bC m k i w' J)
    |_=>cases ax
   have bE:a.eval f= .func (.func g) #[] cap:=by rw[aw.dE ae];exact br
   refine wpIn_rangeFunc ?_;intro fn _;obtain⟨D,mark,l,Y,V,bF,W,bG,aM,ai,bH,aD⟩:∃ (D:Nat) (mark:List Deferred) (l:Nat) (Y:x1) (V:LoopState→Option Code→Loop),
     (Instr.enterLoop fn a.tmps ah ap body (dt r).round).run P w= .ok (l,mark) Y∧
     V=(fun st bI=>{state:=st,pending:=bI,fn,tmps:=a.tmps,params:=ah,assign:=ap,body,defers:=D})∧
     Y.heap[l]? =some (.loop (V .ready none))∧(mark=[]∨(mark=[ic D]∧Y.heap[D]? =some (.deferred (some []))∧w.heap.size≤D∧D≠l))∧Ext w Y∧bN b w Y∧w.heap.size≤l:=by
    cases r with
    |none=>
     refine⟨w.heap.size,[ic w.heap.size],w.heap.size+1,_,_,run_enterLoop_outer _ _ _ _ _,rfl,?_,.inr ⟨rfl,?_,r9 _,by omega⟩,?_,?_,by omega⟩
     ·have:=x1.alloc_heap_new (w.alloc (.deferred (some []))) (.loop {state:=.ready,pending:=none,fn,tmps:=a.tmps,params:=ah,assign:=ap,body,defers:=w.heap.size});rwa [x1.size_alloc] at this
     ·exact (Below.heap_alloc _ _ _ (by simp)).trans (x1.alloc_heap_new w _)
     ·exact (lW w _).trans (lW _ _)
     ·exact ((lX w _).trans (lX _ _)).b
    |some bJ=>
     obtain⟨_,bK,ac⟩:=aB bJ rfl;exact⟨bK.defers,[],w.heap.size,_,_,run_enterLoop_inner ac _ _ _ _ _,rfl,x1.alloc_heap_new w _,.inl rfl,lW _ _,(lX _ _).b,r9 _⟩
   let aj:x1→Prop:=fun E=>mark=[]∨(mark=[ic D]∧E.heap[D]? =some (.deferred (some []))∧w.heap.size≤D∧D≠l);have ay:∀ {m:Nat} {A B:x1},bN m A B→aj A→aj B:=fun af h=>h.imp id fun⟨h1,O,X⟩=>⟨h1,af.aX _ _ O rfl,X⟩;have aE:∀ {A:x1} (o:Obj),aj A→aj (A.putObj l o):=fun o h=>h.imp id fun⟨h1,O,X,aa⟩=>⟨h1,(x1.putObj_heap_other aa).trans O,X,aa⟩;let a7:Nat→a1→x1→Prop:=fun m k E=>I m k E∧E.heap[l]? =some (.loop (V .ready none))∧bN b w E∧aj E;let a8:Nat→a1→x1→Prop:=fun m k E=>∃ ex c,iL ex=true∧exitCode ex=some c∧aJ m k ex E∧E.heap[l]? =some (.loop (V .done (some c)))∧bN b w E∧aj E;have own:∀ {m:Nat} {A B:x1},ad (fun r=>o=true∧Y.heap.size≤r∧r<m) A B→ad (fun r=>o=true∧w.heap.size≤r∧r<m) A B:=fun h=>h.mono fun r _ h=>⟨h.1,Z3 ai.size h.2.1,h.2.2⟩;have aN:=bt l a7 a8 Y (fun m k A B he af ⟨h1,O,X,aa⟩=>⟨aC m k A B (own he) h1,af.aX _ _ O rfl,X.step af ai.size,ay af aa⟩)
    (fun m k A B he af ⟨ex,c,ac,h1,O,X,aa,az⟩=>⟨ex,c,ac,h1,aK m k ex A B (own he) O,af.aX _ _ X rfl,aa.step af ai.size,ay af az⟩) ?round (ha6 _ _ ai hbw) fun m=>⟨aC m _ _ _ (ai.U _) (bx m),bG,bH,aM⟩
   case round=>
    intro m k aO vs E bL bM haI ba ⟨hi,aF,bO,bP⟩;have aP:=bu k vs aO E ba;have bb:=run_yield (P:=P) (args:=vs.toArray) aF (by rw[W];simp[aP]);rw[W] at bb;refine⟨fn,_,ap,body,bb,roundIn_of_wpIn trivial ?_⟩;have bQ:(ah.zip vs.toArray).foldl (fun tmps x=>match x with|(t,a)=>tmps.setIfInBounds t a) a.tmps=(ah.toList.zip vs).foldl (fun bR (p:Nat×y0)=>bR.setIfInBounds p.1 p.2) a.tmps:=by
     rw[←Array.foldl_toList,Array.toList_zip]
    have bc:=uh (N:=N) ah.toList vs a.tmps e (by simp[aP]) bo (show U2 N e {tmps:=a.tmps,defers:=[]} from⟨aw.1,aw.2⟩);rw[←bQ] at bc;have bS:E.heap[l]? =some (.loop (V .ready none)):=aF;refine bl (false,b) (some l) _ _ _ E _ _ bp (fun l' aQ=>⟨rfl,by cases aQ;exact⟨_,aF⟩⟩) (fun _=>⟨[],rfl,List.nodup_nil,fun D aM=>by cases aM⟩) (by have aA:=oR _ _ vs bz;rw[oQ _ _ _ aP] at aA;exact aA m k aO E (Z3 ai.size bL) bM haI ba hi) bc ?_ (fun _ _ _ h=>h);intro ex bd Z aR;obtain⟨ac,ck,h1,O,X,aa,az⟩:=aR;obtain⟨ak,bT,_⟩:=az rfl;cases ex with
    |normal=>
     have aq:Z.heap[l]? =some (.loop (V .ready none)):=ak.aX _ _ aF rfl;have bU:=(o7.1 aq).1;refine⟨_,run_beginRound aq (by rw[W]),?_⟩;have bV:Ext Z (Z.putObj l (.loop {V .ready none with state:=.busy})):=nn aq rfl _;have be:(Z.putObj l (.loop {V .ready none with state:=.busy})).heap[l]? =some (.loop {V .ready none with state:=.busy}):=x1.putObj_heap_same bU;have bW:jA (Z.putObj l (.loop {V .ready none with state:=.busy})) bd.defers:=by
      obtain⟨aG,au,av,ag⟩:=bT;refine⟨aG,au,av,fun al am=>?_⟩;have:=ag al am;have aL:al≠l:=fun he=>by rw[he,aq] at this;cases this
      rw[x1.putObj_heap_other aL];exact this
     have bf:bN b w (Z.putObj l (.loop {V .ready none with state:=.busy})):=oV (bO.trans ak) aD _;have bg:=aE (.loop {V .ready none with state:=.busy}) (ay ak bP);have bX:=h1 _ bV (ue rfl) (A5 (dR.refl _) aq rfl _);refine aA (false,b) (some l) _ _ bd _ _ _ bq (fun l' aQ=>⟨rfl,by cases aQ;exact⟨_,be⟩⟩) (fun _=>bW) bX O ?_ (fun _ _ _ h=>h);intro bY cl an aR;obtain⟨aS,cn,aT,cp,cq,cr,bZ⟩:=aR;obtain⟨ab,_,_⟩:=bZ rfl;have aU:an.heap[l]? =some (.loop {V .ready none with state:=.busy}):=ab.aX _ _ be rfl;have aV:=(o7.1 aU).1;have bh:=fun b1=>run_endRound (P:=P) b1 aU;have aH:∀ (o:Obj),Ext an (an.putObj l o):=fun o=>nn aU rfl o;have bi:∀ (ex:Exit) (c:Code),iL ex=true→exitCode ex=some c→(bif o then False else aJ m k ex an)→
       ∃ v w',(Instr.endRound l (some c)).run P an= .ok v w'∧ ∃ aW,Ending.returned v= .returned aW∧((aW= .bool true∧aI w'∧a7 m aO w'∧(G=true∨o=true→cm E w')∧E.heap.size≤w'.heap.size∧(o=true→ad (fun r=>r<Y.heap.size∨m≤r) E w'))∨(o=false∧aW= .bool false∧a8 m k w')):=by
      intro ex c ax b2 bj;cases o with
      |true=>exact bj.elim
      |false=>
       refine⟨_,_,bh (some c),_,rfl,.inr ⟨rfl,rfl,ex,c,ax,b2,aK m k ex _ _ ((aH _).U _) bj,?_,oV (bf.trans ab) aD _,aE _ (ay ab bg)⟩⟩;rw[x1.putObj_heap_same aV,W];rfl
     cases bY with
     |normal=>
      obtain⟨au,av,ag⟩:=aT;have b3:G=true∨o=true→dR E an:=by
       cases o with
       |true=>exact fun _=>ag.1
       |false=>exact fun h=>ag (h.elim id fun h=>nomatch h)
      have b4:o=true→ad (fun r=>r<Y.heap.size∨m≤r) E an:=by
       cases o with
       |true=>exact fun _=>ag.2.mono fun r _ h=>h.imp (fun h=>Nat.lt_of_lt_of_le h ai.size) id
       |false=>exact fun h=>nomatch h
      refine⟨_,_,bh none,_,rfl,.inl ⟨rfl,ha6 _ _ (aH _) au,⟨aC m _ _ _ ((aH _).U _) av,?_,oV (bf.trans ab) aD _,aE _ (ay ab bg)⟩,fun b5=>?_,?_,fun b6=>(b4 b6).trans ((aH _).U _)⟩⟩
      ·rw[x1.putObj_heap_same aV,W];rfl
      ·have:=Bc bS ak ab aV (b3 b5);subst W;exact this
      ·have h1:=ak.size;have O:=ab.size;simp at O ⊢;omega
     |ret=>exact bi .ret _ rfl rfl aT
     |exit id=>exact bi (.exit id) _ rfl rfl aT
     |goto t=>cases aS
     |panic b7=>cases aS
     |outgrown=>cases aS
    |_=>exact h1.elim
   have aN:=fp.calls P aN a2;refine⟨l,mark,Y,{target:=.fn (.func g) cap,args:=#[.func (.yield l) #[] #[]]},Y,g,#[.func (.yield l) #[] #[]]++cap,Y,bF,?_,fun _ _=>trivial,?_,qY _ _,?_⟩
   ·simp only[resolve,bE];simp[go_sem]
   ·simp only[invoke];exact a2 _ _
   ·have b8:(#[.func (.yield l) #[] #[]]++cap:Array y0)=(y0.func (.yield l) #[] #[]::cap.toList).toArray:=by apply Array.toList_inj.1;simp
    rw[b8];refine CallsIn.mono (tQ aN) ?_;rintro ct Z ⟨v,rfl,b9⟩;have left:∀ (ao:Loop) (ex:Exit),iL ex=true→Z.heap[l]? =some (.loop ao)→ao.state≠ .busy→bN b w Z→aj Z→K ex e (Z.putObj l (.loop {ao with state:=.exhausted}))→
      Q ex {a with defers:=mark++a.defers} (Z.putObj l (.loop {ao with state:=.exhausted})):=by
     intro ao ex ax aq cu ak bk ca;have ab:bN b w (Z.putObj l (.loop {ao with state:=.exhausted})):=oV ak aD _;refine bn ex _ _ ⟨ax,e,ca,⟨aw.1,aw.2⟩,fun _ _=>rfl,(fun h=>by simp[hj,ia] at h),fun _=>⟨ab,?_,?_⟩⟩
     case refine_2=>
      rcases bk with hm|⟨hm,_,cb,_⟩
      ·exact⟨[],by simp[hm],fun _ h=>by cases h⟩
      ·exact⟨[D],by simp[hm],fun al am=>by simp at am;omega⟩
     obtain⟨aG,au,av,ag⟩:=bm rfl;have aY:=aE (.loop {ao with state:=.exhausted}) bk;rcases aY with hm|⟨hm,aY,cb,_⟩
     ·exact⟨aG,by simp[hm,au],av,fun al am=>ab.aX _ _ (ag al am) rfl⟩
     ·refine⟨D::aG,by simp[hm,au],List.nodup_cons.2 ⟨fun cc=>?_,av⟩,fun al am=>?_⟩
      ·have:=(o7.1 (ag D cc)).1;omega
      ·rcases U4.1 am with h|h
       ·rw[h];exact aY
       ·exact ab.aX _ _ (ag al h) rfl
    rcases b9 with⟨m,k,cd,h1,O,X,aa⟩|⟨m,k,ex,c,ac,h1,O,X,aa,az⟩
    ·refine⟨none,_,by have:=run_endLoop (P:=P) O (by rw[W];simp);rw[W] at this;exact this,?_⟩;have:=left (V .ready none) .normal rfl O (by rw[W];simp) X aa (bA m _ _ cd (aC m _ _ _ ((nn O rfl _).U _) h1));rw[W] at this;exact this
    ·refine⟨some c,_,by have:=run_endLoop (P:=P) X (by rw[W];simp);rw[W] at this;exact this,?_⟩;have:=left (V .done (some c)) ex ac X (by rw[W];simp) aa az (bD m k ex _ ac (by intro he;rw[he] at h1;cases h1) (aK m _ _ _ _ ((nn X rfl _).U _) O));rw[W] at this;cases ex with
     |normal=>cases h1
     |ret=>cases h1;exact wpIn_ret this
     |exit id=>cases h1;exact wpIn_exit this
     |goto t=>cases ac
     |panic b7=>cases ac
     |outgrown=>cases ac
theorem oY {b:Frame} {a:Act} {k:List Item} {cs:List Frame} {c:Code}:
  step P (lone (b.atR a (.code (.scope c)::k)) cs w)= .next (lone (b.atR a (.code c:: .inScope c::k)) cs w):=
 step_lone_go (by simp[stepG,stepG.exec,Frame.atR])
theorem Be {b:Frame} {a:Act} {k:List Item} {cs:List Frame} {c:Code}:
  step P (lone (b.atR a (.inScope c::k)) cs w)= .next (lone (b.atR a k) cs w):=
 step_lone_go (by simp[stepG,stepG.exec,Frame.atR])
theorem Bf {F:Fence} {c:Code} {Q:Exit→Act→x1→Prop} {a:Act} (h:c.wpIn F n P (fun ex a' w'=>iL ex=true∧Q ex a' w') a w):
  (Code.scope c).wpIn F n P Q a w:=by
 intro b k cs ab U V;have E:(lone (b.atR a (.code (.scope c)::k)) cs w).fenced P F:=fenced_calm U V rfl;obtain⟨e,W,X,⟨Y,Z⟩,O⟩:=h b (.inScope c::k) cs ab U V;have J:∀ id,exitTo id (.inScope c::k)=exitTo id k:=fun id=>by simp[exitTo]
 cases e with
 |normal=>exact⟨.normal,W,X,Z,.head E oY (StepsIn.trans O (.one (fenced_calm U V rfl) Be))⟩
 |exit id=>
  exact⟨.exit id,W,X,Z,fun ac aa=>.head E oY (O.1 ac (by rw[J];exact aa)),
   fun ad aa=>let⟨ae,h1,af⟩:=O.2 ad (by rw[J];exact aa);⟨ae,h1,.head E oY af⟩⟩
 |ret=>exact⟨_,W,X,Z,.of_steps (.one E oY) O⟩
 |goto l=>cases Y
 |panic ag=>cases Y
 |outgrown=>cases Y
theorem sound (hm:P.follows .mixedOrders=true) (c:Code):Sound P N c:=by
 induction c with
 |skip=>exact fun free r rd e a w K Q _ _ O h E U _=>wpIn_skip (U _ _ _ ⟨rfl,e,h,E,fun _ _=>rfl,fun _=>rfl,fun ae=>fc.refl (O ae)⟩)
 |label l=>exact fun free r rd e a w K Q _ _ O h E U _=>wpIn_label (U _ _ _ ⟨rfl,e,h,E,fun _ _=>rfl,fun _=>rfl,fun ae=>fc.refl (O ae)⟩)
 |ret=>exact fun free r rd e a w K Q _ _ O h E U _=>wpIn_ret (U _ _ _ ⟨rfl,e,h,E,fun _ _=>rfl,fun _=>rfl,fun ae=>fc.refl (O ae)⟩)
 |exit i=>exact fun free r rd e a w K Q _ _ O h E U _=>wpIn_exit (U _ _ _ ⟨rfl,e,h,E,fun _ _=>rfl,fun _=>rfl,fun ae=>fc.refl (O ae)⟩)
 |goto l=>exact fun free r rd e a w K Q _ _ O h E U _=>h.elim
 |refuse s=>exact fun free r rd e a w K Q _ _ O h E U _=>h.elim
 |region id ops ap=>
  intro free r rd e a w K Q V Y O h E U Z;simp only[wf,W0] at V;have al:∀ o∈ops.toList,∀ t,o.dst=some t→t∈kN ops.toList:=fun o aq t ac=>A8 ac _ aq;simp only[dx] at h;cases ap with
  |false=>exact AO al V.1 h E fun a' w' W=>U _ _ _ (uf O W)
  |true=>
   simp only[Y0,Bool.false_or] at V;exact AX hm V.2 Z al V.1 (fun w' h1 aa ab=>h w' h1 aa ab) E fun a' w' W=>U _ _ _ (uf O W)
 |seq x y J ah=>exact A9 J ah
 |cond c x y J ah=>
  intro free r rd e a w K Q V Y O h E U Z;simp only[wf,W0] at V;have am:∀ ex a' w',kc N free (hj free x) K (cO x) a w ex a' w'→Q ex a' w':=fun ex a' w' W=>U ex a' w' (by
   obtain⟨ag,ad,h1,aa,ab,af,ai⟩:=W;exact⟨ag,ad,h1,aa,fun t ac=>ab t fun h=>ac (by simp[cO,h]),(fun h=>af (ui _ _ _ h)),ai⟩)
  have an:∀ ex a' w',kc N free (hj free y) K (cO y) a w ex a' w'→Q ex a' w':=fun ex a' w' W=>U ex a' w' (by
   obtain⟨ag,ad,h1,aa,ab,af,ai⟩:=W;exact⟨ag,ad,h1,aa,fun t ac=>ab t fun h=>ac (by simp[cO,h]),(fun h=>af (uj _ _ _ h)),ai⟩)
  simp only[dx] at h;cases X:dE e c with
  |none=>rw[X] at h;exact h.elim
  |some v=>
   rw[X] at h;cases v with
   |b t=>
    cases t with
    |true=>exact wpIn_cond (t:=true) (E.dE X) (J free r rd e a w K Q V.1 Y O h E am Z)
    |false=>exact wpIn_cond (t:=false) (E.dE X) (ah free r rd e a w K Q V.2 Y O h E an Z)
   |v z=>
    obtain⟨t,au,ac,ae⟩:=h;refine wpIn_cond (t:=t) ((E.dE X).trans au) ?_;cases t with
    |true=>exact J free r rd e a w K Q V.1 Y O (ac rfl) E am Z
    |false=>exact ah free r rd e a w K Q V.2 Y O (ae rfl) E an Z
   |u=>exact h.elim
 |block id c X=>
  intro free r rd e a w K Q V Y O h E U Z;simp only[wf] at V;simp only[dx] at h;refine wpIn_block (X free r rd e a w _ _ V Y O h E ?_ fun ao a w aj=>Z ao a w aj);intro ex a' w' W;obtain⟨ag,ad,h1,aa,ab,af⟩:=W;cases ex with
  |exit i=>
   simp only[Exit.inBlock];simp only at h1;by_cases hi:i=id
   ·rw[if_pos hi];rw[hi,Nat.beq_refl] at h1;exact U _ _ _ ⟨rfl,ad,h1,aa,ab,af⟩
   ·rw[if_neg hi];have:V6 i id=false:=by
     cases ak:V6 i id with
     |true=>exact absurd (Nat.eq_of_beq_eq_true ak) hi
     |false=>rfl
    rw[this] at h1;exact U _ _ _ ⟨rfl,ad,h1,aa,ab,af⟩
  |_=>exact U _ _ _ ⟨ag,ad,h1,aa,ab,af⟩
 |loop c X=>exact Ba X
 |scope c X=>
  intro free r rd e a w K Q V Y O h E U Z;exact Bf (X free r rd e a w K (fun ex a' w'=>iL ex=true∧Q ex a' w') V Y O h E (fun ex a' w' W=>⟨W.1,U ex a' w' W⟩) fun ao a w aj=>by cases aj.1)
 |rangeFunc f aw ax body av ak=>exact Bd av ak
def iM:Nat→List y0→Env
 |_,[]=>[]
 |i,v::r=>(i,.v v)::iM (i+1) r
def kQ (P:Y3) (e:Env) (w:x1):List ResultVar→(List y0→Prop)→Prop
 |[],K=>K []
 | .tmp t::r,K=>match look e t with
  |some x=>kQ P e w r fun vs=>K (x.val::vs)
  |none=>False
 | .cell a t::r,K=>match look e a with
  |some x=>O P (do loadVar t (←asAddr x.val)) w fun v=>kQ P e w r fun vs=>K (v::vs)
  |none=>False
def oZ:List y0→y0
 |[v]=>v
 |vs=>.tuple vs.toArray
def jB (P:Y3) (E:List ResultVar) (marks:Bool) (Q:y0→x1→Prop):Exit→Env→x1→Prop
 | .normal,e,w| .ret,e,w=>kQ P e w E fun vs=>bif marks then uc w fun w'=>Q (oZ vs) w' else Q (oZ vs) w
 |_,_,_=>False
def kd:List ResultVar→List Nat
 |[]=>[]
 | .tmp t::r=>t::kd r
 | .cell a _::r=>a::kd r
theorem uk:∀ (vs:List y0) (i t:Nat) (x:dw),look (iM i vs) t=some x→ ∃ j v,t=i+j∧vs[j]? =some v∧x= .v v
 |[],_,_,_,h=>by cases h
 |v::r,i,t,x,h=>by
  simp only[iM,look] at h;cases E:V6 i t with
  |true=>
   rw[E] at h;simp only[cond_true,b8] at h;exact⟨0,v,by rw[Nat.eq_of_beq_eq_true E];rfl,rfl,h.symm⟩
  |false=>
   rw[E] at h;obtain⟨j,u,h1,J,O⟩:=uk r (i+1) t x h;exact⟨j+1,u,by omega,by simpa using J,O⟩
theorem rk (vs:List y0) (h:vs.length≤n):U2 n (iM 0 vs) {tmps:=vs.toArray++Array.replicate (n-vs.toArray.size) undef,defers:=[]}:=by
 refine⟨by simp;omega,fun t x J=>?_⟩;obtain⟨j,v,h1,E,rfl⟩:=uk vs 0 t x J;have h1:t=j:=by omega
 subst h1;have O:t<vs.length:=(x3.1 E).1;rw[Array.getD_eq_getD_getElem?,Array.getElem?_append_left (by simpa using O)];simp[E,dw.val]
def o0 (E:Array y0):ResultVar→Sem y0
 | .tmp t=>pure (E.getD t undef)
 | .cell b t=>do loadVar t (←asAddr (E.getD b undef))
theorem Bg (fn:Func) (E:Array y0):results fn E=(do let vs ←fn.results.mapM (o0 E);pure (if h:vs.size=1 then vs[0] else .tuple vs)):=by
 unfold results;congr 2
theorem rl {e:Env} {a:Act} {w:x1} (J:U2 N e a):∀ (O:List ResultVar) (K:List y0→Prop),kQ P e w O K→
  ∃ vs,K vs∧vs.length=O.length∧ ∀ w',Ext w w'→(O.mapM (o0 a.tmps)).run P w'= .ok vs w'
 |[],K,h=>⟨[],h,rfl,fun w' _=>by simp[Y5]⟩
 | .tmp t::r,K,h=>by
  simp only[kQ] at h;cases E:look e t with
  |none=>rw[E] at h;exact h.elim
  |some x=>
   rw[E] at h;obtain⟨vs,h1,U,V⟩:=rl J r _ h;refine⟨x.val::vs,h1,by simp[U],fun w' hw=>?_⟩;rw[List.mapM_cons];simp only[o0,Z8,Y5,Z9,V w' hw,J.2 t x E]
 | .cell b t::r,K,h=>by
  simp only[kQ] at h;cases E:look e b with
  |none=>rw[E] at h;exact h.elim
  |some x=>
   rw[E] at h;obtain⟨v,ac,h⟩:=h;obtain⟨vs,h1,U,V⟩:=rl J r _ h;refine⟨v::vs,h1,by simp[U],fun w' hw=>?_⟩;rw[List.mapM_cons];have:=ac w' hw;rw[←J.2 b x E] at this;rw[o0,Z8,this];simp only[Z9,Z8,V w' hw,Y5]
theorem rm {fn:Func} {e:Env} {a:Act} (J:U2 N e a) {K:List y0→Prop} (h:kQ P e w fn.results.toList K):
  ∃ vs,K vs∧ ∀ w',Ext w w'→(results fn a.tmps).run P w'= .ok (oZ vs) w':=by
 obtain⟨vs,h1,O,E⟩:=rl J _ _ h;refine⟨vs,h1,fun w' hw=>?_⟩;have E:=E w' hw;rw[Bg,Z8,Array.mapM_eq_mapM_toList,map_eq_pure_bind,Z8,E];simp only[Z9,Y5];cases vs with
 |nil=>rfl
 |cons v r=>
  cases r with
  |nil=>rfl
  |cons u r=>simp[oZ]
theorem ul {fn:Func} {tmps:Array y0} {R:Ending→x1→Prop}:∀ (E:List Nat) (w:x1),E.Nodup→(∀ D∈E,w.heap[D]? =some (.deferred (some [])))→
  (∀ w',Ext w w'→Ext w' w→w'.os=w.os→h8 w w'→w'.output=w.output→w.heap.size=w'.heap.size→
   (∀ r,r∉E→w'.heap[r]? =w.heap[r]?)→ ∃ v,(results fn tmps).run P w'= .ok v w'∧R (.returned v) w')→
  LeavesInM Fence.wide 0 P fn tmps R (E.map ic) .returning w
 |[],w,_,_,h=>by
  obtain⟨v,h1,J⟩:=h w (Ext.refl _) (Ext.refl _) rfl .iI rfl rfl fun _ _=>rfl;exact⟨v,h1,J⟩
 |D::E,w,O,U,h=>by
  rw[List.nodup_cons] at O;have V:=U D (.head _);refine⟨by simp,.inl ⟨D,_,rfl,run_takeDeferred V,?_⟩⟩;refine ul E _ O.2 (fun Y W=>?_) fun w' h1 J Z aa ab ac ad=>?_
  ·rw[x1.putObj_heap_other (fun he=>O.1 (by rw[←he];exact W))];exact U Y (.tail _ W)
  ·refine h w' ((nn V rfl _).trans h1) (J.trans (ue rfl)) Z aa ab (by simpa using ac) fun r X=>?_;rw[ad r fun hm=>X (.tail _ hm),x1.putObj_heap_other fun he=>X (by rw[he];exact .head _)]
theorem ag.enter (hm:P.follows .mixedOrders=true) {f:FuncId} {fn:Func} {c:Code} (ae:P.funcs[f]? =some fn) (X:fn.body=some c) (af:(fn.name == "runtime.NumGoroutine")=false)
  (ah:wf fn.ntmps c=true) {args:List y0} (ai:Nat.ble args.length fn.ntmps=true) {w:x1} {Q:y0→x1→Prop}
  (h:dx P fn.ntmps (false,w.heap.size) c (kd fn.results.toList) (iM 0 args) w (jB P fn.results.toList true Q)):ag P f args w Q:=by
 refine .code (Enters.of P ae X af) (callsIn_wide (n:=0).1 (callsIn_of_wp_marks ae X trivial ?_));have aj:=rk (n:=fn.ntmps) args (Nat.le_of_ble_eq_true ai);refine wpIn_mono (Q:=fun ex a' w'=>iL ex=true∧bodyPostM Fence.wide 0 P fn (fun e w'=>∃ v,e= .returned v∧cm w w'∧Q v w') ex a' w') ?_ fun _ _ _ h=>h.2;refine sound hm c (false,w.heap.size) none _ _ _ w _ _ ah (fun l ak=>by cases ak) (fun _=>⟨[],rfl,List.nodup_nil,fun D O=>by cases O⟩) h aj ?_ (fun _ _ _ h=>by cases h.1)
 ·intro ex a' w' al;obtain⟨am,an,J,ao,_,_,ap⟩:=al;obtain⟨E,⟨U,Y,aq,O⟩,au,av,aw⟩:=ap rfl;have ax:∀ D∈U,w.heap.size≤D:=by
   intro D ay;have h1:ic D∈au.map ic:=by
    have:ic D∈U.map ic:=o8.2 ⟨D,ay,rfl⟩;rw[←Y,av] at this;simpa using this
   obtain⟨Z,W,az⟩:=o8.1 h1;have:Z=D:=by simpa[ic] using az
   exact this▸aw Z W
  have aa:jB P fn.results.toList true Q .ret an w'→LeavesInM Fence.wide 0 P fn a'.tmps (fun e ab=>∃ v,e= .returned v∧cm w ab∧Q v ab) a'.defers .returning w':=by
   intro J;rw[Y];obtain⟨vs,h1,W⟩:=rm (fn:=fn) ao J;refine ul U w' aq O fun V ac aA aB aC aD aE aF=>⟨_,W V ac,_,rfl,?_,h1 V ac aA⟩;have E:=E.cD (r9 _);refine⟨aB.trans E.os,aC.trans E.tape,aD.trans E.output,by rw[←aE];exact E.size,fun r o ad aG=>?_⟩;have aH:=(o7.1 ad).1;rw[aF r fun hm=>by have:=ax r hm;omega];exact E.aX r o ad aG
  cases ex with
  |normal=>exact⟨rfl,aa J⟩
  |ret=>exact⟨rfl,aa J⟩
  |exit id=>exact J.elim
  |_=>cases am
theorem ag.Bh (hm:P.follows .mixedOrders=true) {f:FuncId} {fn:Func} {c:Code} (ae:P.funcs[f]? =some fn) (J:fn.body=some c) (V:(fn.name == "runtime.NumGoroutine")=false)
  (W:wf fn.ntmps c=true) {args:List y0} (X:Nat.ble args.length fn.ntmps=true) (Y:ia c=false) {w:x1} {Q:y0→x1→Prop}
  (h:dx P fn.ntmps (false,w.heap.size) c (kd fn.results.toList) (iM 0 args) w (jB P fn.results.toList false Q)):ag P f args w Q:=by
 refine .code (Enters.of P ae J V) (callsIn_wide (n:=0).1 (callsIn_of_wp ae J trivial ?_));have Z:=rk (n:=fn.ntmps) args (Nat.le_of_ble_eq_true X);refine wpIn_mono (Q:=fun ex a' w'=>iL ex=true∧bodyPost P fn (fun e w'=>∃ v,e= .returned v∧cm w w'∧Q v w') ex a' w') ?_ fun _ _ _ h=>h.2;refine sound hm c (false,w.heap.size) none _ _ _ w _ _ W (fun l aa=>by cases aa) (fun _=>⟨[],rfl,List.nodup_nil,fun D ab=>by cases ab⟩) h Z ?_ (fun _ _ _ h=>by cases h.1);intro ex a' w' ac;obtain⟨ad,af,E,ah,_,ai,aj⟩:=ac;have ak:a'.defers=[]:=ai (by simp[hj,Y]);have O:jB P fn.results.toList false Q .ret af w'→a'.defers=[]∧ ∃ v,(results fn a'.tmps).run P w'= .ok v w'∧ ∃ U,Ending.returned v= .returned U∧cm w w'∧Q U w':=by
  intro E;obtain⟨vs,h1,al⟩:=rm (fn:=fn) ah E;exact⟨ak,_,al w' (Ext.refl _),_,rfl,(aj rfl).1.cD (r9 _),h1⟩
 cases ex with
 |normal=>exact⟨rfl,O E⟩
 |ret=>exact⟨rfl,O E⟩
 |exit id=>exact E.elim
 |_=>cases ad
theorem fp.enter (hm:P.follows .mixedOrders=true) {f:FuncId} {fn:Func} {c:Code} (ae:P.funcs[f]? =some fn) (J:fn.body=some c) (V:(fn.name == "runtime.NumGoroutine")=false)
  (W:wf fn.ntmps c=true) {args:List y0} (X:Nat.ble args.length fn.ntmps=true) {w:x1} {Q:y0→x1→Prop}
  (h:dx P fn.ntmps (true,0) c (kd fn.results.toList) (iM 0 args) w (jB P fn.results.toList false Q)):fp P f args w Q:=by
 refine .code (Enters.of P ae J V) (callsIn_wide (n:=0).1 (callsIn_of_wp ae J trivial ?_));have Y:=rk (n:=fn.ntmps) args (Nat.le_of_ble_eq_true X);refine wpIn_mono (Q:=fun ex a' w'=>iL ex=true∧bodyPost P fn (fun e w'=>∃ v,e= .returned v∧Q v w') ex a' w') ?_ fun _ _ _ h=>h.2;refine sound hm c (true,0) none _ _ _ w _ _ W (fun l Z=>by cases Z) (fun h=>by cases h) h Y ?_ (fun _ _ _ h=>by cases h.1);intro ex a' w' aa;obtain⟨ab,ac,E,ad,_,af,ai⟩:=aa;have ag:a'.defers=[]:=af rfl;have O:jB P fn.results.toList false Q .ret ac w'→a'.defers=[]∧ ∃ v,(results fn a'.tmps).run P w'= .ok v w'∧ ∃ U,Ending.returned v= .returned U∧Q U w':=by
  intro E;obtain⟨vs,h1,ah⟩:=rm (fn:=fn) ad E;exact⟨ag,_,ah w' (Ext.refl _),_,rfl,h1⟩
 cases ex with
 |normal=>exact⟨rfl,O E⟩
 |ret=>exact⟨rfl,O E⟩
 |exit id=>exact E.elim
 |_=>cases ab
end
def np (l:List U1) (d:Nat):Nat:=
 match l with
 |[]=>d
 | .tmp t::r=>np r (Nat.lor d (Nat.shiftLeft 1 t))
 |_::r=>np r d
def lY:List W9→Nat→Option W9
 |[],_=>none
 |o::_,0=>some o
 |_::l,n+1=>lY l n
def um (a b:Nat):Nat:=Nat.xor a (Nat.land a b)
def nq (m t:Nat):Bool:=V6 (Nat.land (Nat.shiftRight m t) 1) 1
def ie (m t:Nat):Nat:=Nat.lor m (Nat.shiftLeft 1 t)
def Bi (ops:List W9) (o:W9):Nat:=
 match o.guard with
 |none=>0
 |some (j,_)=>match lY ops j with
  |some ⟨some d,_,_,_,_,_⟩=>Nat.shiftLeft 1 d
  |_=>0
def o1:List W9→Nat→Nat
 |[],d=>d
 |⟨some t,_,_,_,_,_⟩::l,d=>o1 l (ie d t)
 |_::l,d=>o1 l d
def uo (ops:List W9):List W9→Nat→Nat→Nat
 |[],_,r=>r
 |o::l,d,r=>uo ops l (match o.dst with|some t=>ie d t|none=>d) (Nat.lor r (um (np (opsOf o.op) (Bi ops o)) d))
def o2:List Nat→Nat→Nat
 |[],_=>0
 |x::_,0=>x
 |_::l,n+1=>o2 l n
def uq (e:Edge):Bool:=
 match e.ground with
 | .textOnly _=>false
 | .gcOnly _=>false
 |_=>true
def ur (bs:List Nat):List Edge→Nat→Nat
 |[],s=>s
 |e::r,s=>ur bs r (bif uq e then Nat.lor (ie s e.on) (o2 bs e.on) else s)
def rn:List W9→List Nat→List Nat
 |[],bs=>bs
 |o::l,bs=>rn l (bs++[ur bs o.after.toList 0])
def ut:List W9→Bool
 |[]=>false
 |⟨_,_,_,_,_,some _⟩::_=>true
 |_::l=>ut l
def rp (bs:List Nat) (j k:Nat):Bool:=!(V6 k j)&&(!(nq (o2 bs j) k)&& !(nq (o2 bs k) j))
def uu (bs:List Nat) (j:Nat):Nat→List W9→Bool
 |_,[]=>false
 |i,o::l=>bif Nat.ble j i then false else (!(hd o)&&rp bs j i)||uu bs j (Nat.succ i) l
def uv (ops:List W9) (bs:List Nat):Nat→List W9→Bool
 |_,[]=>false
 |j,o::l=>(!(hd o)&&uu bs j 0 ops)||uv ops bs (Nat.succ j) l
def jC:Code→Nat
 | .region _ ops E=>bif (E&&uv ops.toList (rn ops.toList []) 0 ops.toList)||ut ops.toList then 2 else 1
 | .seq a b=>bif V6 (jC a) 0 then 0 else jC b
 | .cond _ a b=>Nat.add (jC a) (jC b)
 | .block id c=>Nat.add (jC c) (hI id c)
 | .loop _=>0
 | .scope c=>jC c
 | .exit _=>0
 | .goto _=>0
 | .ret=>0
 | .refuse _=>0
 |_=>1
def gj:Code→Nat
 | .region _ ops _=>o1 ops.toList 0
 | .seq a b=>Nat.lor (gj a) (gj b)
 | .cond _ a b=>Nat.lor (gj a) (gj b)
 | .block _ c=>gj c
 | .loop c=>gj c
 | .scope c=>gj c
 |_=>0
def jD:Code→Nat
 | .region _ ops _=>o1 ops.toList 0
 | .seq a b=>Nat.lor (jD a) (jD b)
 | .cond _ a b=>bif V6 (jC a) 0 then jD b else bif V6 (jC b) 0 then jD a else Nat.land (jD a) (jD b)
 | .block id c=>bif V6 (hI id c) 0 then jD c else 0
 | .scope c=>jD c
 |_=>0
def eX:Code→Nat
 | .region _ ops _=>uo ops.toList ops.toList 0 0
 | .seq a b=>Nat.lor (eX a) (um (eX b) (jD a))
 | .cond c a b=>np [c] (Nat.lor (eX a) (eX b))
 | .block _ c=>eX c
 | .loop c=>eX c
 | .scope c=>eX c
 | .rangeFunc f _ a b=>np [f] (Nat.lor (eX a) (eX b))
 |_=>0
def ke:Nat→Nat→Nat→List Nat
 |0,_,_=>[]
 |n+1,k,m=>bif V6 m 0 then[] else bif V6 (Nat.land m 1) 1 then k::ke n (Nat.succ k) (Nat.shiftRight m 1) else ke n (Nat.succ k) (Nat.shiftRight m 1)
def nr (e:Env):List Nat→List Nat
 |[]=>[]
 |t::r=>match look e t with
  |some _=>t::nr e r
  |none=>nr e r
structure kf (B S aG:Type) where
 iN:{x:y0}→y0
 uw:List y0→y0
 no:B
 iO:B
 and:B→B→B
 or:B→B→B
 ext:x1→x1→B
 stays:S→y0→x1→B
 split:y0→B→B→B
 rq:S→x1→(y0→B)→B
 ux:S→x1→(y0→x1→B)→B
 uy:aG→x1→(x1→B)→B
 runN:{fr:Bool}→{n:Nat}→S→x1→(y0→x1→B)→B
 uz:{f:FuncId}→List y0→x1→(y0→x1→B)→B
 uA:{f:FuncId}→List y0→x1→(y0→x1→B)→B
 uB:{fr:Bool}→y0→List y0→x1→(y0→x1→B)→B
 drew:x1→(x1→B)→B
 again:x1→(x1→B)→B
 over:x1→(x1→B)→B
 cX:(x1→B)→((x1→B)→B)→B
 aI:(y0→x1→B)→((y0→x1→B)→B)→B
 fS:(y0→y0→x1→B)→((y0→y0→x1→B)→B)→B
 uC:(y0→y0→y0→x1→B)→((y0→y0→y0→x1→B)→B)→B
 uD:(y0→y0→y0→y0→x1→B)→((y0→y0→y0→y0→x1→B)→B)→B
 uE:(y0→y0→y0→y0→y0→x1→B)→((y0→y0→y0→y0→y0→x1→B)→B)→B
 uF:x1→(x1→(x1→B)→B)→B
 uG:y0→x1→(y0→x1→(y0→x1→B)→B)→B
 uH:y0→y0→x1→(y0→y0→x1→(y0→y0→x1→B)→B)→B
 uI:y0→y0→y0→x1→(y0→y0→y0→x1→(y0→y0→y0→x1→B)→B)→B
 uJ:y0→y0→y0→y0→x1→(y0→y0→y0→y0→x1→(y0→y0→y0→y0→x1→B)→B)→B
 uK:y0→y0→y0→y0→y0→x1→(y0→y0→y0→y0→y0→x1→(y0→y0→y0→y0→y0→x1→B)→B)→B
 uL:y0→y0→y0→y0→y0→y0→x1→(y0→y0→y0→y0→y0→y0→x1→(y0→y0→y0→y0→y0→y0→x1→B)→B)→B
 uM:y0→x1→(y0→x1→(Exit→x1→B)→B)→(x1→B)→(x1→B)→List (Nat×(x1→B))→B
 uN:y0→x1→(y0→y0→x1→(Exit→x1→B)→B)→(x1→B)→(x1→B)→List (Nat×(x1→B))→B
 loadVar:{t:u9}→y0→S
 alloc:{t:u9}→S
 box:{t:u9}→y0→S
 build:{t:u9}→List (Nat×y0)→S
 buildSlice:{t:u9}→{n:Nat}→List (Nat×y0)→S
 load:{t:u9}→y0→S
 nil:y0→S
 bin:{op:BinOp}→{t:u9}→Bool→Bool→y0→y0→S
 un:{op:UnOp}→y0→S
 conv:{s d:u9}→y0→S
 uO:{t:u9}→y0→S
 uP:{f:Fn}→List y0→List y0→S
 uQ:{t:u9}→Option y0→S
 uR:{t:u9}→y0→y0→S
 slice:{t:u9}→y0→Option y0→Option y0→Option y0→S
 uS:{t:u9}→y0→{f:Nat}→S
 field:{t:u9}→y0→{f:Nat}→S
 uT:{t:u9}→y0→y0→S
 index:{t:u9}→y0→y0→S
 lookup:{t:u9}→y0→y0→{ok:Bool}→S
 uU:{t:u9}→y0→y0→S
 range:{t:u9}→y0→S
 entry:y0→S
 assert:{t a:u9}→y0→{ok:Bool}→S
 extract:y0→{i:Nat}→S
 next:y0→{b:Bool}→S
 append:{ats:Array u9}→{t:u9}→List y0→S
 cap:{ats:Array u9}→{t:u9}→List y0→S
 clear:{ats:Array u9}→{t:u9}→List y0→S
 copy:{ats:Array u9}→{t:u9}→List y0→S
 delete:{ats:Array u9}→{t:u9}→List y0→S
 len:{ats:Array u9}→{t:u9}→List y0→S
 max:{ats:Array u9}→{t:u9}→List y0→S
 min:{ats:Array u9}→{t:u9}→List y0→S
 store:{t:u9}→y0→y0→aG
 rr:{t:u9}→y0→y0→y0→aG
 uV:{t:u9}→y0→y0→y0→aG
section
variable {B S aG:Type} (A:kf B S aG)
def dw.g:dw→y0
 | .v x=>x
 | .b c=>.bool c
 | .u=>A.iN (x:=undef)
def kR (e:Env):U1→dw
 | .tmp t=>match look e t with
  |some x=>x
  |none=>.u
 | .const (.bool c)=>.b c
 | .const x=>.v (A.iN (x:=x))
 | .global g=>.v (A.iN (x:=.pointer (some ⟨g,0,none⟩)))
 | .func f=>.v (A.iN (x:=.func (.func f) #[] #[]))
def b3 (e:Env) (x:U1):y0:=(kR A e x).g A
def kS (e:Env):List U1→List y0
 |[]=>[]
 |x::r=>b3 A e x::kS e r
def o3 (e:Env):Option U1→Option y0
 |none=>none
 |some x=>some (b3 A e x)
def rt (e:Env):List (Nat×U1)→List (Nat×y0)
 |[]=>[]
 |(i,x)::r=>(i,b3 A e x)::rt e r
def Bj (b:l6) (ats:Array u9) (t:u9) (l:List y0) (K:S→B):B:=
 match b with
 | .append=>K (A.append (ats:=ats) (t:=t) l)
 | .cap=>K (A.cap (ats:=ats) (t:=t) l)
 | .clear=>K (A.clear (ats:=ats) (t:=t) l)
 | .copy=>K (A.copy (ats:=ats) (t:=t) l)
 | .delete=>K (A.delete (ats:=ats) (t:=t) l)
 | .len=>K (A.len (ats:=ats) (t:=t) l)
 | .max=>K (A.max (ats:=ats) (t:=t) l)
 | .min=>K (A.min (ats:=ats) (t:=t) l)
 |_=>A.no
def uW (e:Env) (t:u9) (K:S→B) (E:aG→B):Op→B
 | .alloc t=>K (A.alloc (t:=t))
 | .box t x=>K (A.box (t:=t) (b3 A e x))
 | .build t J=>K (A.build (t:=t) (rt A e J.toList))
 | .buildSlice t n J=>K (A.buildSlice (t:=t) (n:=n) (rt A e J.toList))
 | .load t x=>K (A.load (t:=t) (b3 A e x))
 | .nilCheck x=>K (A.nil (b3 A e x))
 | .binOp op t x y _=>K (A.bin (op:=op) (t:=t) (lN x) (lN y) (b3 A e x) (b3 A e y))
 | .unOp op _ x=>K (A.un (op:=op) (b3 A e x))
 | .convert s d x=>K (A.conv (s:=s) (d:=d) (b3 A e x))
 | .makeInterface t x=>K (A.uO (t:=t) (b3 A e x))
 | .makeFunc f a b=>K (A.uP (f:=f) (kS A e a.toList) (kS A e b.toList))
 | .makeMap t r=>K (A.uQ (t:=t) (o3 A e r))
 | .makeSlice t l c=>K (A.uR (t:=t) (b3 A e l) (b3 A e c))
 | .slice t x l h m=>K (A.slice (t:=t) (b3 A e x) (o3 A e l) (o3 A e h) (o3 A e m))
 | .fieldAddr t x f=>K (A.uS (t:=t) (b3 A e x) (f:=f))
 | .field t x f=>K (A.field (t:=t) (b3 A e x) (f:=f))
 | .indexAddr t x i=>K (A.uT (t:=t) (b3 A e x) (b3 A e i))
 | .index t x i=>K (A.index (t:=t) (b3 A e x) (b3 A e i))
 | .lookup t x i ok=>K (A.lookup (t:=t) (b3 A e x) (b3 A e i) (ok:=ok))
 | .mapEntry t m k=>K (A.uU (t:=t) (b3 A e m) (b3 A e k))
 | .range t x=>K (A.range (t:=t) (b3 A e x))
 | .entry x=>K (A.entry (b3 A e x))
 | .typeAssert x t a ok=>K (A.assert (t:=t) (a:=a) (b3 A e x) (ok:=ok))
 | .extract x i=>K (A.extract (b3 A e x) (i:=i))
 | .call ⟨.builtin b,args,ats⟩=>Bj A b ats t (kS A e args.toList) K
 | .store t a x=>E (A.store (t:=t) (b3 A e a) (b3 A e x))
 | .mapUpdate t m k x=>E (A.rr (t:=t) (b3 A e m) (b3 A e k) (b3 A e x))
 | .insert t m k x=>E (A.rr (t:=t) (b3 A e m) (b3 A e k) (b3 A e x))
 | .entryStore t m k x=>E (A.uV (t:=t) (b3 A e m) (b3 A e k) (b3 A e x))
 |_=>A.no
def fH (e:Env) (d:Option Tmp) (x:dw):Env:=
 match d with
 |some t=>(t,x)::e
 |none=>e
def uX (o:W9) (e:Env) (w:x1) (K:Env→(x1→B)→B):B:=
 match o with
 |⟨d,.move x,_,_,_,_⟩=>K (fH e d (kR A e x)) (fun _=>A.iO)
 |⟨d,.assign x,_,_,_,_⟩=>K (fH e d (kR A e x)) (fun _=>A.iO)
 |⟨d,.pick c a b,_,_,_,_⟩=>
  match kR A e c with
  | .b true=>K (fH e d (kR A e a)) (fun _=>A.iO)
  | .b false=>K (fH e d (kR A e b)) (fun _=>A.iO)
  | .v x=>A.split x (K (fH e d (.v (b3 A e a))) (fun _=>A.iO)) (K (fH e d (.v (b3 A e b))) (fun _=>A.iO))
  | .u=>A.no
 |⟨d,op,t,_,_,_⟩=>uW A e t (fun s=>A.rq s w fun v=>K (fH e d (.v v)) (A.stays s v)) (fun _=>A.no) op
def Bk (fr:Bool) (n:Nat) (o:W9) (e:Env) (w:x1) (K:Env→x1→B):B:=
 match o with
 |⟨d,.call ⟨.value (.func f),args,_⟩,_,_,_,_⟩=>
  bif fr then A.uA (f:=f) (kS A e args.toList) w fun v w'=>K (fH e d (.v v)) w'
  else A.uz (f:=f) (kS A e args.toList) w fun v w'=>K (fH e d (.v v)) w'
 |⟨d,.call ⟨.value x,args,_⟩,_,_,_,_⟩=>A.uB (fr:=fr) (b3 A e x) (kS A e args.toList) w fun v w'=>K (fH e d (.v v)) w'
 |⟨d,.next x b,_,_,_,_⟩=>A.runN (fr:=fr) (n:=n) (A.next (b3 A e x) (b:=b)) w fun v w'=>K (fH e d (.v v)) w'
 |⟨d,op,t,_,_,_⟩=>uW A e t (fun s=>A.ux s w fun v w'=>K (fH e d (.v v)) w') (fun u=>A.uy u w fun w'=>K (fH e d (.v (A.iN (x:=undef)))) w') op
def uY (fr:Bool) (n:Nat) (o:W9) (e:Env) (w:x1) (K:Env→x1→B):B:=
 bif hd o then uX A o e w (fun E _=>K E w) else Bk A fr n o e w K
def ru (ops:List W9) (o:W9) (e:Env) (D N:Env→B):B:=
 match o.guard with
 |none=>D e
 |some (j,b)=>
  match lY ops j with
  |some ⟨some s,_,_,_,_,_⟩=>
   match look e s with
   |some (.b c)=>bif xor c b then N e else D e
   |some (.v x)=>A.split x (bif b then D ((s,.b true)::e) else N ((s,.b true)::e)) (bif b then N ((s,.b false)::e) else D ((s,.b false)::e))
   |some .u=>N e
   |none=>A.no
  |_=>A.no
def rv (fr:Bool) (n:Nat) (ops:List W9):List W9→Env→x1→(Env→x1→B)→B
 |[],e,w,K=>K e w
 |o::l,e,w,K=>ru A ops o e (fun e=>uY A fr n o e w fun E w'=>rv fr n ops l E w' K) (fun e=>rv fr n ops l (fH e o.dst .u) w K)
def uZ:List Edge→Nat→Bool
 |[],_=>true
 |e::r,E=>(bif uq e then nq E e.on else true)&&uZ r E
def pa (E:Nat):Nat→List W9→List Nat
 |_,[]=>[]
 |i,o::l=>bif nq E i then pa E (Nat.succ i) l else bif uZ o.after.toList E then i::pa E (Nat.succ i) l else pa E (Nat.succ i) l
def u0 (ops:List W9):List Nat→Option Nat
 |[]=>none
 |i::r=>match lY ops i with
  |some o=>bif hd o then some i else u0 ops r
  |none=>none
def u1 (p:Nat→B):List Nat→B
 |[]=>A.iO
 |[i]=>p i
 |i::r=>A.and (p i) (u1 p r)
def u2 (same:Bool) (q:Nat) (w:x1) (st:x1→B) (E:List (x1×List (Nat×(x1→B)))):List (x1×List (Nat×(x1→B))):=
 match same,E with
 |true,g::r=>(g.1,(q,st)::g.2)::r
 |_,E=>(w,[(q,st)])::E
def u3 (bs:List Nat) (j:Nat):List (Nat×(x1→B))→Bool
 |[]=>false
 |(i,_)::r=>rp bs j i||u3 bs j r
def rx (bs:List Nat) (j:Nat) (w':x1):List (Nat×(x1→B))→B
 |[]=>A.iO
 |(i,p)::r=>bif rp bs j i then A.and (p w') (rx bs j w' r) else rx bs j w' r
def pb (bs:List Nat) (j:Nat) (w':x1) (C:B):List (x1×List (Nat×(x1→B)))→B
 |[]=>C
 |(w,l)::r=>bif u3 bs j l then A.and (A.or (A.ext w w') (rx A bs j w' l)) (pb bs j w' C r) else pb bs j w' C r
def kT (fr:Bool) (n:Nat) (ops:List W9) (bs:List Nat):Nat→Nat→Bool→List (x1×List (Nat×(x1→B)))→Env→x1→(Env→x1→B)→B
 |0,_,_,_,e,w,K=>K e w
 |fuel+1,J,same,E,e,w,K=>
  match pa J 0 ops with
  |[]=>K e w
  |i::r=>
   match u0 ops (i::r) with
   |some q=>
    match lY ops q with
    |some o=>ru A ops o e
      (fun e=>uX A o e w fun O st=>
       bif jv o then kT fr n ops bs fuel (ie J q) same E O w K
       else kT fr n ops bs fuel (ie J q) true (u2 same q w st E) O w K)
      (fun e=>bif jv o then kT fr n ops bs fuel (ie J q) same E (fH e o.dst .u) w K
       else kT fr n ops bs fuel (ie J q) true (u2 same q w (fun _=>A.iO) E) (fH e o.dst .u) w K)
    |none=>A.no
   |none=>
    u1 A (fun j=>match lY ops j with
     |some o=>ru A ops o e (fun e=>uY A fr n o e w fun O w'=>pb A bs j w' (kT fr n ops bs fuel (ie J j) false E O w' K) E)
       (fun e=>pb A bs j w (kT fr n ops bs fuel (ie J j) false E (fH e o.dst .u) w K) E)
     |none=>A.no) (i::r)
def pc (e:Env):List Nat→List y0
 |[]=>[]
 |t::r=>(match look e t with|some x=>x.g A|none=>A.iN (x:=undef))::pc e r
def ry (l:List Nat) (vs:List y0) (e:Env):Env:=
 match l,vs with
 |t::r,v::vs=>(t,.v v)::ry r vs e
 |_,_=>e
def pd (d:Nat):Env→Env
 |[]=>[]
 |(t,x)::r=>bif nq d t then pd d r else (t,x)::pd d r
def Bl (l:List Nat) (E:List y0→x1→B) (J:(List y0→x1→B)→B):B:=
 match l with
 |[]=>A.cX (fun w=>E [] w) fun k=>J fun _ w=>k w
 |[_]=>A.aI (fun a w=>E [a] w) fun k=>J fun vs w=>match vs with
  |[a]=>k a w
  |_=>A.no
 |[_,_]=>A.fS (fun a b w=>E [a,b] w) fun k=>J fun vs w=>match vs with
  |[a,b]=>k a b w
  |_=>A.no
 |[_,_,_]=>A.uC (fun a b c w=>E [a,b,c] w) fun k=>J fun vs w=>match vs with
  |[a,b,c]=>k a b c w
  |_=>A.no
 |[_,_,_,_]=>A.uD (fun a b c d w=>E [a,b,c,d] w) fun k=>J fun vs w=>match vs with
  |[a,b,c,d]=>k a b c d w
  |_=>A.no
 |[_,_,_,_,_]=>A.uE (fun a b c d f w=>E [a,b,c,d,f] w) fun k=>J fun vs w=>match vs with
  |[a,b,c,d,f]=>k a b c d f w
  |_=>A.no
 |_=>A.no
def Bm (us:List y0) (w:x1) (E:List y0→x1→(List y0→x1→B)→B):B:=
 match us with
 |[]=>A.uF w fun w k=>E [] w fun _ w=>k w
 |[a]=>A.uG a w fun a w k=>E [a] w fun vs w=>match vs with
  |[a]=>k a w
  |_=>A.no
 |[a,b]=>A.uH a b w fun a b w k=>E [a,b] w fun vs w=>match vs with
  |[a,b]=>k a b w
  |_=>A.no
 |[a,b,c]=>A.uI a b c w fun a b c w k=>E [a,b,c] w fun vs w=>match vs with
  |[a,b,c]=>k a b c w
  |_=>A.no
 |[a,b,c,d]=>A.uJ a b c d w fun a b c d w k=>E [a,b,c,d] w fun vs w=>match vs with
  |[a,b,c,d]=>k a b c d w
  |_=>A.no
 |[a,b,c,d,f]=>A.uK a b c d f w fun a b c d f w k=>E [a,b,c,d,f] w fun vs w=>match vs with
  |[a,b,c,d,f]=>k a b c d f w
  |_=>A.no
 |[a,b,c,d,f,g]=>A.uL a b c d f g w fun a b c d f g w k=>E [a,b,c,d,f,g] w fun vs w=>match vs with
  |[a,b,c,d,f,g]=>k a b c d f g w
  |_=>A.no
 |_=>A.no
def rz (K:Nat→x1→B):List Nat→List (Nat×(x1→B))
 |[]=>[]
 |i::r=>(i,fun w=>K i w)::rz K r
def fT (fr:Bool) (n:Nat):Code→Nat→Env→x1→(Exit→Env→x1→B)→B
 | .skip,_,e,w,K=>K .normal e w
 | .label _,_,e,w,K=>K .normal e w
 | .ret,_,e,w,K=>K .ret e w
 | .exit i,_,e,w,K=>K (.exit i) e w
 | .region _ ops W,_,e,w,K=>
  bif W then A.drew w fun w'=>kT A fr n ops.toList (rn ops.toList []) (ops.toList.length) 0 false [] e w' (K .normal)
  else rv A fr n ops.toList ops.toList e w (K .normal)
 | .seq x y,rd,e,w,K=>
  bif Nat.ble 2 (jC x) then
   Bl A (ke 1000 0 (Nat.land (gj x) (Nat.lor (eX y) rd))) (fun vs w'=>fT fr n y rd (ry (ke 1000 0 (Nat.land (gj x) (Nat.lor (eX y) rd))) vs (pd (gj x) e)) w' K)
    fun X=>fT fr n x (Nat.lor (eX y) rd) e w fun ex E w'=>match ex with
     | .normal=>X (pc A E (ke 1000 0 (Nat.land (gj x) (Nat.lor (eX y) rd)))) w'
     |ex=>K ex E w'
  else fT fr n x (Nat.lor (eX y) rd) e w fun ex E w'=>match ex with
   | .normal=>fT fr n y rd E w' K
   |ex=>K ex E w'
 | .cond c x y,rd,e,w,K=>
  match kR A e c with
  | .b true=>fT fr n x rd e w K
  | .b false=>fT fr n y rd e w K
  | .v v=>A.split v (fT fr n x rd e w K) (fT fr n y rd e w K)
  | .u=>A.no
 | .block id c,rd,e,w,K=>fT fr n c rd e w fun ex E w'=>match ex with
  | .exit i=>bif V6 i id then K .normal E w' else K (.exit i) E w'
  |ex=>K ex E w'
 | .loop c,rd,e,w,K=>
  Bm A (pc A e (nr e (ke 1000 0 (Nat.land (gj c) (Nat.lor (eX c) rd))))) w fun us w' k=>
   fT fr n c (Nat.lor (eX c) rd) (ry (nr e (ke 1000 0 (Nat.land (gj c) (Nat.lor (eX c) rd)))) us (pd (gj c) e)) w' fun ex E J=>match ex with
    | .normal=>k (pc A E (nr e (ke 1000 0 (Nat.land (gj c) (Nat.lor (eX c) rd))))) J
    |ex=>K ex E J
 | .scope c,rd,e,w,K=>fT fr n c rd e w K
 | .rangeFunc f Y V body,_,e,w,K=>
  match Y.toList with
  |[p]=>A.uM (b3 A e f) w
    (fun a w' k=>fT fr n V (eX body) ((p,.v a)::e) w' fun ex E J=>match ex with
     | .normal=>A.over J fun O=>fT fr n body 0 E O fun ex _ U=>k ex U
     |_=>A.no)
    (fun w'=>K .normal e w') (bif hh body then fun w'=>K .ret e w' else fun _=>A.no) (rz (fun i w'=>K (.exit i) e w') (hJ body))
  |[p,q]=>A.uN (b3 A e f) w
    (fun a b w' k=>fT fr n V (eX body) ((q,.v b)::(p,.v a)::e) w' fun ex E J=>match ex with
     | .normal=>A.over J fun O=>fT fr n body 0 E O fun ex _ U=>k ex U
     |_=>A.no)
    (fun w'=>K .normal e w') (bif hh body then fun w'=>K .ret e w' else fun _=>A.no) (rz (fun i w'=>K (.exit i) e w') (hJ body))
  |_=>A.no
 | .goto _,_,_,_,_=>A.no
 | .refuse _,_,_,_,_=>A.no
def va:Nat→List y0→Env
 |_,[]=>[]
 |i,v::r=>(i,.v (A.iN (x:=v)))::va (i+1) r
def pe (e:Env) (w:x1):List ResultVar→(List y0→B)→B
 |[],K=>K []
 | .tmp t::r,K=>pe e w r fun vs=>K ((match look e t with|some x=>x.g A|none=>A.iN (x:=undef))::vs)
 | .cell a t::r,K=>A.rq (A.loadVar (t:=t) (match look e a with|some x=>x.g A|none=>A.iN (x:=undef))) w fun v=>pe e w r fun vs=>K (v::vs)
def pf (vs:List y0) (K:y0→B):B:=
 match vs with
 |[v]=>K v
 |vs=>K (A.uw vs)
def rA:List ResultVar→Nat→Nat
 |[],s=>s
 | .tmp t::r,s=>rA r (ie s t)
 | .cell a _::r,s=>rA r (ie s a)
def Bn (E:List ResultVar) (marks:Bool) (Q:y0→x1→B):Exit→Env→x1→B
 | .normal,e,w=>pe A e w E fun vs=>bif marks then A.again w fun w'=>pf A vs fun v=>Q v w' else pf A vs fun v=>Q v w
 | .ret,e,w=>pe A e w E fun vs=>bif marks then A.again w fun w'=>pf A vs fun v=>Q v w' else pf A vs fun v=>Q v w
 |_,_,_=>A.no
def rB (fr marks:Bool) (fn:Func) (c:Code) (args:List y0) (w:x1) (Q:y0→x1→B):B:=
 fT A fr n c (rA fn.results.toList 0) (va A 0 args) w (Bn A fn.results.toList marks Q)
end
def lZ (P:Y3):kf Prop (Sem y0) (Sem Unit) where
 iN {x}:=x
 uw l:=.tuple l.toArray
 no:=False
 iO:=True
 and:=And
 or:=Or
 ext:=Ext
 stays:=bR P
 split:=Split
 rq:=O P
 ux:=aw P
 uy u w K:=aw P u w fun _ w'=>K w'
 runN {fr n}:=oH P (fr,n)
 uz {f}:=ag P f
 uA {f}:=fp P f
 uB {fr}:=oK P fr
 drew:=du
 again:=uc
 over:=Over
 cX:=bX
 aI:=bX
 fS:=bX
 uC:=bX
 uD:=bX
 uE:=bX
 uF:=A1
 uG:=bS
 uH:=bO
 uI:=lS
 uJ:=oS
 uK:=nj
 uL:=A2
 uM:=jz P
 uN:=lV P
 loadVar {t} x:=do loadVar t (←asAddr x)
 alloc {t}:=Instr.alloc t true (.tuple #[])
 box {t} x:=Instr.box t x
 build {t} l:=Instr.build t l.toArray
 buildSlice {t n} l:=b6 t n l.toArray
 load {t} x:=x6 t x
 nil x:=bl x
 bin {op t} a b x y:=ax op t a b x y
 un {op} x:=Op.unary op x
 conv {s d} x:=convert s d x
 uO {t} x:=Instr.makeInterface t x
 uP {f} a b:=Instr.makeFunc f a.toArray b.toArray
 uQ {t} x:=Instr.makeMap t x
 uR {t} l c:=Instr.makeSlice t l c
 slice {t} x l h m:=X4 t x l h m
 uS {t} x {f}:=x8 t x f
 field {t} x {f}:=Instr.field t x f
 uT {t} x i:=j9 t x i
 index {t} x i:=Instr.index t x i
 lookup {t} x i {ok}:=Instr.lookup t x i ok
 uU {t} m k:=Instr.mapEntry t m k
 range {t} x:=Instr.range t x
 entry x:=Instr.entry x
 assert {t a} x {ok}:=Instr.typeAssert x t a ok
 extract x {i}:=c9 x i
 next x {b}:=Instr.next x b 0
 append {ats t} l:=l9 ats t l.toArray
 cap {ats t} l:=l6.cap_ ats t l.toArray
 clear {ats t} l:=l6.clear_ ats t l.toArray
 copy {ats t} l:=l6.copy_ ats t l.toArray
 delete {ats t} l:=l6.delete_ ats t l.toArray
 len {ats t} l:=Y4 ats t l.toArray
 max {ats t} l:=l6.max_ ats t l.toArray
 min {ats t} l:=l6.min_ ats t l.toArray
 store {t} a x:=n0 t a x
 rr {t} m k x:=Instr.mapUpdate t m k x
 uV {t} m k x:=Instr.entryStore t m k x
end Go.Vc
namespace Go.Proofs.YthjegppepbbojaaGreatDoor
open Go Go.Vc Go.RowKit Go.Proofs Go.Proofs.Tryz
set_option maxRecDepth 100000
theorem mixed:x5.follows .mixedOrders=true:=by kernel_rfl
def Bo:Nat:=3
def Bp:Nat:=5
def Bq:Nat:=6
def vb:Nat:=7
def vc:Nat:=8
def Br:Nat:=9
def Bs:Nat:=10
def vd:Nat:=14
def Bt:Nat:=21
def Bu:Nat:=22
def Bv:Nat:=23
def Bw:Nat:=24
def Bx:Nat:=25
def rC:Nat:=26
def By:Nat:=27
def Bz:Nat:=28
def BA:Nat:=29
def BB:Nat:=30
def BC:Nat:=31
def BD:Nat:=32
def BE:Nat:=33
def ve:Nat:=34
def vf:Nat:=35
def BF:Nat:=36
def vg:Nat:=39
def BG:Nat:=47
def BH:Nat:=51
def BI:Nat:=52
def BJ:Nat:=53
def BK:Nat:=59
def BL:Nat:=60
def vh:Nat:=62
def BM:Nat:=63
def BN:Nat:=64
def BO:Nat:=65
def vi:Nat:=66
def BP:Nat:=67
def BQ:Nat:=68
def BR:Nat:=69
def vj:Nat:=70
def BS:Nat:=73
def BT:Nat:=77
def BU:Nat:=78
def vk:Nat:=79
def BV:Nat:=80
def BW:Nat:=81
def BX:Nat:=82
def rD:Nat:=83
def vl:Nat:=86
def vm:Nat:=87
def ns:Nat:=88
def kU:Nat:=89
def iP:Nat:=90
def vn:Nat:=91
def rE:Nat:=92
def kV:Nat:=93
def vo:Nat:=94
def rF:Nat:=95
def BY:Nat:=96
def BZ:Nat:=97
def pg:Nat:=98
def jE:Nat:=99
def vp:Nat:=100
def kW:Nat:=101
def B1:Nat:=102
def B2:Nat:=103
def B3:Nat:=104
def B4:Nat:=105
def B5:Nat:=106
def B6:Nat:=107
def B7:Nat:=108
def B8:Nat:=109
def vq:Nat:=110
def vr:Nat:=111
def B9:Nat:=112
def Ca:Nat:=113
def Cb:Nat:=114
def Cc:Nat:=115
def Cd:Nat:=116
def vt:Nat:=117
def Ce:Nat:=118
def Cf:Nat:=119
def Cg:Nat:=120
def Ch:Nat:=121
def Ci:Nat:=123
def cmp_isNaN_int:Nat:=124
def Cj:Nat:=125
def Ck:Nat:=126
def Cl:Nat:=130
def rG:Nat:=131
def Cm:Nat:=132
def Cn:Nat:=133
def Co:Nat:=134
def Cp:Nat:=135
def Cq:Nat:=136
def rH:Nat:=138
def Cr:Nat:=139
def vu:Nat:=140
def Cs:Nat:=145
def Ct:Nat:=146
def Cu:Nat:=147
def Cv:Nat:=148
def Cw:Nat:=149
def Cx:Nat:=150
def Cy:Nat:=151
def iQ:Nat:=152
def Cz:Nat:=153
def CA:Nat:=154
def jF:Nat:=155
def CB:Nat:=156
def CC:Nat:=159
def rI:Nat:=160
def CD:Nat:=161
def CE:Nat:=162
def vv:Nat:=163
def CF:Nat:=164
def CG:Nat:=165
def CH:Nat:=166
def CI:Nat:=167
def CJ:Nat:=168
def l0:Nat:=169
def CK:Nat:=170
def CL:Nat:=171
def ph:Nat:=172
def CM:Nat:=173
def CN:Nat:=174
def vw:Nat:=175
def vx:Nat:=176
def CO:Nat:=177
def nt:Nat:=178
def CP:Nat:=179
def rJ:Nat:=180
def CQ:Nat:=181
def CR:Nat:=182
def vy:Nat:=183
def CS:Nat:=184
def CT:Nat:=185
def CU:Nat:=186
def vz:Nat:=187
def CV:Nat:=188
def CW:Nat:=189
def CX:Nat:=190
def CY:Nat:=191
def vA:Nat:=192
def CZ:Nat:=193
def C0:Nat:=194
def C1:Nat:=195
def KZ:Nat:=196
def C2:Nat:=197
def C3:Nat:=198
def C4:Nat:=199
def C5:Nat:=200
def C6:Nat:=201
def K0:Nat:=202
def C7:Nat:=212
def C8:Nat:=213
def C9:Nat:=214
def pi:Nat:=215
def rK:Nat:=216
def Da:Nat:=217
def Db:Nat:=218
def Dc:Nat:=220
def Dd:Nat:=221
def De:Nat:=222
def Df:Nat:=225
def rL:Nat:=226
def pj:Nat:=227
def Dg:Nat:=228
def rM:Nat:=229
def Dh:Nat:=230
def Di:Nat:=231
def rN:Nat:=232
def Dj:Nat:=233
def Dk:Nat:=234
def vB:Nat:=235
def vC:Nat:=236
def Dl:Nat:=237
def Dm:Nat:=238
def Dn:Nat:=239
def Do:Nat:=240
def Dp:Nat:=241
def Dq:Nat:=242
def Dr:Nat:=243
def K1:Nat:=244
def pk:Nat:=246
def vD:Nat:=247
def Ds:Nat:=248
def Dt:Nat:=249
def Du:Nat:=250
def Dv:Nat:=251
def Dw:Nat:=252
def pm:Nat:=253
def Dx:Nat:=254
def K2:Nat:=261
def Dy:Nat:=262
def K3:Nat:=263
def Dz:Nat:=264
def K4:Nat:=265
def DA:Nat:=266
def DB:Nat:=267
def l1:Nat:=268
def DC:Nat:=269
def DD:Nat:=270
def DE:Nat:=271
def DF:Nat:=280
def DG:Nat:=281
def DH:Nat:=282
def DI:Nat:=283
def jG:Nat:=284
def DJ:Nat:=285
def DK:Nat:=287
def DL:Nat:=288
def DM:Nat:=289
def K5:Nat:=290
def DN:Nat:=294
def DO:Nat:=295
def DP:Nat:=297
def DQ:Nat:=298
def DR:Nat:=299
def K6:Nat:=300
def DS:Nat:=301
def K7:Nat:=302
def K8:Nat:=303
def K9:Nat:=304
def La:Nat:=305
def Lb:Nat:=306
def cmp_Less_int:Nat:=307
def Lc:Nat:=308
def Ld:Nat:=309
def Le:Nat:=319
def Lf:Nat:=320
abbrev DT:Nat:=0
abbrev vE:Nat:=1
abbrev aj:Nat:=2
abbrev ab:Nat:=3
abbrev ig:Nat:=4
abbrev b4:Nat:=5
abbrev bY:Nat:=9
abbrev b5:Nat:=22
abbrev pn:Nat:=24
abbrev dy:Nat:=25
abbrev al:Nat:=26
abbrev eg:Nat:=27
abbrev iR:Nat:=28
abbrev eY:Nat:=29
abbrev iS:Nat:=30
abbrev b7:Nat:=33
abbrev hK:Nat:=36
abbrev cY:Nat:=39
abbrev an:Nat:=54
abbrev cu:Nat:=64
abbrev rO:Nat:=66
abbrev rP:Nat:=69
abbrev kg:Nat:=72
abbrev cg:Nat:=77
abbrev cT:Nat:=79
abbrev kh:Nat:=88
abbrev fq:Nat:=92
abbrev aU:Nat:=100
abbrev ki:Nat:=102
abbrev dJ:Nat:=110
abbrev vF:Nat:=119
abbrev vG:Nat:=122
abbrev nu:Nat:=125
abbrev ew:Nat:=126
abbrev ch:Nat:=129
abbrev l2:Nat:=130
abbrev bx:Nat:=135
abbrev bb:Nat:=140
abbrev eL:Nat:=142
abbrev po:Nat:=154
abbrev dS:Nat:=157
abbrev fI:Nat:=158
abbrev bF:Nat:=160
abbrev hl:Nat:=166
abbrev gH:Nat:=167
abbrev bt:Nat:=169
abbrev cZ:Nat:=175
abbrev bT:Nat:=177
abbrev dK:Nat:=178
abbrev bU:Nat:=180
abbrev eh:Nat:=182
abbrev cP:Nat:=186
abbrev a6:Nat:=188
abbrev cU:Nat:=190
abbrev bI:Nat:=192
abbrev di:Nat:=196
abbrev aL:Nat:=198
abbrev iT:Nat:=203
abbrev ey:Nat:=205
abbrev fJ:Nat:=208
abbrev l3:Nat:=225
abbrev ci:Nat:=235
abbrev dL:Nat:=245
abbrev gk:Nat:=246
abbrev kX:Nat:=247
abbrev pp:Nat:=248
abbrev eM:Nat:=250
abbrev fd:Nat:=259
abbrev jH:Nat:=264
abbrev fU:Nat:=267
abbrev hL:Nat:=273
abbrev dj:Nat:=278
abbrev bA:Nat:=281
abbrev eZ:Nat:=283
abbrev cj:Nat:=288
abbrev gI:Nat:=297
abbrev ez:Nat:=299
abbrev l4:Nat:=300
abbrev e0:Nat:=303
abbrev Lg:Nat:=317
abbrev l7:Nat:=325
abbrev fs:Nat:=332
abbrev eN:Nat:=334
abbrev bV:Nat:=336
abbrev iU:Nat:=352
abbrev hn:Nat:=354
abbrev pq:Nat:=370
abbrev jI:Nat:=383
abbrev kj:Nat:=398
abbrev pr:Nat:=415
theorem ap {f:FuncId} {fn:Func} {c:Code} {Q:y0→x1→Prop} {O:{B S aG:Type}→kf B S aG→(y0→x1→B)→B} {J:Prop} (ae:x5.funcs[f]? =some fn) (h:J)
  (U:fn.body=some c:=by rfl) (_:∀ {B S aG:Type} (A:kf B S aG) (Q:y0→x1→B),rB A false false (n:=w.heap.size) fn c args w Q=O A Q:=by intros;conv=>lhs;reduce)
  (_:O (lZ x5) Q=J:=by dsimp only[lZ]) (e:J=dx x5 fn.ntmps (false,w.heap.size) c (kd fn.results.toList) (iM 0 args) w (jB x5 fn.results.toList false Q):=by kernel_rfl)
  (E:(!(fn.name == "runtime.NumGoroutine")&&wf fn.ntmps c&&Nat.ble args.length fn.ntmps&& !ia c)=true:=by kernel_rfl):ag x5 f args w Q:=by
 simp only[W0,Bool.not_eq_true'] at E;exact ag.Bh mixed ae U E.1.1.1 E.1.1.2 E.1.2 E.2 (e▸h)
theorem iV {f:FuncId} {fn:Func} {c:Code} {Q:y0→x1→Prop} {O:{B S aG:Type}→kf B S aG→(y0→x1→B)→B} {J:Prop} (ae:x5.funcs[f]? =some fn) (h:J)
  (U:fn.body=some c:=by rfl) (_:∀ {B S aG:Type} (A:kf B S aG) (Q:y0→x1→B),rB A false true (n:=w.heap.size) fn c args w Q=O A Q:=by intros;conv=>lhs;reduce)
  (_:O (lZ x5) Q=J:=by dsimp only[lZ]) (e:J=dx x5 fn.ntmps (false,w.heap.size) c (kd fn.results.toList) (iM 0 args) w (jB x5 fn.results.toList true Q):=by kernel_rfl)
  (E:(!(fn.name == "runtime.NumGoroutine")&&wf fn.ntmps c&&Nat.ble args.length fn.ntmps)=true:=by kernel_rfl):ag x5 f args w Q:=by
 simp only[W0,Bool.not_eq_true'] at E;exact ag.enter mixed ae U E.1.1 E.1.2 E.2 (e▸h)
theorem ps {f:FuncId} {fn:Func} {c:Code} {Q:y0→x1→Prop} {O:{B S aG:Type}→kf B S aG→(y0→x1→B)→B} {J:Prop} (ae:x5.funcs[f]? =some fn) (h:J)
  (U:fn.body=some c:=by rfl) (_:∀ {B S aG:Type} (A:kf B S aG) (Q:y0→x1→B),rB A true false (n:=0) fn c args w Q=O A Q:=by intros;conv=>lhs;reduce)
  (_:O (lZ x5) Q=J:=by dsimp only[lZ]) (e:J=dx x5 fn.ntmps (true,0) c (kd fn.results.toList) (iM 0 args) w (jB x5 fn.results.toList false Q):=by kernel_rfl)
  (E:(!(fn.name == "runtime.NumGoroutine")&&wf fn.ntmps c&&Nat.ble args.length fn.ntmps)=true:=by kernel_rfl):fp x5 f args w Q:=by
 simp only[W0,Bool.not_eq_true'] at E;exact fp.enter mixed ae U E.1.1 E.1.2 E.2 (e▸h)
theorem iQ.enters:Enters x5 iQ:=Enters.of x5 (show x5.funcs[iQ]? =some Tryz.f152 from Tryz.func152) rfl (by kernel_rfl)
theorem jF.enters:Enters x5 jF:=Enters.of x5 (show x5.funcs[jF]? =some Tryz.f155 from Tryz.func155) rfl (by kernel_rfl)
theorem l1.enters:Enters x5 l1:=Enters.of x5 (show x5.funcs[l1]? =some Tryz.f268 from Tryz.func268) rfl (by kernel_rfl)
theorem jG.enters:Enters x5 jG:=Enters.of x5 (show x5.funcs[jG]? =some Tryz.f284 from Tryz.func284) rfl (by kernel_rfl)
end Go.Proofs.YthjegppepbbojaaGreatDoor
namespace Go.Vc
open Go Go.RowKit
theorem rQ {b:Nat} (h:w.cell? ⟨b,o,none⟩=some v):∃ c e f,w.heap[b]? =some (.cells c e f)∧c[o]? =some v:=by
 simp only[x1.cell?] at h;split at h
 ·rename_i c e f E;exact⟨c,e,f,E,by simpa using h⟩
 ·cases h
theorem vH (J:ad S w w') {b:Nat} (E:¬S b) (h:w.cell? ⟨b,o,none⟩=some v):w'.cell? ⟨b,o,none⟩=some v:=by
 obtain⟨c,e,f,O,ac⟩:=rQ h;simp[x1.cell?,J.aX b _ O rfl E,ac]
theorem kY (J:Ext w w') {b:Nat} (h:w.cell? ⟨b,o,none⟩=some v):w'.cell? ⟨b,o,none⟩=some v:=
 vH (J.U fun _=>False) (fun h=>h) h
theorem l8 (J:Ext w w') {b:Nat} (h:w.rangeAt b o cs):w'.rangeAt b o cs:=fun j v ac=>kY J (h j v ac)
theorem pt (J:ad S w w') {b:Nat} (E:¬S b) (h:w.rangeAt b o cs):w'.rangeAt b o cs:=fun j v ac=>vH J E (h j v ac)
def aa (w:x1) (g:Nat) (e:u9) (cs:List y0):Prop:=w.heap[g]? =some (.cells cs.toArray e (0,0))
theorem aa.ext {g:Nat} (h:aa w g e cs) (J:Ext w w'):aa w' g e cs:=J.aX g _ h rfl
theorem aa.U {g:Nat} (h:aa w g e cs) (J:ad S w w') (E:¬S g):aa w' g e cs:=J.aX g _ h rfl E
theorem aa.lt {g:Nat} (h:aa w g e cs):g<w.heap.size:=(o7.1 h).1
theorem aa.cell {g:Nat} (h:aa w g e cs) (ac:cs[o]? =some v):w.cell? ⟨g,o,none⟩=some v:=by
 unfold aa at h;simp[x1.cell?,h,ac]
theorem aa.range {g:Nat} (h:aa w g e cs):w.rangeAt g 0 cs:=fun j v ac=>by rw[V0];exact h.cell ac
theorem aa.frozen {g:Nat} (h:aa w g e cs) (o:Nat) (E:Option Nat):w.frozen? ⟨g,o,E⟩=false:=by
 unfold aa at h;simp[x1.frozen?,h]
def bM (w:x1) (k:Nat) (v:y0) (n:Nat) (cs:List y0):Prop:=
 cs.length=n*k∧ ∃ b o base cap,v= .slice base n cap∧n≤cap∧cap≤maxLen∧(0<n→base=some ⟨b,o,none⟩)∧w.rangeAt b o cs
theorem bM.ext {k:Nat} (h:bM w k v n cs) (J:Ext w w'):bM w' k v n cs:=by
 obtain⟨h1,b,o,base,cap,E,O,U,V,W⟩:=h;exact⟨h1,b,o,base,cap,E,O,U,V,l8 J W⟩
theorem bM.le {k:Nat} (h:bM w k v n cs):n≤maxLen:=by
 obtain⟨_,_,_,_,_,_,E,J,_⟩:=h;exact Z3 E J
theorem bM.nil (w:x1) (k:Nat):bM w k (.slice none 0 0) 0 []:=⟨by simp,0,0,none,0,rfl,r9 _,Z5 _,fun h=>absurd h (Nat.lt_irrefl _),fun j v h=>by simp at h⟩
def aA (P:Y3) (t:u9) (k b:Nat) (z:y0):Prop:=∃ i,P.info? t=some i∧i.size=k∧i.bytes=b∧i.zero=some z
theorem aA.of {P:Y3} {k b:Nat} (h:(P.info? t).map (fun i=>(i.size,i.bytes,i.zero))=some (k,b,some z)):aA P t k b z:=by
 cases hi:P.info? t with
 |none=>simp[hi] at h
 |some i=>simp[hi] at h;exact⟨i,hi,h⟩
theorem aA.size {P:Y3} {k b:Nat} (h:aA P t k b z):(P.info? t).map (·.size)=some k:=by
 obtain⟨i,hi,E,_⟩:=h;simp[hi,E]
def bm (P:Y3) (t:u9) (J:List (Nat×Nat)):Prop:=∃ E,P.underlying t=some (.struct E)∧E.toList.map (fun f=>(f.offset,((P.info? f.type).map (·.size)).getD 0))=J
def vI (P:Y3) (t:u9):Option (List (Nat×Nat)):=match P.underlying t with
 |some (.struct E)=>some (E.toList.map fun f=>(f.offset,((P.info? f.type).map (·.size)).getD 0))
 |_=>none
theorem bm.of {P:Y3} {E:List (Nat×Nat)} (h:vI P t=some E):bm P t E:=by
 unfold vI at h;split at h
 ·rename_i J hu;exact⟨J,hu,by simpa using h⟩
 ·cases h
section
variable {P:Y3} {w:x1}
theorem O.of {s:Sem y0} (h:∀ w',Ext w w'→s.run P w'= .ok v w'):O P s w K=K v:=by
 refine propext ⟨fun⟨E,h',k⟩=>?_,fun k=>⟨v,h,k⟩⟩;have:=h' w (Ext.refl w);rw[h w (Ext.refl w)] at this;cases this;exact k
theorem aw.of {α:Type} {s:Sem α} {v:α} {K:α→x1→Prop} (h:s.run P w= .ok v w') (E:cm w w') (k:K v w'):aw P s w K:=⟨v,w',h,E,k⟩
theorem ca {c:Bool} {A B:Prop}:Split (.bool c) A B=((c=true→A)∧(c=false→B)):=by
 refine propext ⟨fun⟨J,h,h1,E⟩=>?_,fun⟨h1,E⟩=>⟨c,rfl,h1,E⟩⟩;cases h;exact⟨h1,E⟩
theorem af {p:Prop} [Decidable p] {A B:Prop}:Split (.bool (decide p)) A B=((p→A)∧(¬p→B)):=by rw[ca];simp
theorem bq {A B:Prop}:Split (.bool true) A B=A:=by rw[ca];simp
theorem aR {A B:Prop}:Split (.bool false) A B=B:=by rw[ca];simp
theorem aB {b:Int}:O P (ax .add t cx cy (.int k a) (.int k b)) w K=K (.int k (k.wrap (a+b))):=
 O.of fun w' _=>by simp[ax,eqGuard,binOp,Op.intArith]
theorem dk {b:Int}:O P (ax .sub t cx cy (.int k a) (.int k b)) w K=K (.int k (k.wrap (a-b))):=
 O.of fun w' _=>by simp[ax,eqGuard,binOp,Op.intArith]
theorem fV {b:Int}:O P (ax .mul t cx cy (.int k a) (.int k b)) w K=K (.int k (k.wrap (a*b))):=
 O.of fun w' _=>by simp[ax,eqGuard,binOp,Op.intArith]
theorem pu {b:Int} (E:b≠0):O P (ax .quo t cx cy (.int k a) (.int k b)) w K=K (.int k (k.wrap (a.tdiv b))):=
 O.of fun w' _=>by simp[ax,eqGuard,binOp,Op.intDiv,E]
theorem vJ {b:Int} (E:b≠0):O P (ax .rem t cx cy (.int k a) (.int k b)) w K=K (.int k (a.tmod b)):=
 O.of fun w' _=>by simp[ax,eqGuard,binOp,Op.intDiv,E]
theorem aC {b:Int}:O P (ax .lss t cx cy (.int k a) (.int k b)) w K=K (.bool (decide (a<b))):=
 O.of fun w' _=>by simp[ax,eqGuard,binOp,Op.intCmp]
theorem nv {b:Int}:O P (ax .leq t cx cy (.int k a) (.int k b)) w K=K (.bool (decide (a≤b))):=
 O.of fun w' _=>by simp[ax,eqGuard,binOp,Op.intCmp]
theorem br {b:Int}:O P (ax .gtr t cx cy (.int k a) (.int k b)) w K=K (.bool (decide (b<a))):=
 O.of fun w' _=>by simp[ax,eqGuard,binOp,Op.intCmp]
theorem cn {b:Int}:O P (ax .geq t cx cy (.int k a) (.int k b)) w K=K (.bool (decide (b≤a))):=
 O.of fun w' _=>by simp[ax,eqGuard,binOp,Op.intCmp]
theorem bc {b:Int}:O P (ax .eql t cx cy (.int k a) (.int k b)) w K=K (.bool (decide (a=b))):=
 O.of fun w' _=>by
  have:(a == b)=decide (a=b):=by by_cases h:a=b <;> simp[h]
  simp[ax,eqGuard,binOp,Op.intCmp,this]
theorem bj {b:Int}:O P (ax .neq t cx cy (.int k a) (.int k b)) w K=K (.bool (decide (a≠b))):=
 O.of fun w' _=>by
  have:(a != b)=decide (a≠b):=by by_cases h:a=b <;> simp[h,bne]
  simp[ax,eqGuard,binOp,Op.intCmp,this]
theorem DU {E:o4} {b:Int} (J:0≤b):O P (ax .shl t cx cy (.int k a) (.int E b)) w K=K (.int k (k.wrap (a*2 ^ min b.toNat k.bits))):=
 O.of fun w' _=>by simp[ax,eqGuard,binOp,Op.shift,show ¬b<0 by omega]
theorem bJ {c:Bool}:O P (Op.unary .not (.bool c)) w K=K (.bool !c):=O.of fun w' _=>by simp[Op.unary]
theorem jJ:O P (Op.unary .neg (.int k a)) w K=K (.int k (k.wrap (0-a))):=O.of fun w' _=>by simp[Op.unary,Op.intArith]
theorem ft {s d:u9} {E:o4} (J:P.underlying s=some (.int E)) (U:P.underlying d=some (.int k)):
  O P (convert s d (.int E a)) w K=K (.int k (k.wrap a)):=O.of fun w' _=>by simp[convert,run_underlying J,run_underlying U,Conv.intToInt]
theorem rR {x y:y0} {r:Bool} (E:∀ w',(eqGuard .eql t (aJ cx) (aJ cy) x y).run P w'= .ok () w')
  (U:binOp .eql t x y=(do pure (.bool (←Op.equal t x y)))) (h:∀ w',Ext w w'→(Op.equal t x y).run P w'= .ok r w'):O P (ax .eql t cx cy x y) w K=K (.bool r):=O.of fun w' J=>by
 unfold ax;rw[U,Z8,E w',Result.andThen_ok,Z8,h w' J];rfl
theorem DV {x y:y0} {r:Bool} (E:∀ w',(eqGuard .neq t (aJ cx) (aJ cy) x y).run P w'= .ok () w')
  (U:binOp .neq t x y=(do pure (.bool (!(←Op.equal t x y))))) (h:∀ w',Ext w w'→(Op.equal t x y).run P w'= .ok r w'):O P (ax .neq t cx cy x y) w K=K (.bool !r):=O.of fun w' J=>by
 unfold ax;rw[U,Z8,E w',Result.andThen_ok,Z8,h w' J];rfl
theorem vK (w:x1) (d:Nat) {p:Option Addr} (h:P.underlying t=some (.pointer e)):(Op.equalIn (d+1) t (.pointer p) (.pointer none)).run P w= .ok p.isNone w:=by
 cases p <;> simp[Op.equalIn,run_underlying h]
theorem ma {base:Option Addr} {c:Nat} (E:P.underlying t=some (.slice e)):
  O P (ax .eql t cx cy (.slice base n c) (.slice none 0 0)) w K=K (.bool base.isNone):=rR (fun _=>rfl) rfl fun w' _=>run_equal_slice_nil w' t e base n c E
theorem cQ {p:Option Addr} (E:P.underlying t=some (.pointer e)):
  O P (ax .eql t cx cy (.pointer p) (.pointer none)) w K=K (.bool p.isNone):=rR (fun _=>rfl) rfl fun w' _=>vK w' 9999 E
theorem vL {p:Option Addr} (E:P.underlying t=some (.pointer e)):
  O P (ax .neq t cx cy (.pointer p) (.pointer none)) w K=K (.bool !p.isNone):=DV (fun _=>rfl) rfl fun w' _=>vK w' 9999 E
theorem fK {E:u9} {base:Option Addr} {c:Nat} (J:P.underlying t=some (.slice e)):
  O P (Y4 #[t] E #[.slice base n c]) w K=K (.int .i64 n):=O.of fun w' _=>by simp[Y4,run_underlying J,goInt]
theorem kk {b2:Array u9} {E:u9} {b:Int}:
  O P (l6.min_ b2 E #[.int k a,.int k b]) w K=K (.int k (min a b)):=O.of fun w' _=>by
 simp only[l6.min_,List.foldlM,l6.min2];simp only[Z8,Y5,Result.andThen_ok,Int.min_def];congr 2;split <;> split <;> omega
theorem rS {b2:Array u9} {E:u9} {b:Int}:
  O P (l6.max_ b2 E #[.int k a,.int k b]) w K=K (.int k (max a b)):=O.of fun w' _=>by
 simp only[l6.max_,List.foldlM,l6.max2];simp only[Z8,Y5,Result.andThen_ok,Int.max_def];congr 2;split <;> split <;> omega
theorem gJ {vs:Array y0} {i:Nat} (h:vs[i]? =some v):O P (c9 (.tuple vs) i) w K=K v:=O.of fun w' _=>by simp[c9,h]
theorem hM {f:Fn} {a b:Array y0}:O P (Instr.makeFunc f a b) w K=K (.func f a b):=O.of fun _ _=>rfl
def iW (P:Y3) (t:u9):Bool:=match P.underlying t with
 |some (.struct _)|some (.array _ _)|none=>false
 |_=>true
theorem av {b:Nat} (E:iW P t=true) (h:w.cell? ⟨b,o,none⟩=some v):
  O P (x6 t (.pointer (some ⟨b,o,none⟩))) w K=K v:=O.of fun w' J=>by
 have h':=kY J h;unfold iW at E;cases hu:P.underlying t with
 |none=>rw[hu] at E;cases E
 |some d=>
  rw[hu] at E;cases d <;> first|(cases E;done)|simp[x6,Instr.sureAddr,loadVar,isAgg,run_underlying hu,h']
theorem vM {d:TypeDesc} {b k:Nat} (hu:P.underlying t=some d) (U:d.isRow=true) (hi:aA P t k E z) (V:cs.length=k)
  (h:w.rangeAt b o cs):O P (x6 t (.pointer (some ⟨b,o,none⟩))) w K=K (.agg cs.toArray):=O.of fun w' J=>
 run_loadAt_mid (P:=P) w' b o t cs d (l8 J h) hu U (by rw[hi.size,V])
theorem bn {E:List (Nat×Nat)} {b k J:Nat} (hu:bm P t E) (hi:aA P t k J z) (U:cs.length=k)
  (h:w.rangeAt b o cs):O P (x6 t (.pointer (some ⟨b,o,none⟩))) w K=K (.agg cs.toArray):=by
 obtain⟨V,hu,_⟩:=hu;exact vM hu rfl hi U h
theorem aF {U:List (Nat×Nat)} {i b off z:Nat} (W:bm P t U) (ae:U[i]? =some (off,z+1)):
  O P (x8 t (.pointer (some ⟨b,o,none⟩)) i) w K=K (.pointer (some ⟨b,o+off,none⟩)):=O.of fun w' _=>by
 obtain⟨X,hu,rfl⟩:=W;rw[x7] at ae;cases E:X[i]? with
 |none=>rw[U5,E] at ae;cases ae
 |some f=>
  rw[U5,E] at ae;simp only[c5,b8,W5] at ae;obtain⟨rfl,V⟩:=ae;cases J:P.info? f.type with
  |none=>simp[J] at V
  |some j=>
   have Y:j.size=z+1:=by simpa[J] using V
   simp[x8,run_underlying hu,E,Instr.sureAddr,fieldPlace,sizeOf,typeInfo,J,Y,W7]
theorem vN {i:Int} {b c z J:Nat} {U:y0} {base:Option Addr} (hu:P.underlying t=some (.slice e)) (V:aA P e z J U)
  (W:0≤i) (hi:i<n) (E:0<n→base=some ⟨b,o,none⟩):
  O P (j9 t (.slice base n c) (.int k i)) w K=K (.pointer (some ⟨b,o+i.toNat*z,none⟩)):=O.of fun w' _=>by
 have E:=E (by omega);subst E;obtain⟨j,X,Y,_⟩:=V;simp[j9,asIntOf,run_underlying hu,W,hi,sizeOf,typeInfo,X,Y,W7]
theorem gl {i:Nat} {b c z:Nat} {base:Option Addr} (hu:P.underlying t=some (.slice e)) (U:aA P e z E J)
  (hi:i<n) (V:0<n→base=some ⟨b,o,none⟩):
  O P (j9 t (.slice base n c) (.int k (i:Int))) w K=K (.pointer (some ⟨b,o+i*z,none⟩)):=by
 rw[vN (i:=(i:Int)) hu U (by omega) (by omega) V];rfl
theorem DW {i:Int} {b z:Nat} (hu:P.underlying t=some (.array n e)) (U:aA P e z E J)
  (V:0≤i) (hi:i<n):
  O P (j9 t (.pointer (some ⟨b,o,none⟩)) (.int k i)) w K=K (.pointer (some ⟨b,o+i.toNat*z,none⟩)):=O.of fun w' _=>by
 obtain⟨j,W,X,_⟩:=U;simp[j9,asIntOf,run_underlying hu,Instr.sureAddr,V,hi,sizeOf,typeInfo,W,X,W7]
theorem pv {i:Nat} {b z:Nat} (hu:P.underlying t=some (.array n e)) (U:aA P e z E J) (hi:i<n):
  O P (j9 t (.pointer (some ⟨b,o,none⟩)) (.int k (i:Int))) w K=K (.pointer (some ⟨b,o+i*z,none⟩)):=by
 rw[DW (i:=(i:Int)) hu U (by omega) (by omega)];rfl
def jK:Option y0→Nat→Prop
 |none,l=>l=0
 |some v,l=>∃ k,v= .int k l
def jL:Option y0→Nat→Nat→Prop
 |none,n,h=>h=n
 |some v,_,h=>∃ k,v= .int k h
def maxOf:Option y0→Option y0→Nat→Nat→Prop
 |none,_,c,m=>m=c
 |some v,some _,_,m=>∃ k,v= .int k m
 |some _,none,_,_=>False
theorem mb {l:Nat}:jK (some (.int k (l:Int))) l:=⟨_,rfl⟩
theorem kZ (l:Nat) (x:Int) (h:x=(l:Int)):jK (some (.int k x)) l:=⟨k,by rw[h]⟩
theorem k0 (l:Nat) (x:Int) (h:x=(l:Int)):jL (some (.int k x)) n l:=⟨k,by rw[h]⟩
theorem ho:jK none 0:=rfl
theorem mc:jL (some (.int k (h:Int))) n h:=⟨_,rfl⟩
theorem hp:jL none n n:=rfl
theorem ea {h:Option y0} {c:Nat}:maxOf none h c c:=by cases h <;> rfl
theorem pw (w:x1) {sl:Bool} {c l:Nat} {low high mx:Option y0} (h1:jK low l) (J:jL high n h) (E:maxOf mx high c m) (O:l≤h) (U:h≤m) (hm:m≤c):
  (Instr.sliceBounds sl n c low high mx).run P w= .ok (l,h,m) w:=by
 cases low <;> cases high <;> cases mx <;> simp only[jK,jL,maxOf] at h1 J E <;> (try exact E.elim) <;> (try obtain⟨V,rfl⟩:=h1) <;> (try obtain⟨W,rfl⟩:=J) <;> (try obtain⟨X,rfl⟩:=E) <;> (try subst h1) <;> (try subst J) <;> (try subst E) <;>
  simp[Instr.sliceBounds,Instr.sliceBound,asIntOf,O,U,hm]
theorem fu {c z l:Nat} {base:Option Addr} {low high mx:Option y0} (hu:P.underlying t=some (.slice e)) (U:aA P e z E J)
  (h1:jK low l) (V:jL high n h) (W:maxOf mx high c m) (X:l≤h) (Y:h≤m) (hm:m≤c):
  O P (X4 t (.slice base n c) low high mx) w K=K (.slice (if m=l then base else base.map (·.add (l*z))) (h-l) (m-l)):=O.of fun w' _=>by
 obtain⟨j,Z,aa,_⟩:=U;simp[X4,Instr.slice,run_underlying hu,pw w' h1 V W X Y hm,sizeOf,typeInfo,Z,aa]
theorem px {z l b:Nat} {low high mx:Option y0} (hu:P.underlying t=some (.array n e)) (U:aA P e z E J)
  (h1:jK low l) (V:jL high n h) (W:maxOf mx high n m) (X:l≤h) (Y:h≤m) (hm:m≤n):
  O P (X4 t (.pointer (some ⟨b,o,none⟩)) low high mx) w K=K (.slice (some (if m=l then⟨b,o,none⟩ else⟨b,o+l*z,none⟩)) (h-l) (m-l)):=O.of fun w' _=>by
 obtain⟨j,Z,aa,_⟩:=U;simp[X4,Instr.sureAddr,run_underlying hu,pw w' h1 V W X Y hm,sizeOf,typeInfo,Z,aa,W7]
theorem ct {parts:Array (Nat×y0)} {cs:Array y0} (h:P.built t parts.toList=some cs):O P (Instr.build t parts) w K=K (.agg cs):=O.of fun w' _=>
 run_build (P:=P) w' t parts cs h
end
theorem bM.part {k c l:Nat} {base:Option Addr} (E:bM w k (.slice base n c) n cs) (W:l≤h) (J:h≤n) (hm:h≤m) (X:m≤c):
  bM w k (.slice (if m=l then base else base.map (·.add (l*k))) (h-l) (m-l)) (h-l) ((cs.drop (l*k)).take ((h-l)*k)):=by
 obtain⟨h1,b,o,Y,cap,he,Z,aa,O,U⟩:=E;cases he;have ab:h*k≤n*k:=X2 _ J;have ad:l*k+(h-l)*k=h*k:=by rw[←W8];congr 1;omega
 refine⟨by simp[h1];omega,b,o+l*k,_,m-l,rfl,by omega,by omega,fun ae=>?_,fun j v ac=>?_⟩
 ·rw[O (by omega),if_neg (by omega)];simp[W7]
 ·have V:=(x3.1 ac).1;simp at V;rw[c7 (by omega),List.getElem?_drop] at ac;rw[Nat.add_assoc];exact U _ _ ac
section
variable {P:Y3} {w:x1}
structure hq (g:Nat) (w w':x1):Prop where
 os:w'.os=w.os
 tape:h8 w w'
 output:w'.output=w.output
 size:w'.heap.size=w.heap.size
 aX:∀ r,r≠g→w'.heap[r]? =w.heap[r]?
theorem hq.refl (g:Nat) (w:x1):hq g w w:=⟨rfl,.iI,rfl,rfl,fun _ _=>rfl⟩
theorem hq.trans {g:Nat} {a b:x1} (h:hq g a b) (k:hq g b c):hq g a c:=
 ⟨k.os.trans h.os,k.tape.trans h.tape,k.output.trans h.output,k.size.trans h.size,fun r E=>(k.aX r E).trans (h.aX r E)⟩
theorem hq.U {g:Nat} (h:hq g w w'):ad (fun r=>r=g) w w':=⟨Nat.le_of_eq h.size.symm,fun r o E _ J=>by rw[h.aX r J];exact E⟩
theorem hq.cD {g:Nat} (h:hq g w w') (J:aa w g e cs):cm w w':=
 ⟨h.os,h.tape,h.output,Nat.le_of_eq h.size.symm,fun r o E U=>by
  by_cases O:r=g
  ·subst O;unfold aa at J;rw[J] at E;cases E;simp[eK] at U
  ·rw[h.aX r O];exact E⟩
theorem vO {g:Nat} (h:aa w g e cs) (o:Nat) (v:y0):aa (w.setCell ⟨g,o,none⟩ v) g e (cs.set o v)∧hq g w (w.setCell ⟨g,o,none⟩ v):=by
 unfold aa at h;refine⟨?_,rfl,.iI,rfl,by simp[x1.setCell],fun r E=>?_⟩
 ·simp[aa,x1.setCell,Array.getElem?_modify,h]
 ·simp[x1.setCell,Array.getElem?_modify,Ne.symm E]
def over (cs:List y0):Nat→List y0→List y0
 |_,[]=>cs
 |o,v::r=>over (cs.set o v) (o+1) r
theorem kl:∀ (vs cs:List y0) (o:Nat),(over cs o vs).length=cs.length
 |[],_,_=>rfl
 |v::r,cs,o=>by simp[over,kl r]
theorem k1:∀ (vs cs:List y0) (o:Nat),o+vs.length≤cs.length→ ∀ j,(over cs o vs)[j]? =if o≤j∧j<o+vs.length then vs[j-o]? else cs[j]?
 |[],cs,o,_,j=>by simp[over];intro h1 E;omega
 |v::r,cs,o,h,j=>by
  simp only[n9] at h;rw[over,k1 r (cs.set o v) (o+1) (by simp;omega) j];simp only[n9];by_cases h1:o+1≤j∧j<o+1+r.length
  ·rw[if_pos h1,if_pos (by omega)];rw[show j-o=(j-(o+1))+1 by omega,List.getElem?_cons_succ]
  ·rw[if_neg h1];by_cases E:j=o
   ·subst E;rw[if_pos (by omega),V8 (by omega)];simp
   ·rw[if_neg (by omega),List.getElem?_set_ne (Ne.symm E)]
theorem km (h:o+vs.length≤cs.length):over cs o vs=cs.take o++vs++cs.drop (o+vs.length):=by
 apply Y7;intro j;rw[k1 vs cs o h];by_cases h1:j<o
 ·rw[if_neg (by omega),Z4 (by simp;omega),Z4 (by simp;omega),c7 h1]
 ·by_cases E:j<o+vs.length
  ·rw[if_pos (by omega),Z4 (by simp;omega),Z7 (by simp;omega)];congr 1;simp;omega
  ·rw[if_neg (by omega),Z7 (by simp;omega),List.getElem?_drop];congr 1;simp;omega
theorem k2 {g:Nat} {e:u9}:∀ (vs:List y0) (cs:List y0) (o:Nat) (w:x1),aa w g e cs→aa (w.setCells g o vs) g e (over cs o vs)∧hq g w (w.setCells g o vs)
 |[],cs,o,w,h=>⟨h,hq.refl _ _⟩
 |v::r,cs,o,w,h=>by
  obtain⟨h1,E⟩:=vO h o v;obtain⟨J,O⟩:=k2 r (cs.set o v) (o+1) _ h1;exact⟨J,E.trans O⟩
theorem py (w:x1) (c:List y0) (e:u9):aa (w.alloc (.cells c.toArray e)) w.heap.size e c∧Ext w (w.alloc (.cells c.toArray e))∧cm w (w.alloc (.cells c.toArray e)):=
 ⟨heap_alloc_new w _,nc w _,ne w _⟩
theorem bg {k:Nat} {K:y0→x1→Prop} (hi:aA P t k E z)
  (h:∀ g w',g=w.heap.size→Ext w w'→aa w' g t z.cells.toList→K (.pointer (some ⟨g,0,none⟩)) w'):aw P (Instr.alloc t true (.tuple #[])) w K:=by
 obtain⟨i,hi,_,_,J⟩:=hi;obtain⟨h1,O,U⟩:=py w z.cells.toList t;refine .of ?_ U (h _ _ rfl O h1);simp[Instr.alloc,zeroValue,typeInfo,hi,J,newVar,newRow]
theorem a7 {K:y0→x1→Prop}
  (h:∀ g w',g=w.heap.size→Ext w w'→aa w' g t v.cells.toList→K (.pointer (some ⟨g,0,none⟩)) w'):aw P (Instr.box t v) w K:=by
 obtain⟨h1,E,J⟩:=py w v.cells.toList t;refine .of ?_ J (h _ _ rfl E h1);simp[Instr.box,newVar,newRow]
def db (z:Array y0) (n:Nat):List y0:=((Array.range n).map (z[·% z.size]!)).toList
theorem k3 (z:Array y0) (n:Nat):(db z n).length=n:=by simp[db]
theorem hN {k O:Nat} {parts:Array (Nat×y0)} {cs:Array y0} {K:y0→x1→Prop} (J:P.underlying t=some (.slice e)) (hi:aA P e k O z)
  (Y:n*k≤2 ^ 24) (ae:Instr.fill (fun j=>some (j*k,k)) ((Array.range (n*k)).map ((if n*k=0 then #[] else z.cells)[·% (if n*k=0 then #[] else z.cells).size]!)) parts.toList=some cs)
  (h:∀ g w',g=w.heap.size→Ext w w'→aa w' g e cs.toList→K (.slice (some ⟨g,0,none⟩) n n) w'):aw P (b6 t n parts) w K:=by
 obtain⟨i,hi,rfl,_,U⟩:=hi;obtain⟨h1,V,W⟩:=py w cs.toList e;refine .of ?_ W (h _ _ rfl V h1);have X:¬(16777216<n*i.size):=by omega
 by_cases E:n*i.size=0
 ·simp only[E,if_true] at ae;simp[b6,run_underlying J,sizeOf,typeInfo,hi,E,newRow];simp at ae;simp[ae]
 ·simp only[E,if_false] at ae;simp[b6,run_underlying J,sizeOf,typeInfo,hi,X,E,newRow,zeroValue,U,ae]
theorem aY {O g:Nat} {K:Unit→x1→Prop} (hi:aA P t 1 O z) (h1:v.cells= #[v]) (ac:v.oneCell'=true) (E:aa w g e cs) (V:o<cs.length)
  (h:∀ w',ad (fun r=>r=g) w w'→w'.heap.size=w.heap.size→aa w' g e (cs.set o v)→K () w'):aw P (n0 t (.pointer (some ⟨g,o,none⟩)) v) w K:=by
 obtain⟨i,hi,W,_⟩:=hi;obtain⟨X,J⟩:=vO E o v;refine .of (w':=w.setCell ⟨g,o,none⟩ v) ?_ (J.cD E) (h _ J.U J.size X);have Y:=E.cell (x4 V);have Z:(⟨g,o,none⟩:Addr).add 0=⟨g,o,none⟩:=rfl;simp[n0,Instr.sureAddr,storeVar,sizeOf,typeInfo,hi,W,h1,storeCells,Z,run_store P w _ v _ ac,Y,E.frozen]
theorem rT {k O g:Nat} {K:Unit→x1→Prop} (hi:aA P t k O z) (V:vs.length=k) (ac:∀ v∈vs,v.oneCell'=true) (E:aa w g e cs) (Y:o+vs.length≤cs.length)
  (h:∀ w',ad (fun r=>r=g) w w'→w'.heap.size=w.heap.size→aa w' g e (over cs o vs)→K () w'):aw P (n0 t (.pointer (some ⟨g,o,none⟩)) (.agg vs.toArray)) w K:=by
 obtain⟨W,J⟩:=k2 vs cs o w E;refine .of (w':=w.setCells g o vs) ?_ (J.cD E) (h _ J.U J.size W);exact run_storeAt_mid (P:=P) w g o t vs.toArray (fun j X=>⟨by rw[E.cell (x4 (show o+j<cs.length by simp at X;omega))];rfl,E.frozen _ _⟩) (by rw[hi.size];simp[V]) (by simpa using ac)
def bz (w:x1) (g:Nat) (e:u9) (k:Nat) (v:y0) (n:Nat) (xs:List y0):Prop:=
 xs.length=n*k∧((v= .slice none 0 0∧n=0)∨ ∃ cap cs,v= .slice (some ⟨g,0,none⟩) n cap∧aa w g e cs∧n≤cap∧cap≤maxLen∧cs.length=cap*k∧cs.take (n*k)=xs)
theorem bz.nil (w:x1) (g:Nat) (e:u9) (k:Nat):bz w g e k (.slice none 0 0) 0 []:=⟨by simp,.inl ⟨rfl,rfl⟩⟩
theorem bz.full {g:Nat} {k:Nat} (h:aa w g e cs) (E:cs.length=n*k) (J:n≤maxLen):bz w g e k (.slice (some ⟨g,0,none⟩) n n) n cs:=
 ⟨E,.inr ⟨n,cs,rfl,h,r9 _,J,E,by rw[←E,o5]⟩⟩
theorem bz.U {g:Nat} {k:Nat} (h:bz w g e k v n xs) (J:ad S w w') (O:g<w.heap.size→¬S g):bz w' g e k v n xs:=
 ⟨h.1,h.2.imp id fun⟨cap,cs,h1,E,V⟩=>⟨cap,cs,h1,E.U J (O E.lt),V⟩⟩
theorem bz.ext {g:Nat} {k:Nat} (h:bz w g e k v n xs) (J:Ext w w'):bz w' g e k v n xs:=h.U (J.U fun _=>False) (fun _ h=>h)
theorem bz.sl {g:Nat} {k:Nat} (h:bz w g e k v n xs):bM w k v n xs:=by
 obtain⟨h1,⟨rfl,rfl⟩|⟨cap,cs,rfl,E,J,O,V,U⟩⟩:=h
 ·have:xs=[]:=o9 (by simpa using h1);subst this;exact bM.nil w k
 ·refine⟨h1,g,0,_,cap,rfl,J,O,fun _=>rfl,fun j v ac=>?_⟩;rw[V0];have W:=(x3.1 ac).1;rw[←U,c7 (by omega)] at ac;exact E.cell ac
theorem bM.src {k:Nat} {x:y0} {E:List y0} {O U:u9} (V:bM w k x m E) (W:P.underlying O=some (.slice U)) (h1:∀ u∈E,u.oneCell'=true) (X:0<m):Src P k O x m E w:=by
 obtain⟨Y,b,o,base,cap,rfl,_,_,J,Z⟩:=V;have J:=J X;subst J;exact Src.ofSlice w W ⟨b,o,none⟩ m cap E Y (fun j u hu=>by rw[W7];exact Z j u hu) h1
theorem bM.DX {k:Nat} {x:y0} {O:List y0} {E U:u9} (V:bM w k x 0 O) (J:P.underlying E=some (.slice U)):Src P k E x 0 [] w:=by
 obtain⟨W,b,o,base,cap,rfl,_,_,X,Y⟩:=V;cases base with
 |none=>exact Src.ofNil w J cap
 |some a=>exact Src.ofSlice w J a 0 cap [] (by simp) (by simp) (by simp)
theorem vP {O W aj av:u9} {k ak g:Nat} {x:y0} {E:List y0} {K:y0→x1→Prop}
  (aa:P.underlying t=some (.slice e)) (ab:P.underlying O=some (.slice av)) (hi:aA P e k ak z) (ax:z.cells.size=k)
  (al:bz w g aj k v n xs) (Z:bM w k x m E) (h1:∀ u∈E,u.oneCell'=true) (ay:(n+m)*ak≤140737488355328) (am:n+m≤maxLen)
  (h:∀ ac ae w' af,(ae=g∧af=aj∧(v=ac∨g<w.heap.size∧v≠ .slice none 0 0)∨ae=w.heap.size∧af=e)→bz w' ae af k ac (n+m) (xs++E)→ad (fun r=>r=g∧v≠ .slice none 0 0) w w'→K ac w'):
  aw P (l9 #[t,O] W #[v,x]) w K:=by
 obtain⟨i,hi,rfl,rfl,az⟩:=hi;have aB:=al.sl;obtain⟨J,ag⟩:=al;have V:=Z.1;have grow:∀ (base:Option Addr) (cap:Nat),v= .slice base n cap→cap<n+m→0<m→(l6.firstCells i.size n (.slice base n cap)).run P w.drew= .ok xs.toArray w.drew→aw P (l9 #[t,O] W #[v,x]) w K:=by
  rintro base cap rfl an hm aC;have X:=run_append_grow_src (P:=P) w t O W e i z aa hi az base n cap xs aC x m E (Z.src ab h1 hm) an (by simp only[maxLen] at am;omega) (growslice_fits an ay);have aD:n+m≤grownCap w (n+m) cap e:=grownCap_ge w _ _ _;have ah:grownCap w (n+m) cap e≤maxLen:=grownCap_le_maxLen w (n+m) cap e am;have aE:Ext w (w.drew.alloc (.cells ((xs++E).toArray++l6.zeroCells z.cells (grownCap w (n+m) cap e-(n+m))) e)):=(oG w _).trans (nc _ _);refine .of X ((nb w _ (Nat.le_succ _)).trans (ne _ _)) (h _ w.heap.size _ _ (.inr ⟨rfl,rfl⟩) ⟨by simp[J,V,W8],.inr ⟨_,((xs++E).toArray++l6.zeroCells z.cells (grownCap w (n+m) cap e-(n+m))).toList,rfl,?_,aD,ah,?_,?_⟩⟩ (aE.U _))
  ·show _=_;rw[Array.toArray_toList];exact heap_alloc_new w.drew _
  ·simp[J,V,size_zeroCells,ax,←W8];congr 1;omega
  ·rw[Array.toList_append,List.toList_toArray,W8,←J,←V,←u7];exact List.take_left
 rcases Nat.eq_zero_or_pos m with rfl|hm
 ·have aF:E=[]:=o9 (by simpa using V);subst aF;have aG:=Z.DX ab;have ao:∀ base cap,v= .slice base n cap→n≤cap→aw P (l9 #[t,O] W #[v,x]) w K:=by
   rintro base cap rfl ah;refine .of (run_append_nothing (P:=P) w t O W e i aa hi base n cap ah x aG) (cm.refl _) (h _ g _ _ (.inl ⟨rfl,rfl,.inl rfl⟩) ?_ (ad.refl _ _));rw[Nat.add_zero,Y8];exact⟨J,ag⟩
  obtain⟨rfl,rfl⟩|⟨cap,cs,rfl,_,ap,_⟩:=ag
  ·exact ao _ _ rfl (r9 _)
  ·exact ao _ _ rfl ap
 ·obtain⟨rfl,rfl⟩|⟨cap,cs,rfl,Y,ap,aH,aq,aI⟩:=ag
  ·have aJ:xs=[]:=o9 (by simpa using J);subst aJ;exact grow none 0 rfl (by omega) hm (run_firstCells_none w.drew i.size 0 0 0)
  ·by_cases ai:n+m≤cap
   ·have aK:n*i.size+E.length≤cs.length:=by rw[V,aq,←W8];exact X2 _ ai
    have X:=run_append_room_src (P:=P) w t O W e i aa hi g 0 n cap x m E (Z.src ab h1 hm) ai
     (fun j aP=>by rw[Y.cell (x4 (show 0+n*i.size+j<cs.length by omega))];rfl) (fun j _=>Y.frozen _ _)
    obtain⟨aL,au⟩:=k2 E cs (n*i.size) w Y;rw[V0] at X;refine .of X (au.cD Y) (h _ g _ _ (.inl ⟨rfl,rfl,.inr ⟨Y.lt,by simp⟩⟩) ⟨by simp[J,V,W8],.inr ⟨cap,_,rfl,aL,ai,aH,by rw[kl,aq],?_⟩⟩ (au.U.mono fun r _ h=>⟨h,by simp⟩));rw[km aK,aI,W8,←J,←V,←u7];exact List.take_left
   ·refine grow _ cap rfl (by omega) hm (run_firstCells_some w.drew i.size n _ n cap xs J fun j u hu=>?_);rw[W7];obtain⟨_,b,o,base,aQ,he,_,_,aM,X⟩:=aB;cases he;have aN:0<n:=by
     rcases Nat.eq_zero_or_pos n with rfl|aO
     ·simp at J;subst J;simp at hu
     ·exact aO
    have:=aM aN;cases this;simpa using X j u hu
theorem k4 {U X Y:u9} {k V g:Nat} {x:y0} {O:List y0} {K:y0→x1→Prop}
  (Z:P.underlying t=some (.slice e)) (aa:P.underlying U=some (.slice Y)) (hi:aA P e k V z) (ab:z.cells.size=k)
  (ac:bz w g e k v n xs) (ae:bM w k x m O) (h1:∀ u∈O,u.oneCell'=true) (af:(n+m)*V≤140737488355328) (ag:n+m≤maxLen)
  (h:∀ J E w',(E=g∨w.heap.size≤E)→bz w' E e k J (n+m) (xs++O)→ad (fun r=>r=g) w w'→K J w'):
  aw P (l9 #[t,U] X #[v,x]) w K:=
 vP Z aa hi ab ac ae h1 af ag fun J E w' ai W hm ah=>by
  refine h J E w' (W.imp And.left fun h=>Nat.le_of_eq h.1.symm) ?_ (ah.mono fun r _ h=>h.1);obtain⟨_,rfl,_⟩|⟨_,rfl⟩:=W <;> exact hm
theorem vQ {O W X:u9} {ai g Y:Nat} {x:y0} {base:Option Addr} {ac:u9} {K:y0→x1→Prop} (ae:P.underlying O=some (.slice e)) (hi:aA P e 1 ai z)
  (J:aa w g ac cs) (aj:0<E→base=some ⟨g,o,none⟩) (ax:o+E≤cs.length) (ak:bM w 1 x n xs) (h1:∀ u∈xs,u.oneCell'=true)
  (h:∀ w',ad (fun r=>r=g) w w'→w'.heap.size=w.heap.size→aa w' g ac (over cs o (xs.take E))→K (.int .i64 (min n E:Nat)) w'):
  aw P (l6.copy_ #[O,W] X #[.slice base E Y,x]) w K:=by
 obtain⟨Z,b,o',al,cap,rfl,_,_,am,an⟩:=ak;simp only[V2] at Z;have af:(P.info? e).map (·.size)=some 1:=hi.size;by_cases V:Nat.min n E=0
 ·have he:xs.take E=[]:=o9 (by rw[o6,Z];rw[Nat.min_comm];exact V);rw[he] at h;refine .of (run_copy_none (P:=P) w O W X e base al E Y n cap ae af V) (cm.refl _) ?_;have ag:min n E=0:=V;rw[ag] at h;exact h w (ad.refl _ _) rfl J
 ·have ag:min n E≠0:=V;have ao:=am (by omega);have ap:=aj (by omega);subst ao;subst ap;have ah:(xs.take E).length=min n E:=by rw[o6,Z,Nat.min_comm]
  obtain⟨aq,ab⟩:=k2 (xs.take E) cs o w J;have au:=run_copy_cells (P:=P) w O W X e g o E Y ⟨b,o',none⟩ n cap (xs.take E) ae af ah
   (fun j u hu=>by
    rw[W7];have av:=(x3.1 hu).1;rw[c7 (by omega)] at hu;exact an j u hu)
   (fun j av=>by rw[J.cell (x4 (show o+j<cs.length by omega))];rfl) (fun j _=>J.frozen _ _) (fun u hu=>h1 u (List.mem_of_mem_take hu))
  refine .of au (ab.cD J) ?_;rw[ah];exact h _ ab.U ab.size aq
theorem ag.mono {f:FuncId} {K J:y0→x1→Prop} (h:ag P f args w K) (O:∀ v w',cm w w'→K v w'→J v w'):ag P f args w J:=by
 cases h with
 |code h1 E=>exact .code h1 (E.mono fun _ w' ⟨v,h1,U,E⟩=>⟨v,h1,U,O v w' U E⟩)
 |ext v w' h1 E V=>exact .ext v w' h1 E (O v w' E V)
theorem fp.mono {f:FuncId} {K J:y0→x1→Prop} (h:fp P f args w K) (O:∀ v w',K v w'→J v w'):fp P f args w J:=by
 cases h with
 |code h1 E=>exact .code h1 (E.mono fun _ w' ⟨v,h1,E⟩=>⟨v,h1,O v w' E⟩)
 |ext v w' h1 U=>exact .ext v w' h1 (O v w' U)
end
end Go.Vc
namespace Go.Proofs.YthjegppepbbojaaGreatDoor
open Go Go.Vc Go.RowKit Go.Proofs Go.Proofs.Tryz
set_option maxRecDepth 100000
theorem aj.u:x5.underlying aj=some (.int .i64):=by kernel_rfl
theorem aj.i:aA x5 aj 1 8 (.int .i64 0):=aA.of (by kernel_rfl)
theorem ab.u:x5.underlying ab=some (.int .i64):=by kernel_rfl
theorem ab.i:aA x5 ab 1 8 (.int .i64 0):=aA.of (by kernel_rfl)
theorem ig.u:x5.underlying ig=some .bool:=by kernel_rfl
theorem ig.i:aA x5 ig 1 1 (.bool false):=aA.of (by kernel_rfl)
theorem b4.u:x5.underlying b4=some (.int .u8):=by kernel_rfl
theorem b4.i:aA x5 b4 1 1 (.int .u8 0):=aA.of (by kernel_rfl)
theorem bY.u:x5.underlying bY=some .string:=by kernel_rfl
theorem bY.i:aA x5 bY 1 16 (.string ⟨#[]⟩):=aA.of (by kernel_rfl)
theorem b5.u:x5.underlying b5=some (.slice b4):=by kernel_rfl
theorem pn.u:x5.underlying pn=some (.slice bY):=by kernel_rfl
theorem dy.u:x5.underlying dy=some (.pointer ch):=by kernel_rfl
theorem al.u:x5.underlying al=some (.slice ab):=by kernel_rfl
theorem al.i:aA x5 al 1 24 (.slice none 0 0):=aA.of (by kernel_rfl)
theorem eg.u:x5.underlying eg=some (.slice al):=by kernel_rfl
theorem eg.i:aA x5 eg 1 24 (.slice none 0 0):=aA.of (by kernel_rfl)
theorem iR.u:x5.underlying iR=some (.slice ig):=by kernel_rfl
theorem iR.i:aA x5 iR 1 24 (.slice none 0 0):=aA.of (by kernel_rfl)
theorem eY.u:x5.underlying eY=some (.slice an):=by kernel_rfl
theorem eY.i:aA x5 eY 1 24 (.slice none 0 0):=aA.of (by kernel_rfl)
theorem iS.u:x5.underlying iS=some (.slice ki):=by kernel_rfl
theorem iS.i:aA x5 iS 1 24 (.slice none 0 0):=aA.of (by kernel_rfl)
theorem b7.p:bm x5 b7 [(0,1),(1,1),(2,1),(3,1),(4,1),(5,1),(6,1),(7,1)]:=bm.of (by kernel_rfl)
theorem b7.i:aA x5 b7 8 160 (.agg #[(.int .i64 0),(.slice none 0 0),(.int .i64 0),(.slice none 0 0),(.slice none 0 0),(.slice none 0 0),(.slice none 0 0),(.slice none 0 0)]):=aA.of (by kernel_rfl)
theorem hK.i:aA x5 hK 1 8 (.int .i64 0):=aA.of (by kernel_rfl)
theorem cY.u:x5.underlying cY=some (.slice cu):=by kernel_rfl
theorem cY.i:aA x5 cY 1 24 (.slice none 0 0):=aA.of (by kernel_rfl)
theorem an.u:x5.underlying an=some (.slice aj):=by kernel_rfl
theorem an.i:aA x5 an 1 24 (.slice none 0 0):=aA.of (by kernel_rfl)
theorem cu.p:bm x5 cu [(0,1),(1,1),(2,1),(3,1)]:=bm.of (by kernel_rfl)
theorem cu.i:aA x5 cu 4 32 (.agg #[(.int .i64 0),(.int .i64 0),(.int .i64 0),(.int .i64 0)]):=aA.of (by kernel_rfl)
theorem rO.u:x5.underlying rO=some (.pointer bT):=by kernel_rfl
theorem rP.u:x5.underlying rP=some (.pointer cU):=by kernel_rfl
theorem kg.u:x5.underlying kg=some (.pointer ey):=by kernel_rfl
theorem cg.u:x5.underlying cg=some (.slice aU):=by kernel_rfl
theorem cg.i:aA x5 cg 1 24 (.slice none 0 0):=aA.of (by kernel_rfl)
theorem cT.p:bm x5 cT [(0,1),(1,1),(2,1),(3,1),(4,1)]:=bm.of (by kernel_rfl)
theorem cT.i:aA x5 cT 5 88 (.agg #[(.int .i64 0),(.slice none 0 0),(.int .i64 0),(.slice none 0 0),(.slice none 0 0)]):=aA.of (by kernel_rfl)
theorem kh.u:x5.underlying kh=some (.array 5 bY):=by kernel_rfl
theorem kh.i:aA x5 kh 5 80 (.agg #[(.string ⟨#[]⟩),(.string ⟨#[]⟩),(.string ⟨#[]⟩),(.string ⟨#[]⟩),(.string ⟨#[]⟩)]):=aA.of (by kernel_rfl)
theorem fq.u:x5.underlying fq=some (.int .u64):=by kernel_rfl
theorem fq.i:aA x5 fq 1 8 (.int .u64 0):=aA.of (by kernel_rfl)
theorem aU.p:bm x5 aU [(0,1),(1,1),(2,1)]:=bm.of (by kernel_rfl)
theorem aU.i:aA x5 aU 3 72 (.agg #[(.slice none 0 0),(.slice none 0 0),(.slice none 0 0)]):=aA.of (by kernel_rfl)
theorem ki.i:aA x5 ki 4 80 (.agg #[(.slice none 0 0),(.slice none 0 0),(.slice none 0 0),(.bool false)]):=aA.of (by kernel_rfl)
theorem dJ.u:x5.underlying dJ=some (.pointer ci):=by kernel_rfl
theorem dJ.i:aA x5 dJ 1 8 (.pointer none):=aA.of (by kernel_rfl)
theorem nu.u:x5.underlying nu=some (.pointer eM):=by kernel_rfl
theorem ew.u:x5.underlying ew=some (.slice eL):=by kernel_rfl
theorem ew.i:aA x5 ew 1 24 (.slice none 0 0):=aA.of (by kernel_rfl)
theorem ch.p:bm x5 ch [(0,1),(1,1),(2,1),(3,1),(4,1)]:=bm.of (by kernel_rfl)
theorem l2.i:aA x5 l2 1 8 .nilFunc:=aA.of (by kernel_rfl)
theorem bx.p:bm x5 bx [(0,1),(1,1)]:=bm.of (by kernel_rfl)
theorem bx.i:aA x5 bx 2 16 (.agg #[(.int .u64 0),(.int .i64 0)]):=aA.of (by kernel_rfl)
theorem bb.p:bm x5 bb [(0,1)]:=bm.of (by kernel_rfl)
theorem bb.i:aA x5 bb 1 24 (.agg #[(.slice none 0 0)]):=aA.of (by kernel_rfl)
theorem eL.p:bm x5 eL [(0,1),(1,1),(2,1)]:=bm.of (by kernel_rfl)
theorem eL.i:aA x5 eL 3 56 (.agg #[(.slice none 0 0),(.slice none 0 0),(.int .i64 0)]):=aA.of (by kernel_rfl)
theorem po.u:x5.underlying po=some (.pointer fU):=by kernel_rfl
theorem dS.p:bm x5 dS [(0,1),(1,1),(2,1),(3,1)]:=bm.of (by kernel_rfl)
theorem fI.u:x5.underlying fI=some (.slice hL):=by kernel_rfl
theorem fI.i:aA x5 fI 1 24 (.slice none 0 0):=aA.of (by kernel_rfl)
theorem bF.p:bm x5 bF [(0,1),(1,4),(5,1),(6,1)]:=bm.of (by kernel_rfl)
theorem hl.u:x5.underlying hl=some (.slice bt):=by kernel_rfl
theorem gH.u:x5.underlying gH=some (.slice dj):=by kernel_rfl
theorem gH.i:aA x5 gH 1 24 (.slice none 0 0):=aA.of (by kernel_rfl)
theorem bt.p:bm x5 bt [(0,1),(1,1),(2,1),(3,1)]:=bm.of (by kernel_rfl)
theorem bt.i:aA x5 bt 4 80 (.agg #[(.slice none 0 0),(.slice none 0 0),(.int .i64 0),(.slice none 0 0)]):=aA.of (by kernel_rfl)
theorem cZ.u:x5.underlying cZ=some (.slice bU):=by kernel_rfl
theorem cZ.i:aA x5 cZ 1 24 (.slice none 0 0):=aA.of (by kernel_rfl)
theorem bT.p:bm x5 bT [(0,1),(1,1),(2,1),(3,1)]:=bm.of (by kernel_rfl)
theorem dK.u:x5.underlying dK=some (.pointer ez):=by kernel_rfl
theorem dK.i:aA x5 dK 1 8 (.pointer none):=aA.of (by kernel_rfl)
theorem bU.p:bm x5 bU [(0,1),(1,1)]:=bm.of (by kernel_rfl)
theorem bU.i:aA x5 bU 2 32 (.agg #[(.slice none 0 0),(.pointer none)]):=aA.of (by kernel_rfl)
theorem eh.u:x5.underlying eh=some (.slice bI):=by kernel_rfl
theorem eh.i:aA x5 eh 1 24 (.slice none 0 0):=aA.of (by kernel_rfl)
theorem cP.u:x5.underlying cP=some (.slice aL):=by kernel_rfl
theorem cP.i:aA x5 cP 1 24 (.slice none 0 0):=aA.of (by kernel_rfl)
theorem a6.p:bm x5 a6 [(0,1),(1,1),(2,1),(3,1),(4,1),(5,1),(6,1),(7,1),(8,1)]:=bm.of (by kernel_rfl)
theorem cU.p:bm x5 cU [(0,1),(1,1),(2,1),(3,1)]:=bm.of (by kernel_rfl)
theorem bI.p:bm x5 bI [(0,1),(1,1)]:=bm.of (by kernel_rfl)
theorem bI.i:aA x5 bI 2 24 (.agg #[(.string ⟨#[]⟩),(.int .i64 0)]):=aA.of (by kernel_rfl)
theorem di.u:x5.underlying di=some (.slice bA):=by kernel_rfl
theorem di.i:aA x5 di 1 24 (.slice none 0 0):=aA.of (by kernel_rfl)
theorem aL.p:bm x5 aL [(0,1),(1,1),(2,1),(3,1)]:=bm.of (by kernel_rfl)
theorem aL.i:aA x5 aL 4 80 (.agg #[(.slice none 0 0),(.slice none 0 0),(.int .i64 0),(.slice none 0 0)]):=aA.of (by kernel_rfl)
theorem iT.u:x5.underlying iT=some (.slice fJ):=by kernel_rfl
theorem iT.i:aA x5 iT 1 24 (.slice none 0 0):=aA.of (by kernel_rfl)
theorem ey.p:bm x5 ey [(0,1),(1,1),(2,1),(3,1)]:=bm.of (by kernel_rfl)
theorem fJ.p:bm x5 fJ [(0,1),(1,1)]:=bm.of (by kernel_rfl)
theorem fJ.i:aA x5 fJ 2 32 (.agg #[(.slice none 0 0),(.pointer none)]):=aA.of (by kernel_rfl)
theorem l3.u:x5.underlying l3=some (.int .u64):=by kernel_rfl
theorem ci.p:bm x5 ci [(0,1),(1,1),(2,1)]:=bm.of (by kernel_rfl)
theorem dL.p:bm x5 dL [(0,1),(1,1)]:=bm.of (by kernel_rfl)
theorem dL.i:aA x5 dL 2 16 (.agg #[(.int .i64 0),(.int .u64 0)]):=aA.of (by kernel_rfl)
theorem gk.u:x5.underlying gk=some (.slice dL):=by kernel_rfl
theorem gk.i:aA x5 gk 1 24 (.slice none 0 0):=aA.of (by kernel_rfl)
theorem kX.u:x5.underlying kX=some (.slice jH):=by kernel_rfl
theorem kX.i:aA x5 kX 1 24 (.slice none 0 0):=aA.of (by kernel_rfl)
theorem pp.u:x5.underlying pp=some (.slice fd):=by kernel_rfl
theorem eM.p:bm x5 eM [(0,1),(1,1),(2,1),(3,1)]:=bm.of (by kernel_rfl)
theorem fd.p:bm x5 fd [(0,1),(1,1),(2,1)]:=bm.of (by kernel_rfl)
theorem fd.i:aA x5 fd 3 24 (.agg #[(.int .i64 0),(.int .i64 0),(.int .u64 0)]):=aA.of (by kernel_rfl)
theorem jH.i:aA x5 jH 3 24 (.agg #[(.int .i64 0),(.int .i64 0),(.int .u64 0)]):=aA.of (by kernel_rfl)
theorem fU.p:bm x5 fU [(0,1),(1,1),(2,1)]:=bm.of (by kernel_rfl)
theorem hL.p:bm x5 hL [(0,1),(1,1)]:=bm.of (by kernel_rfl)
theorem hL.i:aA x5 hL 2 48 (.agg #[(.slice none 0 0),(.slice none 0 0)]):=aA.of (by kernel_rfl)
theorem dj.p:bm x5 dj [(0,1),(1,1)]:=bm.of (by kernel_rfl)
theorem dj.i:aA x5 dj 2 32 (.agg #[(.slice none 0 0),(.int .i64 0)]):=aA.of (by kernel_rfl)
theorem bA.p:bm x5 bA [(0,1),(1,1)]:=bm.of (by kernel_rfl)
theorem bA.i:aA x5 bA 2 32 (.agg #[(.slice none 0 0),(.int .i64 0)]):=aA.of (by kernel_rfl)
theorem eZ.u:x5.underlying eZ=some (.slice cj):=by kernel_rfl
theorem cj.p:bm x5 cj [(0,1),(1,1)]:=bm.of (by kernel_rfl)
theorem cj.i:aA x5 cj 2 32 (.agg #[(.slice none 0 0),(.pointer none)]):=aA.of (by kernel_rfl)
theorem gI.u:x5.underlying gI=some (.map bV aj):=by kernel_rfl
theorem ez.p:bm x5 ez [(0,1),(1,1),(2,1),(3,1)]:=bm.of (by kernel_rfl)
theorem l4.u:x5.underlying l4=some (.slice e0):=by kernel_rfl
theorem e0.p:bm x5 e0 [(0,1),(1,1)]:=bm.of (by kernel_rfl)
theorem e0.i:aA x5 e0 2 32 (.agg #[(.slice none 0 0),(.int .i64 0)]):=aA.of (by kernel_rfl)
theorem l7.u:x5.underlying l7=some (.int .u32):=by kernel_rfl
theorem fs.u:x5.underlying fs=some (.map bY ab):=by kernel_rfl
theorem eN.u:x5.underlying eN=some (.int .i8):=by kernel_rfl
theorem eN.i:aA x5 eN 1 1 (.int .i8 0):=aA.of (by kernel_rfl)
theorem bV.u:x5.underlying bV=some (.array 6 eN):=by kernel_rfl
theorem bV.i:aA x5 bV 6 6 (.agg #[(.int .i8 0),(.int .i8 0),(.int .i8 0),(.int .i8 0),(.int .i8 0),(.int .i8 0)]):=aA.of (by kernel_rfl)
theorem iU.u:x5.underlying iU=some (.slice eN):=by kernel_rfl
theorem hn.u:x5.underlying hn=some (.slice bV):=by kernel_rfl
theorem hn.i:aA x5 hn 1 24 (.slice none 0 0):=aA.of (by kernel_rfl)
theorem pq.u:x5.underlying pq=some (.array 64 b4):=by kernel_rfl
theorem jI.u:x5.underlying jI=some (.map aj ab):=by kernel_rfl
theorem kj.u:x5.underlying kj=some (.array 24 b4):=by kernel_rfl
theorem kj.i:aA x5 kj 24 24 (.agg #[(.int .u8 0),(.int .u8 0),(.int .u8 0),(.int .u8 0),(.int .u8 0),(.int .u8 0),(.int .u8 0),(.int .u8 0),(.int .u8 0),(.int .u8 0),(.int .u8 0),(.int .u8 0),(.int .u8 0),(.int .u8 0),(.int .u8 0),(.int .u8 0),(.int .u8 0),(.int .u8 0),(.int .u8 0),(.int .u8 0),(.int .u8 0),(.int .u8 0),(.int .u8 0),(.int .u8 0)]):=aA.of (by kernel_rfl)
theorem pr.u:x5.underlying pr=some (.array 20 fq):=by kernel_rfl
end Go.Proofs.YthjegppepbbojaaGreatDoor
namespace Go.Vc
open Go Go.RowKit
def bk:y0→Int
 | .int _ i=>i
 |_=>0
theorem wrap_i64 {x:Int} (h1: -9223372036854775808≤x) (E:x<9223372036854775808):X5.wrap x=x:=by
 simp only[o4.wrap,o4.bits,o4.signed];simp;omega
theorem wrap_u8 {x:Int} (h1:0≤x) (E:x<256):o4.u8.wrap x=x:=by
 simp only[o4.wrap,o4.bits,o4.signed];simp;omega
theorem DY {x:Int} (h1: -128≤x) (E:x<128):o4.i8.wrap x=x:=by
 simp only[o4.wrap,o4.bits,o4.signed];simp;omega
theorem wrap_u64 {x:Int} (h1:0≤x) (E:x<18446744073709551616):W6.wrap x=x:=by
 simp only[o4.wrap,o4.bits,o4.signed];simp;omega
abbrev ints (k:o4) (l:List Int):List y0:=l.map (X0 k)
theorem nw (k:o4) (l:List Int):∀ u∈ints k l,u.oneCell'=true:=by
 intro u hu;obtain⟨x,_,rfl⟩:=o8.1 hu;rfl
theorem iX {i:Nat} {x:Int} (h:l[i]? =some x):(ints k l)[i]? =some (.int k x):=by simp[ints,h]
theorem rU {α:Type} {a b:List α} {i:Nat} {x y:α} (h:a.take i=b.take i) (E:a[i]? =some x) (J:b[i]? =some y) (O:x=y):a.take (i+1)=b.take (i+1):=by
 rw[u5,u5,h,E,J,O]
theorem cX {E:x1→Prop} {B:(x1→Prop)→Prop} (G:x1→Prop) (h1:∀ w,G w→E w) (O:∀ J:x1→Prop,(∀ w,G w→J w)→B J):bX E B:=O E h1
theorem aI {E:y0→x1→Prop} {B:(y0→x1→Prop)→Prop} (G:y0→x1→Prop) (h1:∀ v w,G v w→E v w)
  (O:∀ J:y0→x1→Prop,(∀ v w,G v w→J v w)→B J):bX E B:=O E h1
theorem fS {E:y0→y0→x1→Prop} {B:(y0→y0→x1→Prop)→Prop} (G:y0→y0→x1→Prop) (h1:∀ u v w,G u v w→E u v w)
  (O:∀ J:y0→y0→x1→Prop,(∀ u v w,G u v w→J u v w)→B J):bX E B:=O E h1
theorem ag.calls {P:Y3} {f:FuncId} {K:y0→x1→Prop} (h:ag P f args w K) (E:Enters P f):Calls P f args.toArray w fun e w'=>∃ v,e= .returned v∧cm w w'∧K v w':=by
 cases h with
 |code _ h=>exact h
 |ext v w' h1=>rw[E] at h1;cases h1
theorem DZ (J:Ext w w') (E:cm w w'):Below w.heap.size w w':=
 ⟨E.os,E.tape.1,E.output,J.size,fun k V=>by
  have O:w.heap[k]? =some w.heap[k]:=Array.getElem?_eq_getElem V;rw[O];cases U:eK w.heap[k] with
  |true=>exact J.aX k _ O U
  |false=>exact E.aX k _ O U⟩
theorem vR {x:Addr} (h:w.cell? x=some v):x=⟨x.block,x.off,none⟩:=by
 obtain⟨b,o,s⟩:=x;cases s with
 |none=>rfl
 |some s=>
  unfold x1.cell? at h;split at h <;> simp at h
theorem D0 {a:Option Addr} {len cap:Nat} {E:List Int}
  (h:(a=none∧len=0∧cap=0∧E=[])∨
   ∃ x,a=some x∧len≤cap∧cap≤maxLen∧E.length=cap∧(∀ i,i<E.length→w.cell? (x.add i)=some (.int k (E.getD i 0)))∧ ∀ n∈E,(Lit.int k n).wf=true):
  bM w 1 (.slice a len cap) len (ints k (E.take len))∧ ∀ n∈E.take len,k.min≤n∧n≤k.max:=by
 rcases h with⟨rfl,rfl,rfl,rfl⟩|⟨x,rfl,h1,V,W,O,X⟩
 ·exact⟨bM.nil _ _,by simp⟩
 ·refine⟨⟨by simp[W,h1],x.block,x.off,some x,cap,rfl,h1,V,fun aa=>?_,fun j v ac=>?_⟩,fun n Y=>?_⟩
  ·have:=O 0 (by omega);exact congrArg some (vR this)
  ·have Z:=(x3.1 ac).1;rw[r8,o6] at Z;have J:x=⟨x.block,x.off,none⟩:=vR (v:=.int k (E.getD 0 0)) (O 0 (by omega));have U:=O j (by omega);rw[J,W7] at U;rw[U,←ac,ints,x7,c7 (by omega),u4,x4 (by omega)];rfl
  ·have:=X n (List.mem_of_mem_take Y);simpa[Lit.wf] using this
def ay (k:o4) (w:x1) (v:y0) (l:List Int):Prop:=bM w 1 v l.length (ints k l)
def ak (k:o4) (e:u9) (w:x1) (g:Nat) (v:y0) (l:List Int):Prop:=bz w g e 1 v l.length (ints k l)
theorem ay.ext (h:ay k w v l) (J:Ext w w'):ay k w' v l:=bM.ext h J
theorem ak.ext {g:Nat} (h:ak k e w g v l) (J:Ext w w'):ak k e w' g v l:=bz.ext h J
theorem ak.U {g:Nat} (h:ak k e w g v l) (J:ad S w w') (E:g<w.heap.size→¬S g):ak k e w' g v l:=bz.U h J E
theorem ak.ls {g:Nat} (h:ak k e w g v l):ay k w v l:=bz.sl h
theorem ay.of (h:bM w 1 v n (ints k l)):ay k w v l:=by
 have:l.length=n:=by simpa using h.1
 unfold ay;rw[this];exact h
theorem ak.of {g:Nat} (h:bz w g e 1 v n (ints k l)):ak k e w g v l:=by
 have:l.length=n:=by simpa using h.1
 unfold ak;rw[this];exact h
theorem ay.le (h:ay k w v l):l.length≤9223372036854775807:=by
 have:=bM.le h;simpa[maxLen] using this
theorem ay.cells (h:ay k w v l):v.cells= #[v]∧v.oneCell'=true:=by
 obtain⟨_,_,_,_,_,rfl,_⟩:=h;exact⟨rfl,rfl⟩
theorem ak.nil (k:o4) (e:u9) (w:x1) (g:Nat):ak k e w g (.slice none 0 0) []:=bz.nil w g e 1
section
variable {P:Y3} {w:x1}
theorem aK {E:u9} (J:P.underlying t=some (.slice e)) (h:ay k w v l):
  O P (Y4 #[t] E #[v]) w K=K (.int .i64 l.length):=by
 obtain⟨_,_,_,_,_,rfl,_⟩:=h;exact fK J
theorem a1 {E:o4} {b:Nat} {i:Nat} {x:Int} (U:P.underlying t=some (.slice e)) (hi:aA P e 1 b z) (h1:iW P e=true)
  (h:ay k w v l) (J:l[i]? =some x):O P (j9 t v (.int E (i:Int))) w (fun p=>O P (x6 e p) w K)=K (.int k x):=by
 have V:=(x3.1 J).1;obtain⟨_,_,_,_,_,rfl,_,_,W,X⟩:=h;rw[gl U hi V W,V2,av h1 (X i _ (iX J))]
theorem fv {E:o4} {b:Nat} {i:Nat} {x:Int} (U:y=(i:Int)) (V:P.underlying t=some (.slice e)) (hi:aA P e 1 b z) (h1:iW P e=true)
  (h:ay k w v l) (J:l[i]? =some x):O P (j9 t v (.int E y)) w (fun p=>O P (x6 e p) w K)=K (.int k x):=by
 subst U;exact a1 V hi h1 h J
theorem hr {V:u9} {b g:Nat} {x:y0} {m:List Int} {K:y0→x1→Prop} (U:P.underlying t=some (.slice e)) (hi:aA P e 1 b z) (W:z.cells.size=1)
  (h:ak k e w g v l) (J:ay k w x m) (X:(l.length+m.length)*b≤140737488355328) (Y:l.length+m.length≤9223372036854775807)
  (Z:∀ O E w',(E=g∨w.heap.size≤E)→ak k e w' E O (l++m)→ad (fun r=>r=g) w w'→K O w'):aw P (l9 #[t,t] V #[v,x]) w K:=
 k4 U U hi W h J (nw _ _) X (by simpa[maxLen] using Y) fun O E w' h1 aa ab=>Z O E w' h1 (ak.of (by rw[ints,j4];exact aa)) ab
theorem dM {b:Nat} {x:Int} {K:y0→x1→Prop} (O:P.underlying t=some (.slice e)) (hi:aA P e 1 b z) (X:z.cells.size=1)
  (h:∀ v g w',g=w.heap.size→Ext w w'→ak k e w' g v [x]→K v w'):aw P (b6 t 1 #[(0,.int k x)]) w K:=
 hN O hi (by omega) (cs:=#[.int k x]) (by
   have U:∀ (a:Array y0),a.size=1→a.setIfInBounds 0 (.int k x)= #[.int k x]:=fun a E=>by
    apply Array.ext
    ·simp[E]
    ·intro i h1 Y;have:i=0:=by simp[E] at h1;exact h1
     subst this;simp
   simp only[Instr.fill,y0.cells,List.zipIdx];simp;exact U _ (by simp)) fun g w' V J W=>h _ g w' V J (ak.of (n:=1) (bz.full W rfl (by simp[maxLen])))
theorem ag.free {f:FuncId} {K:y0→x1→Prop} (h:ag P f args w K):fp P f args w fun v w'=>cm w w'∧K v w':=by
 cases h with
 |code h1 E=>exact .code h1 (E.mono fun _ w' ⟨v,h1,J,E⟩=>⟨v,h1,J,E⟩)
 |ext v w' h1 E O=>exact .ext v w' h1 ⟨E,O⟩
theorem bB {a:Addr}:O P (bl (.pointer (some a))) w K=K (.pointer (some a)):=O.of fun _ _=>by
 simp[bl,oI,execOp]
theorem aP {u:u9} {E:List (Nat×Nat)} {b off z:Nat} {K:y0→y0→Prop} (J:bm P t E) (i:Nat) (U:aa w b e cs) (ac:cs[(E[i]?.getD (0,0)).1]? =some v) (ae:E[i]? =some (off,z+1):=by rfl) (V:iW P u=true:=by kernel_rfl):
  O P (x8 t (.pointer (some ⟨b,0,none⟩)) i) w (fun x=>O P (x6 u x) w (K x))=K (.pointer (some ⟨b,0+off,none⟩)) v:=by
 rw[ae] at ac;rw[aF J ae,av V (U.cell (by rw[V0];exact ac))]
theorem aD {u:u9} {E:List (Nat×Nat)} {b off z:Nat} {K:y0→y0→y0→Prop} (J:bm P t E) (i:Nat) (U:aa w b e cs) (ac:cs[(E[i]?.getD (0,0)).1]? =some v) (ae:E[i]? =some (off,z+1):=by rfl) (V:iW P u=true:=by kernel_rfl):
  O P (bl (.pointer (some ⟨b,0,none⟩))) w (fun y=>O P (x8 t y i) w (fun x=>O P (x6 u x) w (K y x)))=K (.pointer (some ⟨b,0,none⟩)) (.pointer (some ⟨b,0+off,none⟩)) v:=by
 rw[bB,aP J i U ac ae V]
theorem vS {E J:o4} {k O:Nat} {K:y0→x1→Prop} (V:P.underlying t=some (.slice e)) (hi:aA P e k O z) (ab:n*O≤281474976710656) (ac:n≤9223372036854775807)
  (h:∀ g w',g=w.heap.size→Ext w w'→aa w' g e (db z.cells (n*k))→K (.slice (some ⟨g,0,none⟩) n n) w'):aw P (Instr.makeSlice t (.int E (n:Int)) (.int J (n:Int))) w K:=by
 obtain⟨i,hi,rfl,rfl,W⟩:=hi;have X:(i.bytes:Int)*(n:Int)≤281474976710656:=by
  rw[Int.mul_comm];have h:((n*i.bytes:Nat):Int)≤281474976710656:=by omega
  rwa [Int.natCast_mul] at h
 have U:=run_make (P:=P) w t e i z V hi W E J n n (by omega) (Int.le_refl _) X (by omega);have hm:madeCells z.cells ((n:Int).toNat*i.size)=(db z.cells (n*i.size)).toArray:=by rw[db,Array.toArray_toList];rfl
 rw[hm] at U;obtain⟨h1,Y,Z⟩:=py w (db z.cells (n*i.size)) e;exact .of U Z (h _ _ rfl Y h1)
theorem D1 (v:y0) (n:Nat):db #[v] n=u6 n v:=by
 apply List.ext_getElem
 ·simp[db]
 ·intro i h1 E;simp[db,Nat.mod_one]
theorem ih {O U:o4} {K:y0→x1→Prop} (V:P.underlying t=some (.slice e)) (hi:aA P e 1 E (.int k 0)) (W:n*E≤281474976710656) (X:n≤9223372036854775807)
  (h:∀ g w',g=w.heap.size→Ext w w'→aa w' g e (ints k (u6 n 0))→K (.slice (some ⟨g,0,none⟩) n n) w'):aw P (Instr.makeSlice t (.int O (n:Int)) (.int U (n:Int))) w K:=
 vS V hi W X fun g w' Y J Z=>h g w' Y J (by
  have e:db (X0 k 0).cells (n*1)=ints k (u6 n 0):=by rw[V2];show db #[_] n=_;rw[D1];simp[ints]
  rw[←e];exact Z)
theorem eO {E:List (Nat×Nat)} {b k U:Nat} (hu:bm P t E) (hi:aA P t k U z) (V:cs.length=k)
  (h:w.rangeAt b o cs):O P (do loadVar t (←asAddr (.pointer (some ⟨b,o,none⟩)))) w K=K (.agg cs.toArray):=O.of fun w' J=>by
 obtain⟨W,hu,_⟩:=hu;have:=run_loadVar_mid (P:=P) w' b o t cs (.struct W) (l8 J h) hu rfl (by rw[hi.size,V]);simp only[asAddr,Z8,Y5,Result.andThen_ok,this]
theorem vT (h:vs.length=cs.length):over cs 0 vs=vs:=by
 rw[km (by omega)];simp[h]
theorem bP {k J g:Nat} {K:Unit→x1→Prop} (hi:aA P t k J z) (O:vs.length=k) (W:cs.length=k) (ac:∀ v∈vs,v.oneCell'=true) (U:aa w g e cs)
  (h:∀ w',ad (fun r=>r=g) w w'→w'.heap.size=w.heap.size→aa w' g e vs→K () w'):aw P (n0 t (.pointer (some ⟨g,0,none⟩)) (.agg vs.toArray)) w K:=
 rT hi O ac U (by omega) fun w' h1 V E=>h w' h1 V (by rw[vT (by omega)] at E;exact E)
end
section
variable {P:Y3} {w w' V:x1} {t:u9} {cx cy:Bool} {k:o4} {a b:Int} {A B:Prop} {x y z:y0} {K:y0→Prop}
theorem a8:O P (c9 (.tuple #[x,y]) 0) w K=K x:=gJ rfl
theorem ba:O P (c9 (.tuple #[x,y]) 1) w K=K y:=gJ rfl
theorem e1:O P (c9 (.tuple #[x,y,z]) 0) w K=K x:=gJ rfl
theorem e2:O P (c9 (.tuple #[x,y,z]) 1) w K=K y:=gJ rfl
theorem e3:O P (c9 (.tuple #[x,y,z]) 2) w K=K z:=gJ rfl
theorem bC (h:a<b) (E:A):O P (ax .lss t cx cy (.int k a) (.int k b)) w fun v=>Split v A B:=by
 rw[aC,af];exact⟨fun _=>E,fun J=>absurd h J⟩
theorem cH (h:¬a<b) (E:B):O P (ax .lss t cx cy (.int k a) (.int k b)) w fun v=>Split v A B:=by
 rw[aC,af];exact⟨fun J=>absurd J h,fun _=>E⟩
theorem Ext.put {g:Nat} (J:Ext w w') (E:ad (fun r=>r=g) w' V) (h:w.heap.size≤g):Ext w V:=J.then E fun r O he=>by
 have he:r=g:=he;omega
theorem aE {α:Type} {l:List α} {i:Nat} (h:i<l.length):∃ x,l[i]? =some x:=⟨_,x4 h⟩
end
abbrev am:=Nat→Prop
def ii (S:am) (w:x1) (k:Nat) (v:y0) (n:Nat) (cs:List y0):Prop:=
 cs.length=n*k∧ ∃ b o base cap,v= .slice base n cap∧n≤cap∧cap≤maxLen∧(0<n→base=some ⟨b,o,none⟩)∧(0<cs.length→S b)∧w.rangeAt b o cs
theorem ii.sl {S:am} {k:Nat} (h:ii S w k v n cs):bM w k v n cs:=by
 obtain⟨h1,b,o,base,cap,E,J,O,U,_,V⟩:=h;exact⟨h1,b,o,base,cap,E,J,O,U,V⟩
theorem vU {b:Nat} (h:w.rangeAt b o cs) (E:0<cs.length):b<w.heap.size:=by
 have:=h 0 cs[0] (x4 E);obtain⟨c,e,f,J,_⟩:=rQ this;exact (o7.1 J).1
theorem ii.U {S T:am} {k:Nat} (h:ii S w k v n cs) (J:ad T w w') (W:∀ r,r<w.heap.size→S r→¬T r):ii S w' k v n cs:=by
 obtain⟨h1,b,o,base,cap,X,Y,Z,aa,O,V⟩:=h;refine⟨h1,b,o,base,cap,X,Y,Z,aa,O,?_⟩;rcases Nat.eq_zero_or_pos cs.length with E|E
 ·intro j v ac;have:=(x3.1 ac).1;omega
 ·exact pt J (W b (vU V E) (O E)) V
theorem ii.mono {S T:am} {k:Nat} (h:ii S w k v n cs) (O:∀ r,r<w.heap.size→S r→T r):ii T w k v n cs:=by
 obtain⟨h1,b,o,base,cap,U,V,W,X,Y,E⟩:=h;exact⟨h1,b,o,base,cap,U,V,W,X,fun J=>O b (vU E J) (Y J),E⟩
class au (α:Type) where
 n:Nat
 rep:Bool→am→am→x1→List y0→α→Prop
 len:∀ {m S R w cs a},rep m S R w cs a→cs.length=n
 one:∀ {m S R w cs a},rep m S R w cs a→ ∀ u∈cs,u.oneCell'=true
 U:∀ {m S R T w w' cs a},rep m S R w cs a→ad T w w'→(∀ r,r<w.heap.size→S r∨R r→¬T r)→rep m S R w' cs a
 mono:∀ {m S S' R R' w cs a},rep m S R w cs a→(∀ r,r<w.heap.size→S r→S' r)→(∀ r,r<w.heap.size→R r→R' r)→rep m S' R' w cs a
 gi:∀ {m S R w cs a},rep m S R w cs a→rep false (fun _=>False) (fun r=>S r∨R r) w cs a
section
variable {α β:Type} [au α] [au β] {m:Bool} {S R T:am} {w w':x1}
abbrev dp (S R:am) (w:x1) (cs:List y0) (a:α):Prop:=au.rep true S R w cs a
abbrev Seen (R:am) (w:x1) (cs:List y0) (a:α):Prop:=au.rep false (fun _=>False) R w cs a
abbrev vV:am:=fun _=>True
theorem dc {a:α} (h:au.rep m S R w cs a) (J:Ext w w'):au.rep m S R w' cs a:=au.U h (J.U fun _=>False) fun _ _ _ h=>h
theorem ko {a:α} (h:au.rep m S R w cs a):au.rep m (fun r=>S r∧r<w.heap.size) R w cs a:=au.mono h (fun _ h1 E=>⟨E,h1⟩) fun _ _ h=>h
theorem D2 {a:α} (h:au.rep m S R w cs a):Seen vV w cs a:=au.mono (au.gi h) (fun _ _ h=>h.elim) fun _ _ _=>trivial
theorem pz {a:α} {Q:am} (h:au.rep m S R w cs a) (E:∀ r,r<w.heap.size→S r∨R r→Q r):Seen Q w cs a:=au.mono (au.gi h) (fun _ _ h=>h.elim) E
instance:au Int where
 n:=1
 rep _ _ _ _ cs a:=cs=[.int .i64 a]
 len h:=by subst h;rfl
 one h:=by subst h;intro u hu;simp at hu;subst hu;rfl
 U h _ _:=h
 mono h _ _:=h
 gi h:=h
instance:au Bool where
 n:=1
 rep _ _ _ _ cs a:=cs=[.bool a]
 len h:=by subst h;rfl
 one h:=by subst h;intro u hu;simp at hu;subst hu;rfl
 U h _ _:=h
 mono h _ _:=h
 gi h:=h
instance:au ByteArray where
 n:=1
 rep _ _ _ _ cs a:=cs=[.string a]
 len h:=by subst h;rfl
 one h:=by subst h;intro u hu;simp at hu;subst hu;rfl
 U h _ _:=h
 mono h _ _:=h
 gi h:=h
def Rd (α:Type):Type:=α
instance Lh:au (Rd α) where
 n:=au.n α
 rep _ _ R w cs a:=au.rep (α:=α) false (fun _=>False) R w cs a
 len h:=au.len (α:=α) h
 one h:=au.one (α:=α) h
 U h J E:=au.U (α:=α) h J fun r O h=>E r O (.inr (h.elim False.elim id))
 mono h _ V:=au.mono (α:=α) h (fun _ _ h=>h) V
 gi h:=au.mono (α:=α) h (fun _ _ h=>h) fun _ _ h=>.inr h
instance Li:au (α×β) where
 n:=au.n α+au.n β
 rep m S R w cs a:=∃ c d A B,cs=c++d∧(∀ r,A r→S r)∧(∀ r,B r→S r)∧(m=true→ ∀ r,A r→¬B r)∧au.rep m A R w c a.1∧au.rep m B R w d a.2
 len:=by
  rintro m S R w cs a ⟨c,d,A,B,rfl,_,_,_,h1,E⟩;simp[au.len h1,au.len E]
 one:=by
  rintro m S R w cs a ⟨c,d,A,B,rfl,_,_,_,h1,E⟩ u hu;rcases p8.1 hu with hu|hu
  ·exact au.one h1 u hu
  ·exact au.one E u hu
 U:=by
  rintro m S R T w w' cs a ⟨c,d,A,B,rfl,V,W,Y,h1,E⟩ J X;exact⟨c,d,A,B,rfl,V,W,Y,au.U h1 J fun r O h=>X r O (h.imp (V r) id),au.U E J fun r O h=>X r O (h.imp (W r) id)⟩
 mono:=by
  rintro m S S' R R' w cs a ⟨c,d,A,B,rfl,V,W,Y,h1,E⟩ X Z;exact⟨c,d,fun r=>A r∧r<w.heap.size,fun r=>B r∧r<w.heap.size,rfl,fun r h=>X r h.2 (V r h.1),fun r h=>X r h.2 (W r h.1),fun hm r h k=>Y hm r h.1 k.1,
   au.mono h1 (fun r O h=>⟨h,O⟩) Z,au.mono E (fun r O h=>⟨h,O⟩) Z⟩
 gi:=by
  rintro m S R w cs a ⟨c,d,A,B,rfl,V,W,Y,h1,E⟩;exact⟨c,d,fun _=>False,fun _=>False,rfl,fun _ h=>h.elim,fun _ h=>h.elim,(fun h=>by cases h),au.mono (au.gi h1) (fun _ _ h=>h) fun r _ h=>h.imp (V r) id,
   au.mono (au.gi E) (fun _ _ h=>h) fun r _ h=>h.imp (W r) id⟩
def kp (m:Bool) (R:am) (F:Nat→am) (w:x1) (vs:List (List y0)) (l:List α):Prop:=
 vs.length=l.length∧ ∀ (i:Nat) (c:List y0) (a:α),vs[i]? =some c→l[i]? =some a→au.rep m (F i) R w c a
structure vW (m:Bool) (S:am) (g:Nat) (F:Nat→am):Prop where
 sub:∀ i r,F i r→S r
 top:m=true→ ∀ i,¬F i g
 vX:m=true→ ∀ i j r,i≠j→F i r→¬F j r
theorem kp.len {F:Nat→am} {vs:List (List y0)} {l:List α} (h:kp m R F w vs l):∀ c∈vs,c.length=au.n α:=by
 intro c E;obtain⟨i,hi,rfl⟩:=List.mem_iff_getElem.1 E;exact au.len (h.2 i _ _ (x4 hi) (x4 (h.1▸hi)))
theorem kp.one {F:Nat→am} {vs:List (List y0)} {l:List α} (h:kp m R F w vs l):∀ u∈vs.flatten,u.oneCell'=true:=by
 intro u hu;obtain⟨c,E,hu⟩:=List.mem_flatten.1 hu;obtain⟨i,hi,rfl⟩:=List.mem_iff_getElem.1 E;exact au.one (h.2 i _ _ (x4 hi) (x4 (h.1▸hi))) u hu
theorem k5 {k:Nat}:∀ {vs:List (List y0)},(∀ c∈vs,c.length=k)→ ∀ {i j:Nat} {c:List y0},vs[i]? =some c→j<k→vs.flatten[i*k+j]? =c[j]?
 |O::r,h,0,j,c,E,U=>by
  simp only[List.getElem?_cons_zero,b8] at E;subst E;rw[List.flatten_cons,Z4 (by rw[h _ (.head _)];omega)];simp
 |O::r,h,i+1,j,c,E,U=>by
  simp only[List.getElem?_cons_succ] at E;have V:=h O (.head _);rw[List.flatten_cons,Z7 (by rw[V,W8];omega),V,W8,show i*k+1*k+j-k=i*k+j by omega];exact k5 (fun x J=>h x (.tail _ J)) E U
 |[],_,i,_,c,E,_=>by simp at E
instance instList:au (List α) where
 n:=1
 rep m S R w cs l:=∃ v,cs=[v]∧ ∃ (vs:List (List y0)) (g:Nat) (F:Nat→am),vW m S g F∧kp m R F w vs l∧ii (fun r=>S r∨R r) w (au.n α) v l.length vs.flatten∧
  (m=true→(v= .slice none 0 0∨S g)∧ ∃ e,bz w g e (au.n α) v l.length vs.flatten)
 len:=by rintro m S R w cs a ⟨v,rfl,_⟩;rfl
 one:=by
  rintro m S R w cs a ⟨v,rfl,vs,g,F,_,_,⟨_,_,_,_,_,rfl,_⟩,_⟩ u hu;simp at hu;subst hu;rfl
 U:=by
  rintro m S R T w w' cs a ⟨v,rfl,vs,g,F,O,he,Y,hm⟩ J W;refine⟨v,rfl,vs,g,F,O,⟨he.1,fun i c a Z aa=>au.U (he.2 i c a Z aa) J fun r V h=>W r V (h.imp (O.sub i r) id)⟩,Y.U J W,fun h=>?_⟩;obtain⟨h1,e,E⟩:=hm h;refine⟨h1,e,?_⟩;rcases h1 with rfl|h1
  ·obtain⟨ac,⟨_,X⟩|⟨_,_,X,_⟩⟩:=E
   ·exact⟨ac,.inl ⟨rfl,X⟩⟩
   ·cases X
  ·exact E.U J fun V=>W g V (.inl h1)
 mono:=by
  rintro m S S' R R' w cs a ⟨v,rfl,vs,g,F,O,he,Y,hm⟩ W ab;refine⟨v,rfl,vs,g,fun i r=>F i r∧r<w.heap.size,⟨fun i r h=>W r h.2 (O.sub i r h.1),fun h i E=>O.top h i E.1,fun h i j r ad h1 E=>O.vX h i j r ad h1.1 E.1⟩,
   ⟨he.1,fun i c a Z aa=>au.mono (he.2 i c a Z aa) (fun r V h=>⟨h,V⟩) ab⟩,Y.mono fun r V h=>h.imp (W r V) (ab r V),fun h=>?_⟩
  obtain⟨h1,e,E⟩:=hm h;refine⟨?_,e,E⟩;obtain⟨_,⟨X,_⟩|⟨_,_,X,ae,_⟩⟩:=E
  ·exact .inl X
  ·rcases h1 with h1|h1
   ·exact .inl h1
   ·exact .inr (W g ae.lt h1)
 gi:=by
  rintro m S R w cs a ⟨v,rfl,vs,g,F,O,he,Y,hm⟩;exact⟨v,rfl,vs,g,fun _ _=>False,⟨fun _ _ h=>h,(fun h=>by cases h),fun h=>by cases h⟩,
   ⟨he.1,fun i c a Z aa=>au.mono (au.gi (he.2 i c a Z aa)) (fun _ _ h=>h) fun r _ h=>h.imp (O.sub i r) id⟩,Y.mono fun r _ h=>.inr h,fun h=>by cases h⟩
end
section
variable {P:Y3} {w:x1} {α β:Type} [au α] [au β] {m:Bool} {S R:am}
theorem kq {l:List α} (h:au.rep m S R w [v] l):∃ (vs:List (List y0)) (g:Nat) (F:Nat→am),vW m S g F∧kp m R F w vs l∧ii (fun r=>S r∨R r) w (au.n α) v l.length vs.flatten∧
  (m=true→(v= .slice none 0 0∨S g)∧ ∃ e,bz w g e (au.n α) v l.length vs.flatten):=by
 obtain⟨_,E,h⟩:=h;cases E;exact h
theorem rV {a:α} (h:au.rep m S R w [v] a):v.oneCell'=true:=au.one h v (.head _)
theorem pA {l:List α} (h:au.rep m S R w [v] l):v.cells= #[v]:=by
 obtain⟨_,_,_,_,_,⟨_,_,_,_,_,rfl,_⟩,_⟩:=kq h;rfl
theorem rW {l:List α} (h:au.rep m S R w [v] l):l.length≤9223372036854775807:=by
 obtain⟨_,_,_,_,_,h,_⟩:=kq h;have:=h.sl.le;simpa[maxLen] using this
theorem iY:au.rep m S R w [.slice none 0 0] ([]:List α):=
 ⟨_,rfl,[],0,fun _ _=>False,⟨fun _ _ h=>h.elim,fun _ _ h=>h,fun _ _ _ _ _ h=>h.elim⟩,⟨rfl,fun i c a E=>by simp at E⟩,
  ⟨by simp,0,0,none,0,rfl,r9 _,Z5 _,fun h=>absurd h (Nat.lt_irrefl _),fun h=>by simp at h,fun j v h=>by simp at h⟩,
  fun _=>⟨.inl rfl,0,bz.nil w 0 0 _⟩⟩
theorem D3 {F:Nat→am} {vs:List (List y0)} (h:kp m R F w vs l):vs.flatten=ints .i64 l:=by
 have:vs=l.map fun x=>[X0 .i64 x]:=by
  apply List.ext_getElem
  ·simp[h.1]
  ·intro i h1 E;have J:i<l.length:=by simpa using E
   have:=h.2 i _ _ (x4 h1) (x4 J);rw[List.getElem_map];exact this
 subst this;clear h;induction l with
 |nil=>rfl
 |cons x l O=>simp only[List.map_cons,List.flatten_cons,O];rfl
theorem kr (h:au.rep m S R w [v] l):ay .i64 w v l:=by
 obtain⟨vs,g,F,_,he,E,_⟩:=kq h;have:=E.sl;rw[D3 he] at this;exact this
theorem iZ {E:u9} {l:List α} (J:P.underlying t=some (.slice e)) (h:au.rep m S R w [v] l):
  O P (Y4 #[t] E #[v]) w K=K (.int .i64 l.length):=by
 obtain⟨_,_,_,_,_,⟨_,_,_,_,_,rfl,_⟩,_⟩:=kq h;exact fK J
theorem pB {W:o4} {i b:Nat} {l:List α} {a:α} (X:y=(i:Int)) (Y:P.underlying t=some (.slice e)) (hi:aA P e (au.n α) b z)
  (h:au.rep m S R w [v] l) (E:l[i]? =some a) (Z:∀ b o cs,w.rangeAt b o cs→au.rep m S R w cs a→K (.pointer (some ⟨b,o,none⟩))):O P (j9 t v (.int W y)) w K:=by
 subst X;obtain⟨vs,g,F,aa,he,⟨_,b,o,base,cap,rfl,_,_,ab,_,ac⟩,_⟩:=kq h;have J:=(x3.1 E).1;rw[gl Y hi J ab];obtain⟨c,U⟩:∃ c,vs[i]? =some c:=⟨_,x4 (by rw[he.1];exact J)⟩;have V:=he.2 i c a U E;have ad:=au.len V;refine Z _ _ c (fun j u hu=>?_) (au.mono V (fun r _ h=>aa.sub i r h) fun _ _ h=>h);have ae:=(x3.1 hu).1;rw[Nat.add_assoc];refine ac (i*au.n α+j) u ?_;rw[k5 he.len U (by omega)];exact hu
theorem vY {U:o4} {i b:Nat} {l:List α} {a:α} (V:au.n α=1) (W:y=(i:Int)) (X:P.underlying t=some (.slice e)) (hi:aA P e (au.n α) b z)
  (h1:iW P e=true) (h:au.rep m S R w [v] l) (Y:l[i]? =some a) (Z:∀ u,au.rep m S R w [u] a→K u):
  O P (j9 t v (.int U y)) w fun p=>O P (x6 e p) w K:=by
 refine pB W X hi h Y fun b o cs aa E=>?_;have J:=au.len E;rw[V] at J;obtain⟨u,rfl⟩:=V7.1 J;rw[av h1 (by have:=aa 0 u rfl;simpa using this)];exact Z u E
theorem md {J:List (Nat×Nat)} {U:o4} {i b:Nat} {l:List α} {a:α} (hu:bm P e J) (V:y=(i:Int)) (W:P.underlying t=some (.slice e)) (hi:aA P e (au.n α) b z)
  (h:au.rep m S R w [v] l) (X:l[i]? =some a) (Y:∀ cs,au.rep m S R w cs a→K (.agg cs.toArray)):
  O P (j9 t v (.int U y)) w fun p=>O P (x6 e p) w K:=by
 refine pB V W hi h X fun b o cs Z E=>?_;rw[bn hu hi (au.len E) Z];exact Y cs E
theorem rX {g:Nat} {k:Nat} (h:bz w g e k v n xs) (E:v= .slice none 0 0∨S g):ii S w k v n xs:=by
 obtain⟨h1,⟨rfl,rfl⟩|⟨cap,cs,rfl,J,O,U,W,V⟩⟩:=h
 ·have:xs=[]:=o9 (by simpa using h1);subst this;exact⟨by simp,0,0,none,0,rfl,r9 _,Z5 _,fun h=>absurd h (Nat.lt_irrefl _),fun h=>by simp at h,fun j v h=>by simp at h⟩
 ·refine⟨h1,g,0,_,cap,rfl,O,U,fun _=>rfl,fun _=>E.resolve_left (by simp),fun j v ac=>?_⟩;rw[V0];have X:=(x3.1 ac).1;rw[←V,c7 (by omega)] at ac;exact J.cell ac
open Classical in
theorem D4 {al ap aq:u9} {b:Nat} {x:y0} {us:List (List y0)} {l l':List α} {G:Nat→am} {K:y0→x1→Prop} (av:P.underlying t=some (.slice e)) (ax:P.underlying al=some (.slice ap)) (hi:aA P e (au.n α) b z) (ay:z.cells.size=au.n α)
  (h:dp S R w [v] l) (J:bM w (au.n α) x l'.length us.flatten) (af:kp true R G w us l') (az:∀ i j r,i≠j→G i r→¬G j r)
  (aa:∀ r,r<w.heap.size→S r→(∀ i,¬G i r)∧¬R r) (aB:(l.length+l'.length)*b≤140737488355328) (aC:l.length+l'.length≤9223372036854775807)
  (aD:∀ O w',dp (fun r=>S r∨(∃ i,G i r)∨w.heap.size≤r) R w' [O] (l++l')→ad S w w'→K O w'):aw P (l9 #[t,al] aq #[v,x]) w K:=by
 obtain⟨vs,g,F,X,he,aI,hm⟩:=kq h;obtain⟨ag,aJ,an⟩:=hm rfl;refine vP av ax hi ay an J af.one aB (by simpa[maxLen] using aC) ?_;intro O ab w' aE aF ah ai;have aj:∀ r,r=g∧v≠ .slice none 0 0→S r:=fun r ⟨h1,E⟩=>h1▸ag.resolve_left E;have aG:=an;have ak:(O= .slice none 0 0)∨(ab=g∧S g∧g<w.heap.size)∨ab=w.heap.size:=by
  rcases aF with⟨h1,_,E|E⟩|⟨h1,_⟩
  ·rcases ag with V|V
   ·exact .inl (E▸V)
   ·obtain⟨_,⟨W,_⟩|⟨_,_,_,W,_⟩⟩:=aG
    ·exact .inl (E▸W)
    ·exact .inr (.inl ⟨h1,V,W.lt⟩)
  ·exact .inr (.inl ⟨h1,ag.resolve_left E.2,E.1⟩)
  ·exact .inr (.inr h1)
 refine aD O w' ⟨O,rfl,vs++us,if O= .slice none 0 0 then w.heap.size else ab,fun i r=>if i<l.length then F i r∧r<w.heap.size else G (i-l.length) r∧r<w.heap.size,⟨fun i r h=>?_,fun _ i h=>?_,fun _ i j r aH h1 E=>?_⟩,⟨by simp[he.1,af.1],fun i c a hi ae=>?_⟩,?_,fun _=>⟨?_,aE,?_⟩⟩ (ai.mono fun r _ h=>aj r h)
 ·split at h
  ·exact .inl (X.sub i r h.1)
  ·exact .inr (.inl ⟨_,h.1⟩)
 ·have Y:(if O= .slice none 0 0 then w.heap.size else ab)<w.heap.size:=by split at h <;> exact h.2
  split at Y
  ·omega
  ·rename_i ac;rw[if_neg ac] at h;rcases ak with h1|⟨rfl,E,V⟩|h1
   ·exact ac h1
   ·split at h
    ·exact X.top rfl i h.1
    ·exact (aa _ V E).1 _ h.1
   ·omega
 ·split at h1 <;> split at E
  ·exact X.vX rfl i j r aH h1.1 E.1
  ·exact (aa r h1.2 (X.sub i r h1.1)).1 _ E.1
  ·exact (aa r h1.2 (X.sub j r E.1)).1 _ h1.1
  ·exact az (i-l.length) (j-l.length) r (by omega) h1.1 E.1
 ·have ao:∀ r,r<w.heap.size→R r→¬(r=g∧v≠ .slice none 0 0):=fun r Z h1 E=>(aa r Z (aj r E)).2 h1;by_cases Y:i<l.length
  ·rw[Z4 (by rw[he.1];exact Y)] at hi;rw[Z4 Y] at ae;simp only[if_pos Y];refine au.U (ko (he.2 i c a hi ae)) ai fun r Z h1 E=>?_;rcases h1 with h1|h1
   ·exact X.top rfl i (E.1▸h1.1)
   ·exact ao r Z h1 E
  ·rw[Z7 (by rw[he.1];omega),he.1] at hi;rw[Z7 (by omega)] at ae;simp only[if_neg Y];refine au.U (ko (af.2 _ c a hi ae)) ai fun r Z h1 E=>?_;rcases h1 with h1|h1
   ·exact (aa r Z (aj r E)).1 _ h1.1
   ·exact ao r Z h1 E
 ·rw[u7,List.flatten_append];refine rX ah ?_;rcases ak with h1|⟨rfl,E,_⟩|rfl
  ·exact .inl h1
  ·exact .inr (.inl (.inl E))
  ·exact .inr (.inl (.inr (.inr (r9 _))))
 ·rcases ak with h1|⟨rfl,E,_⟩|rfl
  ·exact .inl h1
  ·by_cases ac:O= .slice none 0 0
   ·exact .inl ac
   ·rw[if_neg ac];exact .inr (.inl E)
  ·split
   ·exact .inr (.inr (.inr (r9 _)))
   ·exact .inr (.inr (.inr (r9 _)))
 ·rw[u7,List.flatten_append];by_cases ac:O= .slice none 0 0
  ·subst ac;obtain⟨V,⟨_,W⟩|⟨_,_,W,_⟩⟩:=ah
   ·exact⟨V,.inl ⟨rfl,W⟩⟩
   ·cases W
  ·rw[if_neg ac];exact ah
theorem me {ab:u9} {b:Nat} {x:y0} {l:List α} {a:α} {A:am} {K:y0→x1→Prop} (X:P.underlying t=some (.slice e)) (hi:aA P e (au.n α) b z) (ac:z.cells.size=au.n α)
  (h:dp S R w [v] l) (J:bM w (au.n α) x 1 cs) (ae:dp A R w cs a) (Y:∀ r,r<w.heap.size→S r→¬(A r∨R r)) (E:(l.length+1)*b≤140737488355328) (af:l.length+1≤9223372036854775807)
  (ag:∀ O w',dp (fun r=>S r∨A r∨w.heap.size≤r) R w' [O] (l++[a])→ad S w w'→K O w'):aw P (l9 #[t,t] ab #[v,x]) w K:=by
 refine D4 (l':=[a]) (us:=[cs]) (G:=fun i r=>i=0∧A r) X X hi ac h (by simpa using J) ⟨rfl,fun i c b U E=>?_⟩ (fun i j r ah h1 V=>ah (h1.1.trans V.1.symm)) (fun r Z aa=>⟨fun i h=>Y r Z aa (.inl h.2),fun h=>Y r Z aa (.inr h)⟩) (by simpa using E) (by simpa using af)
  fun O w' h1 V=>ag O w' (au.mono h1 (fun r _ h=>h.imp id (Or.imp (fun⟨_,h⟩=>h.2) id)) fun _ _ h=>h) V
 have W:=(x3.1 U).1;have W:i=0:=by simpa using W
 subst W;simp at U E;subst U E;exact au.mono ae (fun r _ h=>⟨rfl,h⟩) fun _ _ h=>h
end
theorem vZ:∀ (c:List y0) (i:Nat) (z:Array y0),(i+c.length≤z.size)→((c.zipIdx i).foldl (fun cs (x:y0×Nat)=>cs.setIfInBounds x.2 x.1) z).toList=z.toList.take i++c++z.toList.drop (i+c.length)
 |[],i,z,h=>by simp
 |x::r,i,z,h=>by
  simp only[n9] at h;rw[List.zipIdx_cons,List.foldl_cons,vZ r (i+1) _ (by simp;omega)];simp only[Array.toList_setIfInBounds,n9];rw[List.drop_set_of_lt (by omega),List.take_set,u5,x4 (by simp;omega)];simp only[j5];rw[List.set_append_right _ _ (by simp;omega)];have e:i-(z.toList.take i).length=0:=by simp;omega
  rw[e,show i+1+r.length=i+(r.length+1) by omega];simp
theorem v7 {k:Nat} {z:Array y0} (E:z.size=k) (ac:v.cells.size=k):Instr.fill (fun j=>some (j*k,k)) z [(0,v)]=some v.cells:=by
 have h:=vZ v.cells.toList 0 z (by simp;omega);simp only[Instr.fill,Nat.zero_mul,V0];rw[if_neg (by simp;omega)];congr 1;apply Array.toList_inj.1;rw[←Array.foldl_toList,Array.toList_zipIdx,h];simp;omega
section
variable {P:Y3} {w:x1} {α β:Type} [au α] [au β] {m:Bool} {S R:am}
theorem k6 {b:Nat} {x:y0} {a:α} {A:am} {K:y0→x1→Prop} (X:P.underlying t=some (.slice e)) (hi:aA P e (au.n α) b z) (af:au.n α≤100000)
  (J:x.cells=cs.toArray) (U:dp A R w cs a)
  (Y:∀ v w',Ext w w'→dp (fun r=>A r∨w.heap.size≤r) R w' [v] [a]→bM w' (au.n α) v 1 cs→K v w'):aw P (b6 t 1 #[(0,x)]) w K:=by
 have Z:=au.len U;refine hN X hi (by omega) (cs:=x.cells) (v7 (by simp) (by rw[J];simpa using Z)) fun g w' ag V E=>?_;have E:aa w' g e cs:=by rw[J] at E;simpa using E
 have hm:bz w' g e (au.n α) (.slice (some ⟨g,0,none⟩) 1 1) 1 cs:=bz.full E (by omega) (by simp[maxLen]);refine Y _ w' V ⟨_,rfl,[cs],g,fun i r=>i=0∧A r∧r<w.heap.size,⟨fun i r h=>.inl h.2.1,fun _ i h=>by omega,fun _ i j r ab h1 ac=>ab (h1.1.trans ac.1.symm)⟩,⟨rfl,fun i c a' O W=>?_⟩,?_,fun _=>⟨.inr (.inr (by omega)),e,by simpa using hm⟩⟩ hm.sl
 ·have ad:i=0:=by simpa using (x3.1 O).1
  subst ad;simp at O W;subst O W;exact dc (au.mono U (fun r ae h=>⟨rfl,h,ae⟩) fun _ _ h=>h) V
 ·have:=rX (S:=fun r=>(A r∨w.heap.size≤r)∨R r) hm (.inr (.inl (.inr (by omega))));simpa using this
end
theorem bS.range {B:y0→x1→(y0→x1→Prop)→Prop} (n:Nat) (I:Nat→x1→Prop)
  (V:n≤9223372036854775807) (J:I 0 w)
  (O:∀ (i:Nat) (w:x1) (k:y0→x1→Prop),i<n→I i w→(∀ w',I (i+1) w'→k (.int .i64 (X5.wrap ((i:Int)+1))) w')→B (.int .i64 (i:Int)) w k)
  (U:∀ (w:x1) (k:y0→x1→Prop),I n w→B (.int .i64 (n:Int)) w k):bS (.int .i64 0) w B:=by
 refine⟨fun t w=>∃ i:Nat,t= .int .i64 (i:Int)∧i≤n∧I i w,fun t _=>n-(bk t).toNat,⟨0,rfl,Z5 _,J⟩,?_⟩;rintro _ w ⟨i,rfl,hi,h⟩;by_cases E:i<n
 ·refine O i w _ E h fun w' h'=>⟨⟨i+1,?_,E,h'⟩,?_⟩
  ·rw[wrap_i64 (by omega) (by omega)];rfl
  ·rw[wrap_i64 (by omega) (by omega)];simp only[bk];omega
 ·have:i=n:=by omega
  subst this;exact U w _ h
theorem bO.range {a:y0} {B:y0→y0→x1→(y0→y0→x1→Prop)→Prop} (n:Nat) (I:Nat→y0→x1→Prop)
  (V:n≤9223372036854775807) (J:I 0 a w)
  (O:∀ (i:Nat) (a:y0) (w:x1) (k:y0→y0→x1→Prop),i<n→I i a w→(∀ a' w',I (i+1) a' w'→k a' (.int .i64 (X5.wrap ((i:Int)+1))) w')→B a (.int .i64 (i:Int)) w k)
  (U:∀ (a:y0) (w:x1) (k:y0→y0→x1→Prop),I n a w→B a (.int .i64 (n:Int)) w k):bO a (.int .i64 0) w B:=by
 refine⟨fun a t w=>∃ i:Nat,t= .int .i64 (i:Int)∧i≤n∧I i a w,fun a t _=>n-(bk t).toNat,⟨0,rfl,Z5 _,J⟩,?_⟩;rintro a _ w ⟨i,rfl,hi,h⟩;by_cases E:i<n
 ·refine O i a w _ E h fun a' w' h'=>⟨⟨i+1,?_,E,h'⟩,?_⟩
  ·rw[wrap_i64 (by omega) (by omega)];rfl
  ·rw[wrap_i64 (by omega) (by omega)];simp only[bk];omega
 ·have:i=n:=by omega
  subst this;exact U a w _ h
theorem lS.range {a b:y0} {B:y0→y0→y0→x1→(y0→y0→y0→x1→Prop)→Prop} (n:Nat) (I:Nat→y0→y0→x1→Prop)
  (W:n≤9223372036854775807) (O:I 0 a b w)
  (U:∀ (i:Nat) (a b:y0) (w:x1) (k:y0→y0→y0→x1→Prop),i<n→I i a b w→(∀ a' E w',I (i+1) a' E w'→k a' E (.int .i64 (X5.wrap ((i:Int)+1))) w')→B a b (.int .i64 (i:Int)) w k)
  (V:∀ (a b:y0) (w:x1) (k:y0→y0→y0→x1→Prop),I n a b w→B a b (.int .i64 (n:Int)) w k):lS a b (.int .i64 0) w B:=by
 refine⟨fun a b t w=>∃ i:Nat,t= .int .i64 (i:Int)∧i≤n∧I i a b w,fun a b t _=>n-(bk t).toNat,⟨0,rfl,Z5 _,O⟩,?_⟩;rintro a b _ w ⟨i,rfl,hi,h⟩;by_cases J:i<n
 ·refine U i a b w _ J h fun a' E w' h'=>⟨⟨i+1,?_,J,h'⟩,?_⟩
  ·rw[wrap_i64 (by omega) (by omega)];rfl
  ·rw[wrap_i64 (by omega) (by omega)];simp only[bk];omega
 ·have:i=n:=by omega
  subst this;exact V a b w _ h
theorem oS.range {a b c:y0} {B:y0→y0→y0→y0→x1→(y0→y0→y0→y0→x1→Prop)→Prop} (n:Nat) (I:Nat→y0→y0→y0→x1→Prop)
  (X:n≤9223372036854775807) (U:I 0 a b c w)
  (V:∀ (i:Nat) (a b c:y0) (w:x1) (k:y0→y0→y0→y0→x1→Prop),i<n→I i a b c w→(∀ a' E J w',I (i+1) a' E J w'→k a' E J (.int .i64 (X5.wrap ((i:Int)+1))) w')→B a b c (.int .i64 (i:Int)) w k)
  (W:∀ (a b c:y0) (w:x1) (k:y0→y0→y0→y0→x1→Prop),I n a b c w→B a b c (.int .i64 (n:Int)) w k):oS a b c (.int .i64 0) w B:=by
 refine⟨fun a b c t w=>∃ i:Nat,t= .int .i64 (i:Int)∧i≤n∧I i a b c w,fun a b c t _=>n-(bk t).toNat,⟨0,rfl,Z5 _,U⟩,?_⟩;rintro a b c _ w ⟨i,rfl,hi,h⟩;by_cases O:i<n
 ·refine V i a b c w _ O h fun a' E J w' h'=>⟨⟨i+1,?_,O,h'⟩,?_⟩
  ·rw[wrap_i64 (by omega) (by omega)];rfl
  ·rw[wrap_i64 (by omega) (by omega)];simp only[bk];omega
 ·have:i=n:=by omega
  subst this;exact W a b c w _ h
theorem nj.range {a b c d:y0} {B:y0→y0→y0→y0→y0→x1→(y0→y0→y0→y0→y0→x1→Prop)→Prop} (n:Nat) (I:Nat→y0→y0→y0→y0→x1→Prop)
  (Y:n≤9223372036854775807) (V:I 0 a b c d w)
  (W:∀ (i:Nat) (a b c d:y0) (w:x1) (k:y0→y0→y0→y0→y0→x1→Prop),i<n→I i a b c d w→(∀ a' E J O w',I (i+1) a' E J O w'→k a' E J O (.int .i64 (X5.wrap ((i:Int)+1))) w')→B a b c d (.int .i64 (i:Int)) w k)
  (X:∀ (a b c d:y0) (w:x1) (k:y0→y0→y0→y0→y0→x1→Prop),I n a b c d w→B a b c d (.int .i64 (n:Int)) w k):nj a b c d (.int .i64 0) w B:=by
 refine⟨fun a b c d t w=>∃ i:Nat,t= .int .i64 (i:Int)∧i≤n∧I i a b c d w,fun a b c d t _=>n-(bk t).toNat,⟨0,rfl,Z5 _,V⟩,?_⟩;rintro a b c d _ w ⟨i,rfl,hi,h⟩;by_cases U:i<n
 ·refine W i a b c d w _ U h fun a' E J O w' h'=>⟨⟨i+1,?_,U,h'⟩,?_⟩
  ·rw[wrap_i64 (by omega) (by omega)];rfl
  ·rw[wrap_i64 (by omega) (by omega)];simp only[bk];omega
 ·have:i=n:=by omega
  subst this;exact X a b c d w _ h
section
variable {P:Y3} {w:x1} {m:Bool} {S R:am}
theorem D5 (l:List Int):(l.map fun x=>[X0 k x]).flatten=ints k l:=by
 induction l with
 |nil=>rfl
 |cons x l E=>simp only[List.map_cons,List.flatten_cons,E];rfl
theorem mf {g:Nat} (h:ak .i64 e w g v l):dp (fun r=>r=g) R w [v] l:=by
 have ae:(l.map fun x=>[X0 .i64 x]).flatten=ints .i64 l:=D5 l;refine⟨v,rfl,l.map fun x=>[.int .i64 x],g,fun _ _=>False,⟨fun _ _ h=>h.elim,fun _ _ h=>h,fun _ _ _ _ _ h=>h.elim⟩,⟨by simp,fun i c a E J=>?_⟩,?_,fun _=>⟨.inr rfl,e,?_⟩⟩
 ·rw[x7,J] at E;simp at E;exact E.symm
 ·rw[ae];exact rX h (.inr (.inl rfl))
 ·rw[ae];exact h
end
end Go.Vc
namespace Go.Proofs.YthjegppepbbojaaGreatDoor
open Go Go.Vc Go.RowKit Go.Proofs Go.Proofs.Tryz
set_option maxRecDepth 100000
def right (k:Int):Prop:=1≤k∧k≤2147483648
def cv (a k:Int):Prop:=right k∧0≤a∧a≤k
instance (k:Int):Decidable (right k):=by unfold right;infer_instance
instance (a k:Int):Decidable (cv a k):=by unfold cv;infer_instance
theorem v8 {k:Int}:ag x5 Da [.int .i64 k] w fun v w'=>v= .bool (decide (right k))∧Ext w w':=by
 refine ap func217 ?_;simp only[bX,cn,nv,af];refine⟨fun h=>⟨?_,Ext.refl _⟩,fun h=>⟨?_,Ext.refl _⟩⟩
 ·congr 1;simp[right,h]
 ·rw[decide_eq_false];intro E;exact h E.1
theorem k7 {k:Int}:ag x5 Cn [.int .i64 a,.int .i64 k] w fun v w'=>v= .bool (decide (cv a k))∧Ext w w':=by
 refine ap func133 ?_;simp only[bX];refine v8.mono ?_;rintro _ U _ ⟨rfl,J⟩;simp only[cn,nv,af];refine⟨fun h=>⟨fun E=>⟨?_,J⟩,fun E=>⟨?_,J⟩⟩,fun h=>⟨?_,J⟩⟩
 ·congr 1;simp[cv,h,E]
 ·rw[decide_eq_false];intro O;exact E O.2.1
 ·rw[decide_eq_false];intro O;exact h O.1
end Go.Proofs.YthjegppepbbojaaGreatDoor
namespace Go.Proofs.YthjegppepbbojaaGreatDoor
open Go Go.Vc Go.RowKit Go.Proofs Go.Proofs.Tryz
set_option maxRecDepth 100000
def az:List Int→Int
 |[]=>1
 |x::r=>x*az r
theorem wa:∀ (a b:List Int),az (a++b)=az a*az b
 |[],b=>by simp[az]
 |x::a,b=>by simp[az,wa a b,Int.mul_assoc]
theorem pC {i:Nat} {x:Int} (h:l[i]? =some x):az (l.take (i+1))=az (l.take i)*x:=by
 rw[u5,h,wa];simp[az]
def bD (l:List Int):Prop:=l.length≤6∧ ∀ x∈l,1≤x∧x≤32
theorem bD.take (h:bD l) (i:Nat):bD (l.take i):=⟨by rw[o6];have:=h.1;omega,fun x J=>h.2 x (List.mem_of_mem_take J)⟩
theorem bD.drop (h:bD l) (i:Nat):bD (l.drop i):=⟨by rw[List.length_drop];have:=h.1;omega,fun x J=>h.2 x (List.mem_of_mem_drop J)⟩
theorem nx:∀ (l:List Int),(∀ x∈l,1≤x∧x≤32)→1≤az l∧az l≤32 ^ l.length
 |[],_=>by simp[az]
 |x::r,h=>by
  obtain⟨h1,E⟩:=nx r fun y J=>h y (.tail _ J);obtain⟨O,U⟩:=h x (.head _);simp only[az,n9];constructor
  ·have:=Int.mul_le_mul O h1 (by omega) (by omega);simpa using this
  ·have:=Int.mul_le_mul U E (by omega) (by omega);rw[Int.pow_succ];rw[Int.mul_comm (32 ^ r.length) 32];exact this
theorem prod_bound (h:bD l):1≤az l∧az l≤1073741824:=by
 obtain⟨h1,E⟩:=nx l h.2;refine⟨h1,Int.le_trans E ?_⟩;have:(32:Int) ^ l.length≤32 ^ 6:=by
  have J:=h.1
  match l.length,J with
  |0,_=>decide
  |1,_=>decide
  |2,_=>decide
  |3,_=>decide
  |4,_=>decide
  |5,_=>decide
  |6,_=>decide
 simpa using this
def cp:List Int→List Int→Int→Option Int
 |[],[],n=>some n
 |k::s,v::t,n=>if 0≤v∧v<k then cp s t (n*k+v) else none
 |_,_,_=>none
theorem rY:∀ (s t:List Int) (n:Int),s.length≠t.length→cp s t n=none
 |[],[],_,h=>absurd rfl h
 |[],_::_,_,_=>rfl
 |_::_,[],_,_=>rfl
 |k::s,v::t,n,h=>by
  unfold cp;split
  ·exact rY s t _ (by simpa using h)
  ·rfl
def cq:List Int→Int→List Int
 |[],_=>[]
 |k::s,n=>(n / az s) % k::cq s n
theorem hs:∀ (s:List Int) (n:Int),(cq s n).length=s.length
 |[],_=>rfl
 |_::s,n=>by simp[cq,hs s n]
theorem wb:∀ {s:List Int} {n:Int} {i:Nat} {k:Int},s[i]? =some k→(cq s n)[i]? =some ((n / az (s.drop (i+1))) % k)
 |E::s,n,0,k,h=>by simp at h;subst h;simp[cq]
 |E::s,n,i+1,k,h=>by
  simp only[List.getElem?_cons_succ] at h;simp only[cq,List.getElem?_cons_succ,List.drop_succ_cons];exact wb h
theorem k8:∀ {s t:List Int} {m n:Int},(∀ x∈s,1≤x∧x≤32)→cp s t m=some n→m*az s≤n∧n<(m+1)*az s
 |[],[],m,n,_,h=>by simp[cp] at h;subst h;simp[az];omega
 |k::s,v::t,m,n,E,h=>by
  unfold cp at h;split at h
  ·rename_i ac;have O:=k8 (fun x J=>E x (.tail _ J)) h;have W:=(nx s fun x J=>E x (.tail _ J)).1;simp only[az];have U:m*(k*az s)=m*k*az s:=(Int.mul_assoc _ _ _).symm;have V:(m+1)*(k*az s)=(m*k+k)*az s:=by rw[←Int.mul_assoc,Int.add_mul,Int.one_mul]
   rw[U,V];constructor
   ·refine Int.le_trans ?_ O.1;exact Int.mul_le_mul_of_nonneg_right (by omega) (by omega)
   ·refine Int.lt_of_lt_of_le O.2 ?_;exact Int.mul_le_mul_of_nonneg_right (by omega) (by omega)
  ·cases h
 |[],_::_,_,_,_,h=>by cases h
 |_::_,[],_,_,_,h=>by cases h
end Go.Proofs.YthjegppepbbojaaGreatDoor
namespace Go.Proofs.YthjegppepbbojaaGreatDoor
open Go Go.Vc Go.RowKit Go.Proofs Go.Proofs.Tryz
set_option maxRecDepth 100000
def bo:List Int→List (List Int)
 |[]=>[[]]
 |k::s=>(Z1 k.toNat).flatMap fun(v:Nat)=>(bo s).map fun t=>(v:Int)::t
theorem i7:∀ {s:List Int},(∀ x∈s,1≤x∧x≤32)→(bo s).length=(az s).toNat
 |[],_=>rfl
 |k::s,h=>by
  have E:=i7 (s:=s) fun x J=>h x (.tail _ J);have O:=h k (.head _);have U:=(nx s fun x J=>h x (.tail _ J)).1;simp only[bo,az,List.length_flatMap,r8,E];rw[List.map_const',List.length_range,List.sum_replicate_nat,Int.toNat_mul (by omega) (by omega)]
theorem rZ:∀ {s x:List Int},x∈bo s→x.length=s.length
 |[],x,h=>by simp[bo] at h;subst h;rfl
 |k::s,x,h=>by
  simp only[bo,List.mem_flatMap,o8] at h;obtain⟨v,_,t,E,rfl⟩:=h;simp[rZ E]
theorem D6 {s x:List Int} (h:(bo s)[j]? =some x):x.length=s.length:=rZ (x2 h)
end Go.Proofs.YthjegppepbbojaaGreatDoor
namespace Go.Proofs.YthjegppepbbojaaGreatDoor
open Go Go.Vc Go.RowKit Go.Proofs Go.Proofs.Tryz
set_option maxRecDepth 100000
theorem mg (h:ay .i64 w sv l) (O:bD l):
  ag x5 Cp [.agg #[sv]] w fun v w'=>v= .int .i64 (az l)∧Ext w w':=by
 refine ap func135 ?_;refine a7 fun g w0 Y U W=>?_;rw[aP bb.p 0 W rfl,aK al.u (h.ext U)];refine⟨fun n t V=>Ext w V∧ ∃ i:Nat,t= .int .i64 i∧i≤l.length∧n= .int .i64 (az (l.take i)),fun _ t _=>l.length-(bk t).toNat,⟨U,0,rfl,Z5 _,rfl⟩,?_⟩;rintro _ _ V ⟨J,i,rfl,hi,rfl⟩;have Z:=O.1;simp only[aC,af];refine⟨fun aa=>?_,fun ac=>⟨?_,J⟩⟩
 ·obtain⟨x,E⟩:=aE (l:=l) (i:=i) (by omega);rw[a1 al.u ab.i (by kernel_rfl) (h.ext J) E];have X:=prod_bound (O.take (i+1));rw[pC E] at X;simp only[fV,aB];rw[wrap_i64 (by omega) (by omega),wrap_i64 (by omega) (by omega),←pC E];refine⟨⟨J,i+1,rfl,by omega,rfl⟩,?_⟩;simp only[bk];omega
 ·have:i=l.length:=by omega
  rw[this,o5]
theorem D7 {i:Nat} (h:ay .i64 w sv l) (O:bD l) (hi:i<l.length):
  ag x5 De [.agg #[sv],.int .i64 i] w fun v w'=>v= .int .i64 (az (l.drop (i+1)))∧Ext w w':=by
 have ad:=O.1;refine ap func222 ?_;refine a7 fun g w0 ae U W=>?_;have E:=h.ext U;simp only[bX,aC,af];refine⟨fun ah=>by omega,fun _=>?_⟩;rw[aP bb.p 0 W rfl,aK al.u E];simp only[cn,af];refine⟨fun ai=>by omega,fun _=>?_⟩;rw[aP bb.p 0 W rfl];simp only[aB];have X:X5.wrap ((i:Int)+1)=((i+1:Nat):Int):=by rw[wrap_i64 (by omega) (by omega)];omega
 rw[X];have Y:=E;obtain⟨_,b,o,base,cap,rfl,aj,ak,am,an⟩:=id E;rw[fu al.u ab.i (l:=i+1) (h:=l.length) (m:=cap) mb hp ea (by omega) (by omega) (by omega)];have J:=bM.part (l:=i+1) (h:=l.length) (m:=cap) Y (by omega) (by omega) (by omega) (by omega);generalize Z:(y0.slice (if cap=i+1 then base else X3 (fun x=>x.add ((i+1)*1)) base) (l.length-(i+1)) (cap-(i+1)))=q at J ⊢;have aa:((ints .i64 l).drop ((i+1)*1)).take ((l.length-(i+1))*1)=ints .i64 (l.drop (i+1)):=by
  rw[Z0 (by simp),V2,ints,←List.map_drop]
 rw[aa] at J;rw[ct (cs:=#[q]) (by subst Z;kernel_rfl)];refine (mg (ay.of J) (O.drop (i+1))).mono ?_;rintro _ V _ ⟨rfl,ac⟩;exact⟨rfl,U.trans ac⟩
def i9 (s t:List Int):y0:=match cp s t 0 with
 |some n=>.tuple #[.int .i64 n,.int .i64 0]
 |none=>.tuple #[.int .i64 0,.int .i64 3]
theorem wc {Z:y0} {s t:List Int} (h:ay .i64 w sv s) (X:ay .i64 w Z t) (V:bD s):
  ag x5 C9 [.agg #[sv],Z] w fun v w'=>v=i9 s t∧Ext w w':=by
 have an:=V.1;refine ap func214 ?_;refine a7 fun g w0 ao E Y=>?_;rw[aK al.u (X.ext E),aP bb.p 0 Y rfl,aK al.u (h.ext E)];simp only[bj,af];refine⟨fun aq=>⟨?_,E⟩,fun ae=>?_⟩
 ·unfold i9;rw[rY _ _ _ (by omega)]
 ·have ae:s.length=t.length:=by omega
  rw[aK al.u (X.ext E)];refine⟨fun _ _ n c aa=>Ext w0 aa∧ ∃ (i:Nat) (m:Int),c= .int .i64 i∧i≤t.length∧n= .int .i64 m∧0≤m∧m<az (s.take i)∧cp s t 0=cp (s.drop i) (t.drop i) m,fun _ _ _ c _=>t.length-(bk c).toNat,
   ⟨Ext.refl _,0,0,rfl,Z5 _,rfl,Int.le_refl _,by simp[az],rfl⟩,?_⟩
  rintro _ _ _ _ aa ⟨W,i,m,rfl,hi,rfl,ah,au,O⟩;have J:=E.trans W;simp only[aC,af];refine⟨fun av=>?_,fun aw=>⟨?_,J⟩⟩
  ·obtain⟨v,ac,ai⟩:∃ v,t[i]? =some v∧t.drop i=v::t.drop (i+1):=⟨t[i],x4 (by omega),Y1 (by omega)⟩;obtain⟨k,U,aj⟩:∃ k,s[i]? =some k∧s.drop i=k::s.drop (i+1):=⟨s[i],x4 (by omega),Y1 (by omega)⟩;rw[ai,aj] at O;have ak:=prod_bound (V.take (i+1));have ax:=prod_bound (V.take i);have aA:=V.2 k (x2 U);rw[pC U] at ak;have ad:¬(0≤v∧v<k)→i9 s t= .tuple #[.int .i64 0,.int .i64 3]:=fun am=>by unfold i9;rw[O];simp[cp,am]
   rw[a1 al.u ab.i (by kernel_rfl) (X.ext J) ac];simp only[bX,aC,af,bq];refine⟨fun aD=>⟨(ad (by omega)).symm,J⟩,fun aE=>?_⟩;rw[aP bb.p 0 (Y.ext W) rfl,a1 al.u ab.i (by kernel_rfl) (h.ext J) U];simp only[cn,af];refine⟨fun aF=>⟨(ad (by omega)).symm,J⟩,fun aG=>?_⟩;rw[aP bb.p 0 (Y.ext W) rfl,a1 al.u ab.i (by kernel_rfl) (h.ext J) U];have aH:0≤m*k∧m*k+k≤az (s.take i)*k:=by
    constructor
    ·exact Int.mul_nonneg ah (by omega)
    ·have:=Int.mul_le_mul_of_nonneg_right (show m+1≤az (s.take i) by omega) (show 0≤k by omega);rw[Int.add_mul,Int.one_mul] at this;exact this
   simp only[fV,aB];rw[wrap_i64 (x:=m*k) (by omega) (by omega),wrap_i64 (x:=m*k+v) (by omega) (by omega),wrap_i64 (x:=(i:Int)+1) (by omega) (by omega)];refine⟨⟨W,i+1,m*k+v,rfl,by omega,rfl,by omega,by rw[pC U];omega,?_⟩,?_⟩
   ·rw[O];simp[cp,show 0≤v∧v<k from⟨by omega,by omega⟩]
   ·simp only[bk];omega
  ·have:i=t.length:=by omega
   rw[this,List.drop_of_length_le (by omega),List.drop_of_length_le (by omega)] at O;unfold i9;rw[O];rfl
end Go.Proofs.YthjegppepbbojaaGreatDoor
namespace Go.Proofs.YthjegppepbbojaaGreatDoor
open Go Go.Vc Go.RowKit Go.Proofs Go.Proofs.Tryz
set_option maxRecDepth 100000
theorem D8 {aa:y0} {U:Nat} {a b:List Int} (h1:bM w 1 aa E (ints .i64 a)) (ad:bM w 1 ac U (ints .i64 b)):
  ag x5 vk [aa,ac] w fun v w'=>v= .bool (decide (a=b))∧Ext w w':=by
 have ay:a.length=E:=by simpa using h1.1
 have az:b.length=U:=by simpa using ad.1
 have ae:=h1.le;obtain⟨_,aA,aD,aF,aG,rfl,aH,aI,ak,am⟩:=h1;obtain⟨_,aJ,aK,aL,aM,rfl,aN,aO,an,ao⟩:=ad;refine ap func79 ?_;simp only[fK al.u,bj,af];refine⟨fun ah=>⟨?_,Ext.refl _⟩,fun ai=>?_⟩
 ·rw[decide_eq_false];rintro rfl;omega
 ·have ai:E=U:=by omega
  refine⟨fun t4 W aj=>Ext w aj∧ ∃ i:Nat,W= .int .i64 i∧i≤E∧a.take i=b.take i,fun _ W _=>E-(bk W).toNat,⟨Ext.refl _,0,rfl,Z5 _,rfl⟩,?_⟩;rintro t4 _ aj ⟨J,i,rfl,hi,X⟩;simp only[aC,af,du];refine⟨fun Y V aq _ _=>?_,fun aP=>⟨?_,J⟩⟩
  ·have Y:i<E:=by omega
   have J:=J.trans aq;obtain⟨x,Z⟩:=aE (l:=a) (i:=i) (by omega);obtain⟨y,O⟩:=aE (l:=b) (i:=i) (by omega);have au:=kY J (am i _ (iX Z));have aw:=kY J (ao i _ (iX O));rw[gl al.u ab.i Y ak,V2,av (by kernel_rfl) au,gl al.u ab.i (ai▸Y) an,V2,av (by kernel_rfl) aw];simp only[bj,af,aB];refine⟨fun ah=>⟨?_,J⟩,fun aQ=>⟨⟨J,i+1,?_,by omega,rU X Z O (by omega)⟩,?_⟩⟩
   ·rw[decide_eq_false];rintro rfl;rw[Z] at O;cases O;exact ah rfl
   ·rw[wrap_i64 (by omega) (by simp only[maxLen] at ae;omega)];rfl
   ·rw[wrap_i64 (by omega) (by simp only[maxLen] at ae;omega)];simp only[bk];omega
  ·have ax:i=E:=by omega
   subst ax;rw[decide_eq_true];rw[Z0 (by omega),Z0 (by omega)] at X;exact X
theorem D9 {s:y0} {a:List Int} (h1:bM w 1 s n (ints .i64 a)) (ac:n≤1000000):
  ag x5 vg [s] w fun v w'=>Ext w w'∧ ∃ g,w.heap.size≤g∧bz w' g ab 1 v n (ints .i64 a):=by
 have O:=h1;obtain⟨U,ad,ae,af,ah,rfl,ai,aj,W,ak⟩:=h1;refine ap func39 ?_;simp only[ma al.u,ca];refine⟨fun E=>⟨Ext.refl _,w.heap.size,r9 _,?_⟩,fun _=>?_⟩
 ·have:n=0:=by
   rcases Nat.eq_zero_or_pos n with h|h
   ·exact h
   ·rw[W h] at E;cases E
  subst this;have:ints .i64 a=[]:=o9 (by simpa using U);rw[this];exact bz.nil _ _ _ _
 ·refine hN al.u ab.i (by omega) (cs:=#[]) (by kernel_rfl) ?_;intro g am an J X;refine k4 (g:=g) al.u al.u ab.i rfl (bz.full X rfl (by omega)) (O.ext J) (nw _ _) (by omega) (by simp only[maxLen];omega) ?_;intro ao Y V aq Z aa;refine⟨J.then aa (by rintro r au rfl;omega),Y,?_,?_⟩
  ·have:=J.size;omega
  ·simpa using Z
theorem Ea {aa ab:y0} {U:Nat} {a b:List Int} (h1:bM w 1 aa E (ints .i64 a)) (ac:bM w 1 ab U (ints .i64 b)):
  ag x5 vd [aa,ab] w fun v w'=>v= .bool (decide (a=b))∧Ext w w':=by
 have ay:a.length=E:=by simpa using h1.1
 have az:b.length=U:=by simpa using ac.1
 have ad:=h1.le;obtain⟨_,aA,aD,aF,aG,rfl,aH,aI,ak,al⟩:=h1;obtain⟨_,aJ,aK,aL,aM,rfl,aN,aO,am,ao⟩:=ac;refine ap func14 ?_;simp only[fK an.u,bj,af];refine⟨fun ae=>⟨?_,Ext.refl _⟩,fun ah=>?_⟩
 ·rw[decide_eq_false];rintro rfl;omega
 ·have ah:E=U:=by omega
  refine⟨fun t4 W ai=>Ext w ai∧ ∃ i:Nat,W= .int .i64 i∧i≤E∧a.take i=b.take i,fun _ W _=>E-(bk W).toNat,⟨Ext.refl _,0,rfl,Z5 _,rfl⟩,?_⟩;rintro t4 _ ai ⟨J,i,rfl,hi,X⟩;simp only[aC,af,du];refine⟨fun Y V aq _ _=>?_,fun aP=>⟨?_,J⟩⟩
  ·have Y:i<E:=by omega
   have J:=J.trans aq;obtain⟨x,Z⟩:=aE (l:=a) (i:=i) (by omega);obtain⟨y,O⟩:=aE (l:=b) (i:=i) (by omega);have au:=kY J (al i _ (iX Z));have aw:=kY J (ao i _ (iX O));rw[gl an.u aj.i Y ak,V2,av (by kernel_rfl) au,gl an.u aj.i (ah▸Y) am,V2,av (by kernel_rfl) aw];simp only[bj,af,aB];refine⟨fun ae=>⟨?_,J⟩,fun aQ=>⟨⟨J,i+1,?_,by omega,rU X Z O (by omega)⟩,?_⟩⟩
   ·rw[decide_eq_false];rintro rfl;rw[Z] at O;cases O;exact ae rfl
   ·rw[wrap_i64 (by omega) (by simp only[maxLen] at ad;omega)];rfl
   ·rw[wrap_i64 (by omega) (by simp only[maxLen] at ad;omega)];simp only[bk];omega
  ·have ax:i=E:=by omega
   subst ax;rw[decide_eq_true];rw[Z0 (by omega),Z0 (by omega)] at X;exact X
theorem Eb {s:y0} {a:List Int} (h1:bM w 1 s n (ints .i64 a)) (ab:n≤1000000):
  ag x5 vz [s] w fun v w'=>Ext w w'∧ ∃ g,w.heap.size≤g∧bz w' g aj 1 v n (ints .i64 a):=by
 have O:=h1;obtain⟨U,ac,ad,ae,af,rfl,ah,ai,W,ak⟩:=h1;refine ap func187 ?_;simp only[ma an.u,ca];refine⟨fun E=>⟨Ext.refl _,w.heap.size,r9 _,?_⟩,fun _=>?_⟩
 ·have:n=0:=by
   rcases Nat.eq_zero_or_pos n with h|h
   ·exact h
   ·rw[W h] at E;cases E
  subst this;have:ints .i64 a=[]:=o9 (by simpa using U);rw[this];exact bz.nil _ _ _ _
 ·refine hN an.u aj.i (by omega) (cs:=#[]) (by kernel_rfl) ?_;intro g al am J X;refine k4 (g:=g) an.u an.u aj.i rfl (bz.full X rfl (by omega)) (O.ext J) (nw _ _) (by omega) (by simp only[maxLen];omega) ?_;intro ao Y V aq Z aa;refine⟨J.then aa (by rintro r au rfl;omega),Y,?_,?_⟩
  ·have:=J.size;omega
  ·simpa using Z
theorem Ec {E:y0} {a b:List Int} (h1:ay .i64 w E a) (O:ay .i64 w J b):
  ag x5 vk [E,J] w fun v w'=>v= .bool (decide (a=b))∧Ext w w':=D8 h1 O
theorem ij {s:y0} {a:List Int} (h1:ay .i64 w s a) (E:a.length≤1000000):
  ag x5 vg [s] w fun v w'=>Ext w w'∧ ∃ g,w.heap.size≤g∧ak .i64 ab w' g v a:=D9 h1 E
theorem Ed {E:y0} {a b:List Int} (h1:ay .i64 w E a) (O:ay .i64 w J b):
  ag x5 vd [E,J] w fun v w'=>v= .bool (decide (a=b))∧Ext w w':=Ea h1 O
theorem r0 {s:y0} {a:List Int} (h1:ay .i64 w s a) (E:a.length≤1000000):
  ag x5 vz [s] w fun v w'=>Ext w w'∧ ∃ g,w.heap.size≤g∧ak .i64 aj w' g v a:=Eb h1 E
end Go.Proofs.YthjegppepbbojaaGreatDoor
namespace Go.Proofs.YthjegppepbbojaaGreatDoor
open Go Go.Vc Go.RowKit Go.Proofs Go.Proofs.Tryz
set_option maxRecDepth 100000
theorem Ee {n:Int} (h:ay .i64 w sv l) (E:bD l) (Y:0≤n) (aI:n<az l):
  ag x5 CB [.agg #[sv],.int .i64 n] w fun v w'=>Ext w w'∧ ∃ aj g,v= .tuple #[aj,.int .i64 0]∧w.heap.size≤g∧ak .i64 ab w' g aj (cq l n):=by
 have aJ:=E.1;have aL:=prod_bound E;refine ap func156 ?_;refine a7 fun g w0 aM Z J=>?_;have aN:=h.cells;simp only[bX,aC,af];refine⟨fun aO=>by omega,fun _=>?_⟩;rw[bn bb.p bb.i rfl J.range];refine (mg (h.ext Z) E).mono ?_;rintro _ aQ _ ⟨rfl,O⟩;simp only[cn,af];refine⟨fun aR=>by omega,fun _=>?_⟩;have U:=Z.trans O;rw[aP bb.p 0 (J.ext O) rfl,aK al.u (h.ext U)];refine ih al.u ab.i (by omega) (by omega) ?_;intro am V aS ac au;simp only[fK al.u];have av:=U.trans ac;have s0:=Z.size;have aT:=O.size;have aU:=J.lt;refine⟨fun t W=>Ext w W∧Ext w0 W∧ ∃ i:Nat,t= .int .i64 i∧i≤l.length∧aa W am ab (ints .i64 ((cq l n).take i++u6 (l.length-i) 0)),fun t _=>l.length-(bk t).toNat,
  ⟨av,O.trans ac,0,rfl,Z5 _,by simpa using au⟩,?_⟩
 rintro _ W ⟨ad,ae,i,rfl,hi,an⟩;simp only[aC,af];refine⟨fun ah=>?_,fun aV=>?_⟩
 ·have ah:i<l.length:=by omega
  rw[bn bb.p bb.i rfl (J.ext ae).range];refine (D7 (h.ext ad) E ah).mono ?_;rintro _ aW _ ⟨rfl,aw⟩;simp only[du];intro aX ax _ _;have X:=aw.trans ax;have ao:=ad.trans X;obtain⟨k,ai⟩:∃ k,l[i]? =some k:=⟨l[i],x4 (by omega)⟩;have aZ:=E.2 k (x2 ai);have a2:=prod_bound (E.drop (i+1));have aA:0≤n / az (l.drop (i+1)):=Int.ediv_nonneg Y (by omega);have a6:n / az (l.drop (i+1))≤n:=Int.ediv_le_self _ Y;rw[pu (by omega),Int.tdiv_eq_ediv_of_nonneg Y,wrap_i64 (by omega) (by omega),
   aP bb.p 0 ((J.ext ae).ext X) rfl,a1 al.u ab.i (by kernel_rfl) (h.ext ao) ai,
   vJ (by omega),Int.tmod_eq_emod_of_nonneg aA,gl al.u ab.i ah (fun _=>rfl),V2]
  refine aY ab.i rfl rfl (an.ext X) (by simp[hs];omega) ?_;intro a8 aq ba aD;simp only[aB];rw[wrap_i64 (by omega) (by omega)];have bc:=ac.size;have bd:=U.size;refine⟨⟨ao.then aq (by rintro r aE rfl;omega),(ae.trans X).then aq (by rintro r aE rfl;omega),i+1,rfl,by omega,?_⟩,?_⟩
  ·have aF:=wb (n:=n) ai;have e:(ints .i64 ((cq l n).take i++u6 (l.length-i) 0)).set (0+i) (.int .i64 (n / az (l.drop (i+1)) % k))=ints .i64 ((cq l n).take (i+1)++u6 (l.length-(i+1)) 0):=by
    have aG:((cq l n).take i).length=i:=by rw[o6,hs];omega
    rw[V0,ints,←List.map_set];congr 1;rw[List.set_append,if_neg (by omega),aG,X9,show l.length-i=(l.length-(i+1))+1 by omega,List.replicate_succ,List.set_cons_zero,u5,aF];simp
   rw[←e];exact aD
  ·simp only[bk];omega
 ·have aH:i=l.length:=by omega
  subst aH;refine⟨ad,_,am,rfl,by have:=U.size;omega,ak.of (n:=l.length) (bz.full ?_ (by simp[ints,hs]) (by simp[maxLen];omega))⟩;have e:(cq l n).take l.length++u6 (l.length-l.length) 0=cq l n:=by rw[X9,Z0 (by rw[hs];omega)];simp
  rw[←e];exact an
end Go.Proofs.YthjegppepbbojaaGreatDoor
namespace Go.Proofs.YthjegppepbbojaaGreatDoor
open Go Go.Vc Go.RowKit Go.Proofs Go.Proofs.Tryz
set_option maxRecDepth 100000
def gm (x:Int):Prop:=1≤x∧x≤32
instance (x:Int):Decidable (gm x):=by unfold gm;infer_instance
theorem Ef {x:Int}:ag x5 pi [.int .i64 x] w fun v w'=>v= .bool (decide (¬gm x))∧Ext w w':=by
 refine ap func215 ?_;simp only[bX,aC,br,af];refine⟨fun h=>⟨?_,Ext.refl _⟩,fun h=>⟨?_,Ext.refl _⟩⟩
 ·rw[decide_eq_true];intro E;have:=E.1;omega
 ·congr 1;have:(32<x)=(¬gm x):=propext ⟨fun J E=>by have:=E.2;omega,fun J=>by
   by_cases O:32<x
   ·exact O
   ·exact absurd ⟨by omega,by omega⟩ J⟩
  simp only[this]
theorem Eg (h:ay .i64 w sv l):
  ag x5 rG [sv,.func (.func pi) #[] #[]] w fun v w'=>Ext w w'∧ ∃ n:Int,v= .int .i64 n∧((0≤n)=¬∀ x∈l,gm x):=by
 have ac:=h.le;refine ap func131 ?_;rw[aK al.u h];refine⟨fun _ t O=>Ext w O∧ ∃ i:Nat,t= .int .i64 i∧i≤l.length∧ ∀ x∈l.take i,gm x,fun _ t _=>l.length-(bk t).toNat,⟨Ext.refl _,0,rfl,Z5 _,by simp⟩,?_⟩;rintro _ _ O ⟨J,i,rfl,hi,U⟩;simp only[aC,af];refine⟨fun ad=>?_,fun ae=>⟨J,-1,rfl,?_⟩⟩
 ·obtain⟨x,W⟩:=aE (l:=l) (i:=i) (by omega);rw[a1 al.u ab.i (by kernel_rfl) (h.ext J) W];show ag x5 pi [.int .i64 x] O _;refine Ef.mono ?_;rintro _ V _ ⟨rfl,X⟩;simp only[af,aB];refine⟨fun Y=>⟨J.trans X,i,rfl,?_⟩,fun Z=>?_⟩
  ·exact propext ⟨fun _ aa=>Y (aa x (x2 W)),fun _=>by omega⟩
  ·rw[wrap_i64 (by omega) (by omega)];refine⟨⟨J.trans X,i+1,rfl,by omega,fun y E=>?_⟩,?_⟩
   ·rw[u5,W] at E;rcases p8.1 E with E|E
    ·exact U y E
    ·simp at E;subst E;exact Z6.1 Z
   ·simp only[bk];omega
 ·have:i=l.length:=by omega
  rw[this,o5] at U;exact propext ⟨fun h=>by omega,fun h=>absurd U h⟩
theorem Eh (h:ay .i64 w sv l):
  ag x5 rK [sv,.func (.func pi) #[] #[]] w fun v w'=>v= .bool (decide (¬∀ x∈l,gm x))∧Ext w w':=by
 refine ap func216 ?_;refine (Eg h).mono ?_;rintro _ O _ ⟨J,n,rfl,E⟩;simp only[cn];exact⟨by congr 1;simp only[E],J⟩
def Ei (w:x1) (l:List Int) (v:y0) (w':x1):Prop:=
 Ext w w'∧
   (¬bD l→v= .tuple #[.agg #[.slice none 0 0],.int .i64 1])∧
   (bD l→4096<az l→v= .tuple #[.agg #[.slice none 0 0],.int .i64 5])∧
   (bD l→az l≤4096→ ∃ g E,v= .tuple #[.agg #[E],.int .i64 0]∧w.heap.size≤g∧ak .i64 ab w' g E l)
theorem Ej (h:ay .i64 w sv l):ag x5 Cm [sv] w (Ei w l):=by
 refine ap func132 ?_;refine bg bb.i fun aL aM aX E ac=>?_;have aY:=ac.lt;refine aI (fun v V=>Ext w V∧Ext aM V∧ ∃ c:Bool,v= .bool c∧((c=true)=¬bD l)) ?_ ?_
 ·rintro _ V ⟨J,ah,c,rfl,av⟩;simp only[ca];refine⟨fun aN=>?_,fun ae=>?_⟩
  ·have aw:¬bD l:=by rw[←av];exact aN
   rw[ct (cs:=#[.slice none 0 0]) (by kernel_rfl)];refine bP (vs:=[.slice none 0 0]) bb.i rfl rfl (by simp;rfl) (ac.ext ah) ?_;intro aZ aO a1 aP;rw[eO bb.p bb.i rfl aP.range];exact⟨J.then aO (by rintro r ai rfl;omega),fun _=>rfl,fun h=>absurd h aw,fun h=>absurd h aw⟩
  ·have X:bD l:=by
    have ax:¬(c=true):=by simp[ae]
    rw[av] at ax;exact Classical.not_not.1 ax
   have a2:=X.1;refine (ij (h.ext J) (by omega)).mono ?_;rintro O az _ ⟨aj,aA,a6,hm⟩;have aB:=hm.ls.cells;rw[ct (cs:=#[O]) (by obtain⟨_,_,_,_,_,rfl,_⟩:=hm.ls;kernel_rfl)];refine bg bb.i fun gs a7 a8 am aQ=>?_;refine bP (vs:=[O]) bb.i rfl rfl (by intro u hu;simp at hu;subst hu;exact aB.2) aQ ?_;intro an aC ba aD;rw[bn bb.p bb.i rfl aD.range];have bc:=aj.size;have bd:=am.size;have be:=ah.size;have bf:ad (fun r=>r=gs) az an:=(am.U _).trans aC;have ao:Ext az an:=am.then aC (by rintro r ai rfl;omega);have aR:=(J.trans aj).trans ao;have aE:ak .i64 ab an aA O l:=hm.ext ao;refine (mg aE.ls X).mono ?_;rintro _ aS _ ⟨rfl,Y⟩;have aF:=aR.trans Y;have aG:aa aS aL bb [.slice none 0 0]:=ac.ext (((ah.trans aj).trans ao).trans Y);simp only[br,af];refine⟨fun aT=>?_,fun aU=>?_⟩
   ·rw[ct (cs:=#[.slice none 0 0]) (by kernel_rfl)];refine bP (vs:=[.slice none 0 0]) bb.i rfl rfl (by simp;rfl) aG ?_;intro aV Z aW aq;rw[eO bb.p bb.i rfl aq.range];exact⟨aF.then Z (by rintro r ai rfl;omega),fun h=>absurd X h,fun _ _=>rfl,fun _ h=>by omega⟩
   ·rw[bn bb.p bb.i rfl (aD.ext Y).range];refine bP (vs:=[O]) bb.i rfl rfl (by intro u hu;simp at hu;subst hu;exact aB.2) aG ?_;intro aV Z aW aq;rw[eO bb.p bb.i rfl aq.range];have bh:=E.size;exact⟨aF.then Z (by rintro r ai rfl;omega),fun h=>absurd X h,fun _ h=>by omega,fun _ _=>⟨aA,O,rfl,by omega,(aE.ext Y).U Z (by omega)⟩⟩
 ·intro bi aH;rw[aK al.u (h.ext E)];simp only[br,af];refine⟨fun aT=>aH _ _ ⟨E,Ext.refl _,true,rfl,?_⟩,fun aU=>?_⟩
  ·exact propext ⟨fun _ W=>by have:=W.1;omega,fun _=>rfl⟩
  ·refine (Eh (h.ext E)).mono ?_;rintro _ V _ ⟨rfl,aJ⟩;refine aH _ _ ⟨E.trans aJ,aJ,_,rfl,?_⟩;rw[decide_eq_true_eq];exact propext ⟨fun au W=>au W.2,fun au W=>au ⟨by omega,W⟩⟩
end Go.Proofs.YthjegppepbbojaaGreatDoor
namespace Go.Proofs.YthjegppepbbojaaGreatDoor
open Go Go.Vc Go.RowKit Go.Proofs Go.Proofs.Tryz
set_option maxRecDepth 100000
theorem r1 {P:Y3} (E:0≤a) (h1:a<4294967296):
  O P (ax .and t cx cy (.int .u64 a) (.int .u64 4294967295)) w K=K (.int .u64 a):=O.of fun w' _=>by
 obtain⟨n,rfl⟩:=Int.eq_ofNat_of_zero_le E;have W:n<4294967296:=by omega
 have e:(V9 64 (n:Int) &&& V9 64 4294967295).toNat=n:=by
  rw[BitVec.toNat_and,BitVec.toNat_ofInt,BitVec.toNat_ofInt];have J:((n:Int) % ((2 ^ 64:Nat):Int)).toNat=n:=by omega
  have U:((4294967295:Int) % ((2 ^ 64:Nat):Int)).toNat=2 ^ 32-1:=by decide
  rw[J,U,Nat.and_two_pow_sub_one_eq_mod];omega
 have V:(V9 W6.bits (n:Int) &&& V9 W6.bits 4294967295).toNat=n:=e;simp only[ax,eqGuard,binOp,Op.intBits,V];rw[wrap_u64 (by omega) (by omega)];rfl
theorem ny {P:Y3} (E:0≤a) (h1:a<4294967296):
  O P (ax .shr t cx cy (.int .u64 a) (.int .u64 32)) w K=K (.int .u64 0):=O.of fun w' _=>by
 have e:a.fdiv (2 ^ min 32 W6.bits)=0:=by
  have:(2:Int) ^ min 32 W6.bits=4294967296:=rfl;rw[this,Int.fdiv_eq_ediv_of_nonneg _ (by omega)];omega
 simp[ax,eqGuard,binOp,Op.shift,e]
theorem Ek {x:Int} (J:0≤x∧x<65536) (E:0≤y∧y<65536):
  ag x5 Db [.int .u64 x,.int .u64 y] w fun v w'=>v= .tuple #[.int .u64 0,.int .u64 (x*y)]∧Ext w w':=by
 have U:0≤x*y∧x*y<4294967296:=⟨Int.mul_nonneg J.1 E.1,by
  have:x*y≤65535*65535:=Int.mul_le_mul (by omega) (by omega) E.1 (by omega);omega⟩
 refine ap func218 ?_;refine ag.mono (K:=fun v w'=>v= .tuple #[.int .u64 0,.int .u64 (x*y)]∧Ext w w') ?_ ?_
 ·refine ap func261 ?_;rw[r1 (by omega) (by omega),ny (by omega) (by omega),r1 (by omega) (by omega),ny (by omega) (by omega)];simp only[fV,Int.zero_mul,Int.mul_zero];rw[wrap_u64 (x:=x*y) (by omega) (by omega),show W6.wrap 0=0 from rfl,ny (a:=x*y) (by omega) (by omega)];simp only[aB,Int.add_zero];rw[show W6.wrap 0=0 from rfl,r1 (by omega) (by omega),ny (by omega) (by omega)];simp only[fV,aB,Int.zero_mul,Int.mul_zero,Int.add_zero,show W6.wrap 0=0 from rfl];rw[ny (by omega) (by omega)];simp only[fV,aB,Int.add_zero,show W6.wrap 0=0 from rfl];exact⟨trivial,Ext.refl _⟩
 ·rintro _ V _ ⟨rfl,O⟩;rw[a8,ba];exact⟨rfl,O⟩
theorem we {c:Int} (h:ay .i64 w ac [c]) (aM:n<65536):
  ag x5 Co [ac,.int .i64 n] w fun v w'=>Ext w w'∧ ∃ g,w.heap.size≤g∧ak .i64 aj w' g v (u6 n c):=by
 refine ap func134 ?_;refine cX (fun al=>w=al) ?_ ?_
 ·rintro _ rfl;rw[aK an.u h,ft ab.u l3.u,ft ab.u l3.u,wrap_u64 (by simp) (by simp),wrap_u64 (by omega) (by omega)];refine (Ek (x:=([c].length:Int)) (by simp) (by omega)).mono ?_;rintro _ V _ ⟨rfl,ad⟩;rw[a8,ba];have am:(([c].length:Int)*n)=(n:Int):=by simp
  rw[am];refine cX (fun E=>V=E) ?_ ?_
  ·rintro _ rfl;rw[ft l3.u ab.u,wrap_i64 (by omega) (by omega)];refine ih an.u aj.i (by omega) (by omega) ?_;intro g aN aO ao aq;have J:=ad.trans ao;have aP:=ad.size;refine vQ an.u aj.i aq (o:=0) (fun _=>rfl) (by simp) (h.ext J) (nw _ _) ?_;intro aQ au aS ae;have av:=J.then au (by rintro r aw rfl;omega);have st:over (ints .i64 (u6 n 0)) 0 ((ints .i64 [c]).take n)=ints .i64 (u6 (min 1 n) c++u6 (n-min 1 n) 0):=by
    rcases Nat.eq_zero_or_pos n with rfl|O
    ·simp[over]
    ·rw[Z0 (by simp;omega),km (by simp;omega)];have:min 1 n=1:=by omega
     simp[this,ints]
   rw[st] at ae;refine⟨fun t U=>Ext w U∧ ∃ i:Nat,t= .int .i64 i∧i≤n∧(0<n→0<i)∧aa U g aj (ints .i64 (u6 i c++u6 (n-i) 0)),fun t _=>n-(bk t).toNat,
    ⟨av,min 1 n,by simp,by omega,by omega,ae⟩,?_⟩
   rintro _ U ⟨W,i,rfl,hi,aT,X⟩;simp only[fK an.u,aC,af,du];refine⟨fun ax az Y _ _=>?_,fun aU=>?_⟩
   ·have ax:i<n:=by omega
    have ah:=X.ext Y;rw[fu an.u aj.i (l:=i) (h:=n) (m:=n) mb hp ea (by omega) (by omega) (by omega),
     fu an.u aj.i (l:=0) (h:=i) (m:=n) ho mc ea (by omega) (by omega) (by omega)]
    have aA:bM az 1 (.slice (some ⟨g,0,none⟩) n n) n (ints .i64 (u6 i c++u6 (n-i) 0)):=(bz.full ah (by simp <;> omega) (by simp[maxLen] <;> omega)).sl;have O:=aA.part (l:=0) (h:=i) (m:=n) (by omega) (by omega) (by omega) (by omega);have aD:((ints .i64 (u6 i c++u6 (n-i) 0)).drop (0*1)).take ((i-0)*1)=ints .i64 (u6 i c):=by
     simp[ints]
    rw[aD] at O;refine vQ an.u aj.i ah (o:=i) (fun _=>?_) (by simp <;> omega) O (nw _ _) ?_
    ·rw[if_neg (by omega)];simp[W7]
    ·intro aV aE aW ai;have aX:=W.size;have aY:=Y.size;have aF:over (ints .i64 (u6 i c++u6 (n-i) 0)) i ((ints .i64 (u6 i c)).take (n-i))=ints .i64 (u6 (i+min i (n-i)) c++u6 (n-(i+min i (n-i))) 0):=by
      apply Y7;intro j;rw[k1 _ _ _ (by simp[ints] <;> omega)];simp only[ints,j4,List.map_replicate,List.getElem?_append,List.getElem?_take,List.getElem?_replicate,o6,List.length_replicate]
      repeat' split
      all_goals first|rfl|omega
     rw[aF] at ai;have aG:min (i-0) (n-i)=min i (n-i):=by omega
     simp only[aB,aG];have aH:X5.wrap ((i:Int)+((min i (n-i):Nat):Int))=((i+min i (n-i):Nat):Int):=by rw[wrap_i64 (by omega) (by omega)];omega
     rw[aH];refine⟨⟨(W.trans Y).then aE (by rintro r aw rfl;omega),_,rfl,by omega,by omega,ai⟩,?_⟩;simp only[bk,j6];omega
   ·have:i=n:=by omega
    subst this;rw[X9,List.replicate_zero,Y8] at X;exact⟨W,g,by omega,ak.of (n:=i) (bz.full X (by simp) (by simp[maxLen];omega))⟩
  ·intro aJ Z;refine aI (fun v E=>v= .bool false∧V=E) ?_ ?_
   ·rintro _ _ ⟨rfl,rfl⟩;rw[aR];exact Z _ rfl
   ·intro aZ aL;simp only[br,af];refine⟨fun h=>by omega,fun _=>aL _ _ ⟨?_,rfl⟩⟩;rw[decide_eq_false];omega
 ·intro aJ Z;simp only[aC,af];exact⟨fun h=>by omega,fun _=>Z _ rfl⟩
end Go.Proofs.YthjegppepbbojaaGreatDoor
namespace Go.Proofs.YthjegppepbbojaaGreatDoor
open Go Go.Vc Go.RowKit Go.Proofs Go.Proofs.Tryz
set_option maxRecDepth 100000
def leads (v:y0) (r:Nat):Prop:=∃ a n c,v= .slice (some a) n c∧a.block=r
theorem bp {g:Nat} (h:ak k e w g v l) {r:Nat} (E:leads v r):r=g∧g<w.heap.size:=by
 obtain⟨a,n,c,rfl,rfl⟩:=E;obtain⟨_,⟨h,_⟩|⟨cap,cs,h,J,_⟩⟩:=h
 ·cases h
 ·cases h;exact⟨rfl,J.lt⟩
theorem aZ {g:Nat} (h:ak k e w g v l) (J:ad S w w') (E:∀ r,leads v r→¬S r):ak k e w' g v l:=by
 refine⟨h.1,h.2.imp id fun⟨cap,cs,h1,O,V⟩=>⟨cap,cs,h1,O.U J (E g ⟨_,_,_,h1,rfl⟩),V⟩⟩
def cA (w:x1) (g E:Nat) (sv:y0) (ai:List Int) (k:Int) (cs:List Int):Prop:=
 (∃ aJ gs,aa w g ci [sv,.int .i64 k,aJ]∧ak .i64 ab w gs sv ai∧ak .i64 aj w E aJ cs)∧(g≠E∧¬leads sv E∧az ai≤4096)∧bD ai∧cs.length=(az ai).toNat
theorem cA.ext {g:Nat} {k:Int} {cs:List Int} (h:cA w g E sv ai k cs) (J:Ext w w'):cA w' g E sv ai k cs:=by
 obtain⟨⟨aJ,gs,h1,O,U⟩,V⟩:=h;exact⟨⟨aJ,gs,h1.ext J,O.ext J,U.ext J⟩,V⟩
def wg (w:x1) (l:List Int) (k E:Int) (v:y0) (w':x1):Prop:=
 Ext w w'∧
  (¬bD l→v= .tuple #[.pointer none,.int .i64 1])∧
  (bD l→4096<az l→v= .tuple #[.pointer none,.int .i64 5])∧
  (bD l→az l≤4096→¬cv E k→v= .tuple #[.pointer none,.int .i64 3])∧
  (bD l→az l≤4096→cv E k→ ∃ g J sv,v= .tuple #[.pointer (some ⟨g,0,none⟩),.int .i64 0]∧w.heap.size≤g∧w.heap.size≤J∧(∀ r,leads sv r→w.heap.size≤r)∧
   cA w' g J sv l k (u6 (az l).toNat E))
theorem r2 {k ah:Int} (h:ay .i64 w sv l):ag x5 BH [sv,.int .i64 k,.int .i64 ah] w (wg w l k ah):=by
 refine ap func51 ?_;refine (Ej h).mono ?_;rintro v am _ ⟨ax,aK,aL,aM⟩;obtain⟨U,e,rfl,aN,he⟩:∃ (U:y0) (e:Int),v= .tuple #[.agg #[U],.int .i64 e]∧U.oneCell'=true∧
   ((e=1∧¬bD l)∨(e=5∧bD l∧4096<az l)∨(e=0∧bD l∧az l≤4096∧ ∃ g,w.heap.size≤g∧ak .i64 ab am g U l)):=by
  by_cases E:bD l
  ·by_cases ad:az l≤4096
   ·obtain⟨g,U,rfl,h1,aA⟩:=aM E ad;exact⟨U,0,rfl,aA.ls.cells.2,.inr (.inr ⟨rfl,E,ad,g,h1,aA⟩)⟩
   ·exact⟨_,_,aL E (by omega),rfl,.inr (.inl ⟨rfl,E,by omega⟩)⟩
  ·exact⟨_,_,aK E,rfl,.inl ⟨rfl,E⟩⟩
 rw[a8,ba];refine bg bb.i fun bm V bo aO aP=>?_;refine bP (vs:=[U]) bb.i rfl rfl (by intro u hu;simp at hu;subst hu;exact aN) aP ?_;intro aQ aR bq aS;have aB:Ext am aQ:=aO.then aR (by rintro r X rfl;omega);have aC:=ax.trans aB;simp only[bj,af];refine⟨fun aT=>⟨aC,?_⟩,fun br=>?_⟩
 ·rcases he with⟨rfl,ai⟩|⟨rfl,E,ad⟩|⟨rfl,_⟩
  ·exact⟨fun _=>rfl,fun h=>absurd h ai,fun h=>absurd h ai,fun h=>absurd h ai⟩
  ·exact⟨fun h=>absurd E h,fun _ _=>rfl,fun _ h=>by omega,fun _ h=>by omega⟩
  ·exact absurd rfl aT
 ·obtain⟨rfl,E,ad,gs,bt,hm⟩:e=0∧bD l∧az l≤4096∧ ∃ g,w.heap.size≤g∧ak .i64 ab am g U l:=by
   rcases he with⟨rfl,ai⟩|⟨rfl,E,ad⟩|h
   ·omega
   ·omega
   ·exact h
  have bu:=prod_bound E;refine k7.mono ?_;rintro _ bw _ ⟨rfl,ao⟩;have aD:=aC.trans ao;simp only[bJ,ca];refine⟨fun ae=>⟨aD,fun h=>absurd E h,fun _ h=>by omega,fun _ _ _=>rfl,fun _ _ h=>by simp[h] at ae⟩,fun aU=>?_⟩;have aV:cv ah k:=by simpa using aU
  simp only[bX,du];intro aE aq _ _;have aW:=aD.trans aq;have al:=(aB.trans ao).trans aq;have aF:=(aS.ext ao).ext aq;rw[bn bb.p bb.i rfl aF.range,bn bb.p bb.i rfl aF.range];have bx:=ax.size;have bz:=al.size;have aG:((az l).toNat:Int)=az l:=by omega
  have aH:∀ {aa:x1} {Z:y0} {ac:Nat},Ext aE aa→aE.heap.size≤ac→ak .i64 aj aa ac Z (u6 (az l).toNat ah)→
    O x5 (Instr.build ci #[(0,.agg #[U]),(1,.int .i64 k),(2,Z)]) aa fun aX=>aw x5 (Instr.box ci aX) aa fun aY aI=>wg w l k ah (.tuple #[aY,.int .i64 0]) aI:=by
   intro aa Z ac Y aJ X;rw[ct (cs:=#[U,.int .i64 k,Z]) (by
    obtain⟨_,_,_,_,_,rfl,_⟩:=X.ls;obtain⟨_,_,_,_,_,rfl,_⟩:=hm.ls;kernel_rfl)]
   refine a7 fun g aI bA au aZ=>?_;have bB:=Y.size;have a1:leads Z ac:=by
    obtain⟨bC,⟨_,a2⟩|⟨cap,cs,rfl,_⟩⟩:=X
    ·simp at a2;omega
    ·exact⟨_,_,_,rfl,rfl⟩
   have bE:=(bp X a1).2;refine⟨(aW.trans Y).trans au,fun h=>absurd E h,fun _ h=>by omega,fun _ _ h=>absurd aV h,fun _ _ _=>⟨g,ac,U,rfl,by omega,by omega,fun r a6=>?_,⟨Z,gs,aZ,((hm.ext al).ext Y).ext au,X.ext au⟩,⟨by omega,fun bc=>?_,ad⟩,E,by simp⟩⟩
   ·have:=(bp hm a6).1;omega
   ·have:=bp hm bc;omega
  constructor
  ·refine dM an.u aj.i rfl fun bd be bf bh J av=>⟨.inl J,?_⟩;refine (mg ((hm.ext al).ext J).ls E).mono ?_;rintro _ bi _ ⟨rfl,W⟩;refine⟨.inl (J.trans W),?_⟩;rw[←aG];refine (we (av.ext W).ls (by omega)).mono ?_;rintro Z aa _ ⟨Y,ac,aJ,X⟩;have bk:=J.size;have bl:=W.size;exact⟨.inl ((J.trans W).trans Y),aH ((J.trans W).trans Y) (by omega) X⟩
  ·refine (mg (hm.ext al).ls E).mono ?_;rintro _ bf _ ⟨rfl,J⟩;refine⟨.inl J,?_⟩;refine dM an.u aj.i rfl fun bd be bi bh W av=>⟨.inl (J.trans W),?_⟩;rw[←aG];refine (we av.ls (by omega)).mono ?_;rintro Z aa _ ⟨Y,ac,aJ,X⟩;have bk:=J.size;have bl:=W.size;exact⟨.inl ((J.trans W).trans Y),aH ((J.trans W).trans Y) (by omega) X⟩
end Go.Proofs.YthjegppepbbojaaGreatDoor
namespace Go.Proofs.YthjegppepbbojaaGreatDoor
open Go Go.Vc Go.RowKit Go.Proofs Go.Proofs.Tryz
set_option maxRecDepth 100000
theorem k9 {g:Nat} {E:List y0} (h:aa w g e cs) (J:∀ j v,E[j]? =some v→cs[o+j]? =some v):w.rangeAt g o E:=fun j v ac=>h.cell (J j v ac)
theorem wh {g O:Nat} {E:y0} {t:List Int} {k:Int} {cs:List Int} (h:cA w g O sv ai k cs) (U:ay .i64 w E t):
  ag x5 Cq [.pointer (some ⟨g,0,none⟩),E] w fun v w'=>v=i9 ai t∧Ext w w':=by
 obtain⟨⟨aJ,gs,V,hm,X⟩,_,W,_⟩:=h;refine ap func136 ?_;rw[cQ dJ.u];simp only[c6,aR];rw[bB,aF ci.p rfl,bn (cs:=[sv]) bb.p bb.i rfl (k9 V (by
  intro j v ac
  match j,ac with
  |0,ac=>exact ac))]
 refine (wc hm.ls U W).mono ?_;rintro _ Y _ ⟨rfl,J⟩;unfold i9;cases cp ai t 0 with
 |none=>rw[a8,ba];exact⟨rfl,J⟩
 |some n=>rw[a8,ba];exact⟨rfl,J⟩
def mh (ai t cs:List Int):y0:=match cp ai t 0 with
 |some n=>.tuple #[.int .i64 (cs.getD n.toNat 0),.int .i64 0]
 |none=>.tuple #[.int .i64 0,.int .i64 3]
theorem wi {t cs:List Int} {n:Int} (E:bD ai) (J:cs.length=(az ai).toNat) (h:cp ai t 0=some n):n=(n.toNat:Int)∧n.toNat<cs.length:=by
 have:=k8 E.2 h;simp only[Int.zero_mul,Int.zero_add,Int.one_mul] at this;omega
theorem r3 {g U:Nat} {E:y0} {t:List Int} {k:Int} {cs:List Int} (h:cA w g U sv ai k cs) (V:ay .i64 w E t):
  ag x5 Dq [.pointer (some ⟨g,0,none⟩),E] w fun v w'=>v=mh ai t cs∧Ext w w':=by
 refine ap func242 ?_;refine (wh h V).mono ?_;rintro _ ab _ ⟨rfl,J⟩;obtain⟨⟨aJ,gs,W,hm,X⟩,_,Y,Z⟩:=h.ext J;unfold i9 mh;cases hi:cp ai t 0 with
 |none=>
  rw[a8,ba];simp only[bj,af];exact⟨fun _=>⟨trivial,J⟩,fun h=>by simp at h⟩
 |some n=>
  obtain⟨aa,O⟩:=wi Y Z hi;rw[a8,ba];simp only[bj,af];refine⟨fun h=>absurd rfl h,fun _=>?_⟩;rw[aD ci.p 2 W rfl,
   fv aa an.u aj.i (by kernel_rfl) X.ls (x4 O)]
  refine⟨?_,J⟩;rw[u4,x4 O];rfl
def pD (ai t:List Int) (k c:Int) (cs:List Int):List Int:=match cp ai t 0 with
 |some n=>if cv c k then cs.set n.toNat c else cs
 |none=>cs
def wj (ai t:List Int) (k c:Int):Int:=match cp ai t 0 with
 |some _=>if cv c k then 0 else 3
 |none=>3
theorem El {g O:Nat} {ab:y0} {t:List Int} {k c:Int} {cs:List Int} (h:cA w g O sv ai k cs) (al:ay .i64 w ab t):
  ag x5 BJ [.pointer (some ⟨g,0,none⟩),ab,.int .i64 c] w fun v w'=>v= .int .i64 (wj ai t k c)∧ad (fun r=>r=O) w w'∧cA w' g O sv ai k (pD ai t k c cs):=by
 refine ap func53 ?_;refine (wh h al).mono ?_;rintro _ aA _ ⟨rfl,J⟩;have h1:=h.ext J;obtain⟨⟨aJ,gs,E,hm,W⟩,_,X,Y⟩:=h1;unfold i9 wj pD;cases hi:cp ai t 0 with
 |none=>
  rw[a8,ba];simp only[bj,af];exact⟨fun _=>⟨trivial,J.U _,h.ext J⟩,fun h=>by simp at h⟩
 |some n=>
  obtain⟨aB,aC⟩:=wi X Y hi;rw[a8,ba];simp only[bj,af];refine⟨fun h=>absurd rfl h,fun _=>?_⟩;rw[aD ci.p 1 E rfl];refine k7.mono ?_;rintro _ V _ ⟨rfl,Z⟩;have ac:=(h.ext J).ext Z;by_cases ae:cv c k
  ·simp only[ae,decide_true,bJ,Y0,aR,if_true];obtain⟨⟨aJ,gs,E,hm,W⟩,⟨am,ah⟩,X,Y⟩:=ac;have aE:=W;obtain⟨aF,⟨rfl,aG⟩|⟨cap,full,rfl,ao,aq,au,av,ak⟩⟩:=W
   ·omega
   ·rw[aD ci.p 2 E rfl,
     vN (i:=n) an.u aj.i (by omega) (by omega) (fun _=>rfl)]
    refine aY aj.i rfl rfl ao (by omega) ?_;intro aH aa aI aw;refine⟨trivial,((J.trans Z).U _).trans aa,⟨_,gs,E.U aa (by omega),aZ hm aa (fun r ax az=>ah.1 (az▸ax)),?_⟩,⟨am,ah⟩,X,by simp[Y]⟩;refine⟨by simp,.inr ⟨cap,full.set (0+n.toNat*1) (.int .i64 c),?_,aw,by simpa using aq,au,by simpa using av,?_⟩⟩
    ·simp
    ·simp only[X7,V0,V2] at ak ⊢;rw[List.take_set,ak,ints,ints,List.map_set]
  ·simp only[ae,decide_false,bJ,Y9,bq,if_false];exact⟨trivial,(J.trans Z).U _,ac⟩
def bQ (b:Int):Bool:=decide (b=32∨b=9∨b=10∨b=13)
def bi (b:Int):Bool:=decide (33≤b∧b≤126)
def la:Nat→List Int→List (List Int)×Bool
 |0,_=>([],true)
 |n+1,p=>
  match p.dropWhile bQ with
  |[]=>([],true)
  |b::q=>
   if bi b then
    match (b::q).dropWhile bi with
    |[]=>([(b::q).takeWhile bi],true)
    |c::r=>if bQ c then (((b::q).takeWhile bi)::(la n (c::r)).1,(la n (c::r)).2) else ([],false)
   else ([],false)
def lex (p:List Int):List (List Int)×Bool:=la (p.length+1) p
theorem mi (f:Int→Bool):∀ (l:List Int),(l.dropWhile f).length≤l.length
 |[]=>r9 _
 |x::l=>by
  rw[List.dropWhile_cons];split
  ·exact Z3 (mi f l) (Nat.le_succ _)
  ·exact r9 _
theorem pE {f:Int→Bool} {x:Int} (h:f x=true):((x::l).dropWhile f).length≤l.length:=by
 rw[List.dropWhile_cons,if_pos h];exact mi f l
theorem wk:∀ {n m:Nat} {p:List Int},p.length<n→p.length<m→la n p=la m p
 |n+1,m+1,p,V,hm=>by
  unfold la;have h1:=mi bQ p;cases O:p.dropWhile bQ with
  |nil=>rfl
  |cons b q=>
   rw[O] at h1;simp only;by_cases E:bi b=true
   ·rw[if_pos E,if_pos E];have J:=pE (l:=q) E;cases U:(b::q).dropWhile bi with
    |nil=>rfl
    |cons c r=>
     rw[U] at J;simp only[n9] at h1 J;simp only;rw[wk (n:=n) (m:=m) (p:=c::r) (by rw[n9];omega) (by rw[n9];omega)]
   ·rw[if_neg E,if_neg E]
theorem ik (p:List Int):lex p=match p.dropWhile bQ with
  |[]=>([],true)
  |b::q=>
   if bi b then
    match (b::q).dropWhile bi with
    |[]=>([(b::q).takeWhile bi],true)
    |c::r=>if bQ c then (((b::q).takeWhile bi)::(lex (c::r)).1,(lex (c::r)).2) else ([],false)
   else ([],false):=by
 unfold lex
 conv=>lhs;unfold la
 have h1:=mi bQ p;cases O:p.dropWhile bQ with
 |nil=>rfl
 |cons b q=>
  rw[O] at h1;simp only;by_cases E:bi b=true
  ·rw[if_pos E,if_pos E];have J:=pE (l:=q) E;cases U:(b::q).dropWhile bi with
   |nil=>rfl
   |cons c r=>
    rw[U] at J;simp only[n9] at h1 J;simp only;rw[wk (n:=p.length) (m:=(c::r).length+1) (p:=c::r) (by rw[n9];omega) (by omega)]
  ·rw[if_neg E,if_neg E]
theorem mj:∀ (n:Nat) (p:List Int),p.length≤n→(lex p).1.length≤p.length
 |n,p,W=>by
  rw[ik];have h1:=mi bQ p;cases U:p.dropWhile bQ with
  |nil=>simp
  |cons b q=>
   rw[U] at h1;simp only;by_cases E:bi b=true
   ·rw[if_pos E];have J:=pE (l:=q) E;cases V:(b::q).dropWhile bi with
    |nil=>simp only[n9,List.length_nil] at h1 ⊢;omega
    |cons c r=>
     rw[V] at J;simp only[n9] at h1 J;simp only;by_cases O:bQ c=true
     ·rw[if_pos O]
      match n with
      |0=>omega
      |n+1=>
       have:=mj n (c::r) (by rw[n9];omega);simp only[n9] at this ⊢;omega
     ·rw[if_neg O];simp
   ·rw[if_neg E];simp
theorem pF:∀ (n:Nat) (p:List Int),p.length≤n→ ∀ w∈(lex p).1,w≠[]∧(∀ b∈w,bi b=true)∧w.length≤p.length
 |n,p,Z,w,hw=>by
  rw[ik] at hw;have h1:=mi bQ p;cases O:p.dropWhile bQ with
  |nil=>rw[O] at hw;simp at hw
  |cons b q=>
   rw[O] at h1 hw;simp only at hw;have Y:(b::q).length≤p.length:=h1;by_cases E:bi b=true
   ·rw[if_pos E] at hw;have U:=pE (l:=q) E;have V:(b::q).takeWhile bi≠[]∧(∀ x∈(b::q).takeWhile bi,bi x=true)∧((b::q).takeWhile bi).length≤p.length:=
     ⟨by rw[List.takeWhile_cons,if_pos E];simp,fun x J=>List.all_takeWhile (l:=b::q) (p:=bi) |> List.all_eq_true.1 |> fun h=>h x J,Z3 (List.takeWhile_sublist _).length_le Y⟩
    cases W:(b::q).dropWhile bi with
    |nil=>
     rw[W] at hw;simp only[p9] at hw;subst hw;exact V
    |cons c r=>
     rw[W] at U hw;simp only[n9] at h1 U;simp only at hw;by_cases X:bQ c=true
     ·rw[if_pos X] at hw;rcases U4.1 hw with rfl|hw
      ·exact V
      ·match n with
       |0=>omega
       |n+1=>
        have:=pF n (c::r) (by rw[n9];omega) w hw;exact⟨this.1,this.2.1,Z3 this.2.2 (by rw[n9];omega)⟩
     ·rw[if_neg X] at hw;simp at hw
   ·rw[if_neg E] at hw;simp at hw
def ah:Int:=4611686018427387904
def e4 (b:Int):Bool:=decide (48≤b∧b≤57)
def dT (n b:Int):Int:=min ah (10*n+(b-48))
def il:List Int→Option Int
 |[]=>none
 |l=>if l.all e4 then some (l.foldl dT 0) else none
def e5:List Int→Option Int
 |45::l=>(il l).map fun n=>-n
 |l=>il l
theorem Em {n b:Int} (J:0≤n) (E:e4 b=true):0≤dT n b∧dT n b≤ah:=by
 have E:=of_decide_eq_true E;unfold dT ah;omega
theorem pG:∀ {l:List Int} {n:Int},l.all e4=true→0≤n∧n≤ah→0≤l.foldl dT n∧l.foldl dT n≤ah
 |[],n,_,E=>E
 |b::l,n,h,E=>by
  rw[List.all_cons,W0] at h;exact pG (l:=l) h.2 (Em E.1 h.1)
structure aq where
 toks:List (List Int)
 told:Int
 big:Bool
 shared:List (List Int×List (List Int×Int))
deriving DecidableEq
def c0 (s:aq):Option (List Int×aq):=match s.toks with
 |[]=>none
 |w::l=>some (w,{s with toks:=l})
def aS (lo hi:Int) (s:aq):Option (Int×aq):=match c0 s with
 |none=>none
 |some (w,s)=>match e5 w with
  |none=>none
  |some n=>if lo≤n∧n≤hi then some (n,s) else none
def aM (b:Bool) (s:aq):aq:={s with big:=s.big||b}
def bZ {α:Type} (f:List α→aq→Option (α×aq)):Nat→List α→aq→Option (List α×aq)
 |0,acc,s=>some (acc,s)
 |n+1,acc,s=>match f acc s with
  |none=>none
  |some (a,s)=>bZ f n (acc++[a]) s
def dN (n:Int) (E:Nat) (s:aq):Option (List Int×aq):=bZ (fun acc s=>match aS 0 (n-1) s with
 |none=>none
 |some (v,s)=>if v∈acc then none else some (v,s)) E [] s
def gK:List Int→List Int→aq→Option (List Int×aq)
 |[],acc,s=>some (acc,s)
 |k::l,acc,s=>match aS 0 (k-1) s with
  |none=>none
  |some (v,s)=>gK l (acc++[v]) s
def dd (sizes:List Int) (acc:List (List Int×Int)) (s:aq):Option ((List Int×Int)×aq):=match gK sizes [] s with
 |none=>none
 |some (t,s)=>match aS 0 ah s with
  |none=>none
  |some (c,s)=>if t∈acc.map (·.1) then none else some ((t,c),s)
def cR (sizes:List Int) (s:aq):Option (List (List Int×Int)×aq):=match aS (-ah) ah s with
 |none=>none
 |some (n,s)=>
  if n<0 then match s.shared[(-n-1).toNat]? with
   |none=>none
   |some (z,l)=>if z=sizes then some (l,s) else none
  else bZ (dd sizes) n.toNat [] (aM (decide (16384<min (s.told+n) ah)) {s with told:=min (s.told+n) ah})
def cI (sizes:List Int):Bool:=decide (4096<az (sizes.map fun k=>min k 4097))
structure bG where
 scope:List Int
 sizes:List Int
 other:Int
 lines:List (List Int×Int)
deriving DecidableEq
def ck (all:List Int) (s:aq):Option (bG×aq):=match aS (-ah) ah s with
 |none=>none
 |some (a,s)=>match dN all.length a.natAbs s with
  |none=>none
  |some (scope,s)=>
   let sizes:=scope.map fun v=>all.getD v.toNat 0
   match aS 0 ah (aM (decide (6<a.natAbs)||cI sizes) s) with
   |none=>none
   |some (other,s)=>match cR sizes s with
    |none=>none
    |some (lines,s)=>some (⟨scope,sizes,other,lines⟩,if a<0 then {s with shared:=s.shared++[(sizes,lines)]} else s)
def eb (most:Int) (_:List Int) (s:aq):Option (Int×aq):=match aS 1 most s with
 |none=>none
 |some (z,s)=>some (z,aM (decide (32<z)) s)
structure bu where
 name:List Int
 k:Int
 sizes:List Int
 funs:List bG
deriving DecidableEq
def fw (s:aq):Option (bu×aq):=match c0 s with
 |none=>none
 |some (name,s)=>match aS 1 ah (aM (decide (64<name.length)) s) with
  |none=>none
  |some (n,s)=>match aS 1 ah (aM (decide (64<n)) s) with
   |none=>none
   |some (most,s)=>match aS 0 ah s with
    |none=>none
    |some (E,s)=>match aS 1 ah (aM (decide (256<E)) s) with
     |none=>none
     |some (k,s)=>match bZ (eb most) n.toNat [] (aM (decide (2147483648<k)) s) with
      |none=>none
      |some (sizes,s)=>match bZ (fun _ s=>ck sizes s) E.toNat [] s with
       |none=>none
       |some (funs,s)=>some (⟨name,k,sizes,funs⟩,s)
def eA (p:List Int):Option bu:=if 65536<p.length then none else match fw ⟨(lex p).1,0,false,[]⟩ with
 |none=>none
 |some (f,s)=>if s.toks=[]∧(lex p).2=true∧s.big=false then some f else none
def kt (n:Int) (E:Bool) (v:Int):Prop:=0≤n∧n≤4611686018427387909∧(E=true→v=ah)∧(E=false→v=min ah n)
theorem En {n b v:Int} {E:Bool} (h:kt n E v) (W:48≤b∧b≤57):
  kt (if E=true∨461168601842738790<n then n else 10*n+(b-48)) (E||decide (461168601842738790<n)) (dT v b):=by
 obtain⟨h1,O,U,V⟩:=h;unfold dT kt ah at*;cases E with
 |true=>
  have:=U rfl;rw[if_pos (.inl rfl)];exact⟨h1,O,fun _=>by omega,fun h=>by cases h⟩
 |false=>
  have:=V rfl;by_cases J:461168601842738790<n
  ·rw[if_pos (.inr J),decide_eq_true J];exact⟨h1,O,fun _=>by omega,fun h=>by cases h⟩
  ·rw[if_neg (by simp[J]),decide_eq_false J];exact⟨by omega,by omega,(fun h=>by cases h),fun _=>by omega⟩
theorem Eo:kt 0 false 0:=by unfold kt ah;exact⟨by omega,by omega,(fun h=>by cases h),fun _=>by omega⟩
theorem Ep {n v:Int} {E:Bool} (h:kt n E v):v=if E=true∨4611686018427387904<n then 4611686018427387904 else n:=by
 obtain⟨h1,V,O,U⟩:=h;unfold ah at*;cases E with
 |true=>rw[if_pos (.inl rfl)];exact O rfl
 |false=>
  have:=U rfl;by_cases J:4611686018427387904<n
  ·rw[if_pos (.inr J)];omega
  ·rw[if_neg (by simp[J])];omega
structure Cell where
 v:Int
 st:Nat
structure ja where
 i:Nat
 c:Cell
structure pH where
 olds:Nat
 cells:Nat
 st:Nat
structure aH where
 cells:List Cell
 olds:List ja
 marks:List pH
 ht:Nat
def aH.bH (t:aH):List Int:=t.cells.map (·.v)
def aH.set (t:aH) (i:Nat) (x:Int):aH:=match t.cells[i]? with
 |none=>t
 |some c=>match t.marks.getLast? with
  |none=>{t with cells:=t.cells.set i ⟨x,c.st⟩}
  |some m=>if c.st<m.st∧i<m.cells then {t with olds:=t.olds++[⟨i,c⟩],cells:=t.cells.set i ⟨x,m.st⟩} else {t with cells:=t.cells.set i ⟨x,c.st⟩}
def aH.grow (t:aH) (n:Nat):aH:={t with cells:=t.cells++u6 n ⟨0,0⟩}
def back (os:List ja) (cs:List Cell):List Cell:=os.foldr (fun o cs=>cs.set o.i o.c) cs
theorem nz:∀ (os:List ja) (cs:List Cell),(back os cs).length=cs.length
 |[],_=>rfl
 |o::os,cs=>by
  have:=nz os cs;show ((back os cs).set o.i o.c).length=_;rw[X7,this]
theorem back_append (a b:List ja) (cs:List Cell):back (a++b) cs=back a (back b cs):=by unfold back;rw[List.foldr_append]
theorem r4:∀ {os:List ja} {cs:List Cell} {n:Nat},(back os cs).take n=back (os.filter fun o=>decide (o.i<n)) (cs.take n)
 |[],cs,n=>rfl
 |o::os,cs,n=>by
  show ((back os cs).set o.i o.c).take n=_;by_cases h:o.i<n
  ·rw[List.filter_cons_of_pos (by simpa using h),List.take_set,r4];rfl
  ·rw[List.filter_cons_of_neg (by simpa using h),List.take_set_of_le (by omega),r4]
theorem wm {os:List ja} {cs:List Cell} (h:∀ o∈os,o.i<n):(back os cs).take n=back os (cs.take n):=by
 rw[r4,List.filter_eq_self.2 fun o E=>by simpa using h o E]
theorem wn:∀ {os:List ja} {cs E:List Cell} {i:Nat},cs.length=E.length→(∃ o∈os,o.i=i)→(back os cs)[i]? =(back os E)[i]?
 |[],_,_,_,_,⟨_,h,_⟩=>by cases h
 |o::os,cs,E,i,O,hm=>by
  show ((back os cs).set o.i o.c)[i]? =((back os E).set o.i o.c)[i]?;rw[Y6,Y6];by_cases h:o.i=i
  ·rw[if_pos h,if_pos h,nz,nz,O]
  ·rw[if_neg h,if_neg h];obtain⟨x,J,he⟩:=hm;rcases U4.1 J with rfl|J
   ·exact absurd he h
   ·exact wn O ⟨x,J,he⟩
theorem wo:∀ {os:List ja} {cs E:List Cell} {i:Nat},cs[i]? =E[i]? →cs.length=E.length→(back os cs)[i]? =(back os E)[i]?
 |[],_,_,_,h,_=>h
 |o::os,cs,E,i,h,J=>by
  show ((back os cs).set o.i o.c)[i]? =((back os E).set o.i o.c)[i]?;rw[Y6,Y6,nz,nz,J,wo h J]
def hP:aH→List aH→Prop
 |t,[]=>t.marks=[]∧t.olds=[]∧ ∀ c∈t.cells,c.st≤t.ht
 |t,s::h=>hP s h∧(∀ c∈t.cells,c.st≤t.ht)∧ ∃ m new,t.marks=s.marks++[m]∧m.olds=s.olds.length∧m.cells=s.cells.length∧t.olds=s.olds++new∧m.cells≤t.cells.length∧(back new t.cells).take m.cells=s.cells∧
   (∀ c∈s.cells,c.st<m.st)∧(∀ c∈t.cells,c.st≤m.st)∧(∀ (i:Nat) c,i<m.cells→t.cells[i]? =some c→c.st=m.st→ ∃ o∈new,o.i=i)∧(∀ o∈new,o.i<m.cells)∧m.st≤t.ht∧s.ht≤t.ht
theorem hP.grow {h:List aH} {t:aH} (J:hP t h):hP (t.grow n) h:=by
 cases h with
 |nil=>
  refine⟨J.1,J.2.1,fun c E=>?_⟩;rcases p8.1 E with E|E
  ·exact J.2.2 c E
  ·rw[(List.mem_replicate.1 E).2];exact Z5 _
 |cons s h=>
  obtain⟨h1,V,m,new,W,X,a3,a4,a5,Y,Z,aa,a9,O,ab,ac⟩:=J;have U:∀ {b:Nat},(∀ c∈t.cells,c.st≤b)→ ∀ c∈(t.grow n).cells,c.st≤b:=fun ad c E=>by
   rcases p8.1 E with E|E
   ·exact ad c E
   ·rw[(List.mem_replicate.1 E).2];exact Z5 _
  refine⟨h1,U V,m,new,W,X,a3,a4,by show m.cells≤(t.cells++_).length;rw[u7];omega,?_,Z,U aa,fun i c hi E he=>?_,O,ab,ac⟩
  ·show (back new (t.cells++_)).take m.cells=_;rw[wm O,List.take_append_of_le_length a5,←wm O];exact Y
  ·have E:(t.cells++u6 n ⟨0,0⟩)[i]? =some c:=E;rw[Z4 (by omega)] at E;exact a9 i c hi E he
theorem Er {s:aH} {m:pH} {l:List pH} (h:l=s.marks++[m]):l.getLast? =some m:=by rw[h,List.getLast?_concat]
theorem hP.set {h:List aH} {t:aH} {i:Nat} {x:Int} (ab:hP t h):hP (t.set i x) h:=by
 unfold aH.set;cases V:t.cells[i]? with
 |none=>exact ab
 |some c=>
  have af:=(x3.1 V).1;have Y:=x2 V;have W:∀ {b st:Nat},(∀ c∈t.cells,c.st≤b)→st≤b→ ∀ d∈t.cells.set i ⟨x,st⟩,d.st≤b:=fun am ac d E=>by
   rcases W3 E with E|rfl
   ·exact am d E
   ·exact ac
  cases h with
  |nil=>
   obtain⟨h1,X,ag⟩:=ab;simp only[h1,List.getLast?_nil];exact⟨rfl,X,W ag (ag c Y)⟩
  |cons s h=>
   obtain⟨h1,X,m,new,ad,ah,a3,a4,a5,ai,aj,Z,a9,ak,ae,al⟩:=ab;simp only[Er ad];by_cases aa:c.st<m.st∧i<m.cells
   ·rw[if_pos aa];refine⟨h1,W X ae,m,new++[⟨i,c⟩],ad,ah,a3,by show t.olds++_=_;rw[a4,Y2],by show m.cells≤(t.cells.set i _).length;rw[X7];exact a5,?_,aj,W Z (r9 _),fun j d J E he=>?_,fun o U=>?_,ae,al⟩
    ·show (back (new++[⟨i,c⟩]) (t.cells.set i _)).take m.cells=_;rw[back_append];have:back [⟨i,c⟩] (t.cells.set i ⟨x,m.st⟩)=t.cells:=by
      show (t.cells.set i _).set i c=_;rw[List.set_set];refine Y7 fun j=>?_;rw[Y6];by_cases J:i=j
      ·subst J;rw[if_pos rfl,if_pos af,V]
      ·rw[if_neg J]
     rw[this];exact ai
    ·have E:(t.cells.set i ⟨x,m.st⟩)[j]? =some d:=E;by_cases O:i=j
     ·exact⟨⟨i,c⟩,by simp,O⟩
     ·rw[Y6,if_neg O] at E;obtain⟨o,U,he⟩:=a9 j d J E he;exact⟨o,List.mem_append_left _ U,he⟩
    ·rcases p8.1 U with U|U
     ·exact ak o U
     ·rw[p9.1 U];exact aa.2
   ·rw[if_neg aa];refine⟨h1,W X (X c Y),m,new,ad,ah,a3,a4,by show m.cells≤(t.cells.set i _).length;rw[X7];exact a5,?_,aj,W Z (Z c Y),fun j d J E he=>?_,ak,ae,al⟩
    ·rw[←ai];show (back new (t.cells.set i _)).take m.cells=_;refine Y7 fun j=>?_;by_cases J:j<m.cells
     ·rw[c7 J,c7 J];by_cases O:i=j
      ·subst O;have ac:c.st=m.st:=by
        have:=Z c Y;have:¬c.st<m.st:=fun an=>aa ⟨an,J⟩;omega
       exact wn (by rw[X7]) (a9 i c J V ac)
      ·exact wo (by rw[Y6,if_neg O]) (by rw[X7])
     ·rw[c8 (by rw[o6];omega),c8 (by rw[o6];omega)]
    ·have E:(t.cells.set i ⟨x,c.st⟩)[j]? =some d:=E;by_cases O:i=j
     ·subst O;rw[Y6,if_pos rfl,if_pos af] at E;cases E;exact a9 i c J V he
     ·rw[Y6,if_neg O] at E;exact a9 j d J E he
theorem aH.pI {t:aH} {i:Nat} {x:Int}:(t.set i x).bH=t.bH.set i x:=by
 unfold aH.set aH.bH;cases E:t.cells[i]? with
 |none=>rw[List.set_eq_of_length_le (by rw[r8];exact List.getElem?_eq_none_iff.1 E)]
 |some c=>
  simp only;cases t.marks.getLast? with
  |none=>simp only;rw[List.map_set]
  |some m=>simp only;split <;> rw[List.map_set]
theorem aH.Es {t:aH}:(t.grow n).bH=t.bH++u6 n 0:=by
 unfold aH.grow aH.bH;rw[j4,List.map_replicate]
end Go.Proofs.YthjegppepbbojaaGreatDoor
namespace Go.Vc
open Go Go.RowKit
section
variable {P:Y3} {w:x1} {m:Bool} {S R:am}
theorem pJ {b k l:Nat} {low high:Option y0} (U:P.underlying t=some (.slice e)) (hi:aA P e k b z)
  (ac:bM w k v n cs) (h1:jK low l) (V:jL high n h) (E:l≤h) (W:h≤n) (X:∀ J,bM w k J (h-l) ((cs.drop (l*k)).take ((h-l)*k))→K J):
  O P (X4 t v low high none) w K:=by
 have Y:=ac;obtain⟨_,Z,o,base,cap,rfl,aa,_⟩:=ac;rw[fu U hi h1 V ea E (by omega) (r9 _)];exact X _ (bM.part Y E W (by omega) (r9 _))
theorem Et {J:o4} {b i:Nat} (U:y=(i:Int)) (V:P.underlying t=some (.slice e)) (hi:aA P e 1 b z)
  (h:ay k w v l) (W:i≤l.length) (X:∀ E,ay k w E (l.drop i)→K E):O P (X4 t v (some (.int J y)) none none) w K:=by
 refine pJ V hi h (kZ i y U) hp W (r9 _) fun E h'=>X E (ay.of (n:=l.length-i) ?_);have Y:((ints k l).drop (i*1)).take ((l.length-i)*1)=ints k (l.drop i):=by
  rw[Z0 (by simp),V2,ints,←List.map_drop]
 rw[Y] at h';exact h'
theorem Eu {J:o4} {b i:Nat} (U:y=(i:Int)) (V:P.underlying t=some (.slice e)) (hi:aA P e 1 b z)
  (h:ay k w v l) (W:i≤l.length) (X:∀ E,ay k w E (l.take i)→K E):O P (X4 t v none (some (.int J y)) none) w K:=by
 refine pJ V hi h ho (k0 i y U) (Z5 _) W fun E h'=>X E (ay.of (n:=i) ?_);have Y:((ints k l).drop (0*1)).take ((i-0)*1)=ints k (l.take i):=by
  simp[ints,List.map_take]
 rw[Y] at h';exact h'
theorem nA {b:Nat} {parts:Array (Nat×y0)} {K:y0→x1→Prop} (E:P.underlying t=some (.slice e)) (hi:aA P e 1 b (.int .i64 0)) (X:n≤100000) (O:l.length=n)
  (ae:Instr.fill (fun j=>some (j*1,1)) ((Array.range (n*1)).map ((if n*1=0 then #[] else (X0 .i64 0).cells)[·% (if n*1=0 then #[] else (X0 .i64 0).cells).size]!)) parts.toList=some (ints .i64 l).toArray)
  (U:∀ v g w',g=w.heap.size→Ext w w'→ak .i64 e w' g v l→K v w'):aw P (b6 t n parts) w K:=
 hN E hi (by omega) ae fun g w' V J W=>U _ g w' V J (ak.of (n:=n) (bz.full (by simpa using W) (by simp[O]) (by simp[maxLen];omega)))
end
end Go.Vc
