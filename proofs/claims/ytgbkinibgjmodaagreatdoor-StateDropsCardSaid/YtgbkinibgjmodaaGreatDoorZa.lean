/- own texts, made small by a tool (wip/ holds them as they were written): no statement of the seat. -/
import Derived.RangeFuncNested
import Derived.RangeFuncLeaves
import Derived.OrdersIn
import Derived.KernelRfl
import Derived.Deep.Upon
import Derived.RangeFuncBound
import Derived.Deep.MidRow
import Derived.Laws.Cover3
import Derived.Laws.Pointers
import Derived.Laws.StructEq
import Derived.Laws.Tables
import Derived.Below
import Derived.Laws.MakeOwn
import Derived.Lib.Overlaps
import Derived.Lib.AppendZerosOnto
import Derived.Lib.SliceRun
import Derived.OpenShut
import Derived.Lib.ConvBytes
import Derived.Laws.BytesArg
import Derived.Laws.Concat
import Derived.MapKept
import Derived.Carry
import Derived.WideKeyArr
import Derived.WideKeyMaps
import Derived.Laws.IdiomRangeMap
import Derived.Shelf.SlSortCmp.NoneTotal
import Derived.Shelf.SlSortCmp.WholeK
import Derived.Ground.SlsfProg
import Derived.WideKeyEntry
import Derived.WalkKit
import Derived.Test.YtgbkinibgjmodaaGreatDoorProg
import Derived.Test.YtgbkinibgjmodaaGreatDoorChecked
set_option linter.unusedVariables false
set_option linter.unusedSimpArgs false
set_option linter.unnecessarySimpa false
open Array renaming getElem?_eq_some_iff→l7,getElem?_toList→U7
open BitVec renaming ofInt→W6
open Bool renaming not_true→Y1,not_false→X0,eq_iff_iff→X8,and_eq_true→U1,or_eq_false_iff→U5
open Decidable renaming not_not→X2
open Go renaming Value→x4,World→x5,Builtin→u7,TypeId→o6,IntKind→o8,Program→X1,Oper→U8
open Go.Addr renaming add_mid→V9
open Go.Builtin renaming len_→u6,append_→r9
open Go.Instr renaming loadAt→x1,fieldAt→x2,indexAt→x7,storeAt→x8,extract→u5,buildSlice→u9,alloc→n9,sliceAt→c7,build→Z0,box→Z2,index→Y0,lookup→V3,makeSlice→V8
open Go.IntKind renaming i64→Y9,u64→V0
open Go.Op renaming unary→Z5
open Go.Proofs.Tryz renaming prog→y0
open Go.Result renaming andThen→Y4
open Go.Sem renaming run_bind→Y2,run_pure→Y6
open Go.Sort renaming Holds→U4
open Go.Value renaming int→X4
open Int renaming toNat_natCast→c9
open List renaming getElem?_eq_getElem→x3,getElem?_eq_some_iff→x6,mem_of_getElem?→u4,getElem?_map→r8,getD_eq_getElem?_getD→p8,replicate→p9,take_add_one→o3,length_map→o4,length_append→o5,mem_singleton→o9,mem_append→n0,take_length→l5,length_take→l6,mem_map→l9,take_of_length_le→j0,map_append→j4,eq_nil_of_length_eq_zero→j9,length_cons→c8,getElem?_append_left→Z1,getElem?_append_right→Z4,getElem?_take_of_lt→Z6,getElem?_eq_none→Z8,mem_iff_getElem?→Y5,getElem?_set→Y7,drop_eq_getElem_cons→Y8,flatMap_cons→X5,ext_getElem?→X6,range→X7,length_set→W0,pairwise_iff_getElem→W5,length→W8,append_assoc→W9,mem_or_eq_of_mem_set→V1,set_append_right→V2,length_eq_one_iff→V6,getElem?_set_self→V7,append_nil→U3,mem_cons→U6,length_singleton→T0,getElem_mem→T1
open Nat renaming le_refl→o7,zero_le→Z9,le_trans→Y3,mul_le_mul_right→X3,sub_self→W3,add_mul→W7,zero_add→V5,mul_one→U9
open Option renaming toList_some→j5,some→j6,map_some→b6,isNone_some→b8,map_eq_some_iff→Z3,map→X9,getD_some→V4
open Option.some renaming inj→b9,injEq→Z7
open Prod.mk renaming injEq→U2
namespace Go.Vc
open Go Go.RowKit
def fw:Obj→Bool
 | .loop _=>false
 | .deferred _=>false
 | .mapIter ..=>false
 |_=>true
def book:Obj→Bool
 | .loop _=>true
 | .deferred _=>true
 |_=>false
theorem zz {o:Obj} (h:book o=true):fw o=false:=by cases o <;> first|rfl|cases h
def sa:Obj→Bool
 | .mapIter ..=>true
 |_=>false
theorem zA {o:Obj} (h:sa o=true):fw o=false:=by cases o <;> first|rfl|cases h
structure Ext (w w':x5):Prop where
 size:w.heap.size≤w'.heap.size
 bw:∀ (r:Nat) (o:Obj),w.heap[r]? =some o→fw o=true→w'.heap[r]? =some o
theorem Ext.refl (w:x5):Ext w w:=⟨o7 _,fun _ _ h _=>h⟩
theorem Ext.trans {a b c:x5} (h:Ext a b) (k:Ext b c):Ext a c:=
 ⟨Y3 h.size k.size,fun r o I E=>k.bw r o (h.bw r o I E) E⟩
def ix (w w':x5):Prop:=w'.tape=w.tape∧w.drawn≤w'.drawn
theorem ix.iy {w w':x5} (h:w'.tape=w.tape:=by rfl) (k:w'.drawn=w.drawn:=by rfl):ix w w':=⟨h,Nat.le_of_eq k.symm⟩
theorem ix.trans {a b c:x5} (k:ix b c) (h:ix a b):ix a c:=⟨k.1.trans h.1,Y3 h.2 k.2⟩
structure cP (w w':x5):Prop where
 os:w'.os=w.os
 tape:ix w w'
 output:w'.output=w.output
 size:w.heap.size≤w'.heap.size
 bw:∀ (r:Nat) (o:Obj),w.heap[r]? =some o→fw o=false→w'.heap[r]? =some o
structure cm (n:Nat) (w w':x5):Prop where
 os:w'.os=w.os
 tape:ix w w'
 output:w'.output=w.output
 size:w.heap.size≤w'.heap.size
 bw:∀ (r:Nat) (o:Obj),w.heap[r]? =some o→book o=true→w'.heap[r]? =some o
 old:∀ (r:Nat) (o:Obj),r<n→w.heap[r]? =some o→fw o=false→w'.heap[r]? =some o
theorem cP.b {w w':x5} {n:Nat} (h:cP w w'):cm n w w':=⟨h.os,h.tape,h.output,h.size,fun r o E I=>h.bw r o E (zz I),fun r o _ E I=>h.bw r o E I⟩
theorem cm.refl (n:Nat) (w:x5):cm n w w:=⟨rfl,.iy,rfl,o7 _,fun _ _ h _=>h,fun _ _ _ h _=>h⟩
theorem cm.trans {n:Nat} {a b c:x5} (h:cm n a b) (k:cm n b c):cm n a c:=
 ⟨k.os.trans h.os,k.tape.trans h.tape,k.output.trans h.output,Y3 h.size k.size,fun r o I E=>k.bw r o (h.bw r o I E) E,fun r o J I E=>k.old r o J (h.old r o J I E) E⟩
theorem cm.step {n m:Nat} {a b c:x5} (h:cm n a b) (k:cm m b c) (hm:a.heap.size≤m):cm n a c:=
 ⟨k.os.trans h.os,k.tape.trans h.tape,k.output.trans h.output,Y3 h.size k.size,fun r o I E=>k.bw r o (h.bw r o I E) E,
  fun r o J I E=>k.old r o (Nat.lt_of_lt_of_le (l7.1 I).1 hm) (h.old r o J I E) E⟩
theorem cm.db {n:Nat} {w w':x5} (h:cm n w w') (I:w.heap.size≤n):cP w w':=
 ⟨h.os,h.tape,h.output,h.size,fun r o E J=>h.old r o (Nat.lt_of_lt_of_le (l7.1 E).1 I) E J⟩
def eM (w w':x5):Prop:=∀ (r:Nat) (o:Obj),w.heap[r]? =some o→sa o=true→w'.heap[r]? =some o
theorem eM.refl (w:x5):eM w w:=fun _ _ h _=>h
theorem eM.trans {a b c:x5} (h:eM a b) (k:eM b c):eM a c:=fun r o I E=>k r o (h r o I E) E
theorem cP.kD {w w':x5} (h:cP w w'):eM w w':=fun r o E I=>h.bw r o E (zA I)
abbrev ez:=Bool×Nat
theorem cP.refl (w:x5):cP w w:=⟨rfl,.iy,rfl,o7 _,fun _ _ h _=>h⟩
theorem cP.trans {a b c:x5} (h:cP a b) (k:cP b c):cP a c:=
 ⟨k.os.trans h.os,k.tape.trans h.tape,k.output.trans h.output,Y3 h.size k.size,fun r o I E=>k.bw r o (h.bw r o I E) E⟩
theorem qj (w:x5) (n:Nat):Ext w {w with drawn:=n}:=⟨o7 _,fun _ _ h _=>h⟩
theorem nv (w:x5) (n:Nat) (h:w.drawn≤n):cP w {w with drawn:=n}:=⟨rfl,⟨rfl,h⟩,rfl,o7 _,fun _ _ h _=>h⟩
theorem nw (w:x5) (o:Obj):Ext w {w with heap:=w.heap.push o}:=
 ⟨by simp,fun r o' h _=>by
  have E:=(l7.1 h).1;simp only[Array.getElem?_push];rw[if_neg (by omega)];exact h⟩
theorem nx (w:x5) (o:Obj):cP w {w with heap:=w.heap.push o}:=
 ⟨rfl,.iy,rfl,by simp,fun r o' h _=>by
  have E:=(l7.1 h).1;simp only[Array.getElem?_push];rw[if_neg (by omega)];exact h⟩
inductive ec where
 |v (x:x4)
 |b (c:Bool)
 |u
def ec.val:ec→x4
 | .v x=>x
 | .b c=>.bool c
 | .u=>undef
def ec.ofConst:x4→ec
 | .bool c=>.b c
 |x=>.v x
theorem ec.zB (x:x4):(ec.ofConst x).val=x:=by cases x <;> rfl
abbrev Env:=List (Nat×ec)
def look:Env→Nat→Option ec
 |[],_=>none
 |(s,x)::r,t=>bif Nat.beq s t then some x else look r t
def dK (e:Env):Operand→Option ec
 | .tmp t=>look e t
 | .const x=>some (ec.ofConst x)
 | .global g=>some (.v (.pointer (some ⟨g,0,none⟩)))
 | .func f=>some (.v (.func (.func f) #[] #[]))
def cu (e:Env) (x:Operand):x4:=
 match dK e x with
 |some y=>y.val
 |none=>undef
def known (e:Env):List Operand→Bool
 |[]=>true
 |x::r=>(dK e x).isSome&&known e r
def U4 (N:Nat) (e:Env) (a:Act):Prop:=
 a.tmps.size=N∧ ∀ t x,look e t=some x→a.tmps.getD t undef=x.val
theorem U4.dK {N:Nat} {e:Env} {a:Act} (h:U4 N e a) {x:Operand} {y:ec} (E:Vc.dK e x=some y):a.eval x=y.val:=by
 cases x with
 |tmp t=>exact h.2 t y E
 |const v=>simp[Vc.dK] at E;subst E;simp[Act.eval,ec.zB]
 |global g=>simp[Vc.dK] at E;subst E;rfl
 |func f=>simp[Vc.dK] at E;subst E;rfl
theorem U4.eval {N:Nat} {e:Env} {a:Act} (h:U4 N e a) {x:Operand} (I:(Vc.dK e x).isSome=true):a.eval x=cu e x:=by
 obtain⟨y,E⟩:=Option.isSome_iff_exists.1 I;rw[h.dK E];simp[cu,E]
theorem sb {e:Env}:∀ {l:List Operand},known e l=true→ ∀ x∈l,(dK e x).isSome=true
 |[],_,_,E=>by cases E
 |y::r,h,x,E=>by
  simp only[known,U1] at h;cases E with
  |head=>exact h.1
  |tail _ E=>exact sb h.2 x E
def dl (e:Env) (d:Option Tmp) (x:ec):Env:=
 match d with
 |some t=>(t,x)::e
 |none=>e
def hq (N:Nat) (d:Option Tmp):Bool:=
 match d with
 |some t=>Nat.blt t N
 |none=>true
theorem U4.put {N:Nat} {e:Env} {a:Act} (h:U4 N e a) {d:Option Tmp} (O:hq N d=true) {x:ec} {v:x4} (U:x.val=v):
  U4 N (dl e d x) (a.put d v):=by
 cases d with
 |none=>exact h
 |some t=>
  have V:t<N:=by simpa[hq,Nat.blt_eq] using O
  refine⟨by simp[Act.put,h.1],fun s y E=>?_⟩;simp only[dl,look] at E;cases I:Nat.beq t s with
  |true=>
   have J:t=s:=Nat.eq_of_beq_eq_true I;subst J;simp only[I,cond_true,Z7] at E;subst E;simp[Act.put,h.1,V,U]
  |false=>
   have J:t≠s:=Nat.ne_of_beq_eq_false I;simp only[I,cond_false] at E;have:=h.2 s y E;simp only[Act.put,Array.getD_eq_getD_getElem?] at this ⊢;rw[Array.getElem?_setIfInBounds_ne J];exact this
def dB (r:Option Nat):Fence:={Fence.wide with round:=r}
theorem sd (r:Option Nat) (n:Nat):(dB r).depth.isSome=true→1≤n:=fun h=>by simp[dB,Fence.wide] at h
theorem uF {r:Option Nat} {n:Nat} {P:X1} {f:FuncId} {args:Array x4} {w:x5} {R:Ending→x5→Prop}
  (h:Calls P f args w R):CallsIn (dB r) n P f args w R:=by
 have:=(callsIn_wide (n:=n)).2 h;exact this
section
variable (P:X1)
def aa {α:Type} (s:Sem α) (w:x5) (K:α→x5→Prop):Prop:=∃ v w',s.run P w= .ok v w'∧cP w w'∧K v w'
def ny {α:Type} (free:ez) (s:Sem α) (w:x5) (K:α→x5→Prop):Prop:=∃ v w',s.run P w= .ok v w'∧(free.1=false→cm free.2 w w')∧K v w'
def Split (x:x4) (A B:Prop):Prop:=∃ c,x= .bool c∧(c=true→A)∧(c=false→B)
def aM:Bool→Operand
 |true=>.const (.bool true)
 |false=>.tmp 0
def qk:Operand→Bool
 | .const _=>true
 |_=>false
theorem zC (op:BinOp) (t:o6) (x y:Operand) (a b:x4):eqGuard op t x y a b=eqGuard op t (aM (qk x)) (aM (qk y)) a b:=by
 cases x <;> cases y <;> rfl
def U (op:BinOp) (t:o6) (cx cy:Bool) (a b:x4):Sem x4:=do eqGuard op t (aM cx) (aM cy) a b;binOp op t a b
def ql (s:Sem Next):Sem x4:=do
 match ←s with
 | .value v=>pure v
 |_=>stuck "no value"
def am (x:x4):Sem x4:=ql (execOp (fun _=>x) {dst:=none,op:=.nilCheck (.tmp 0),type:=0,pos:= "",after:=#[],guard:=none})
def b1 (E:Operand→x4):List Operand→List x4
 |[]=>[]
 |x::r=>E x::b1 E r
theorem qm (E:Operand→x4):∀ l,b1 E l=l.map E
 |[]=>rfl
 |x::r=>by simp[b1,qm E r]
theorem se (E:Operand→x4) (l:Array Operand):(b1 E l.toList).toArray=l.map E:=by
 apply Array.toList_inj.1;simp[qm]
def partsOf (E:Operand→x4):List (Nat×Operand)→List (Nat×x4)
 |[]=>[]
 |x::r=>(x.1,E x.2)::partsOf E r
theorem uG (E:Operand→x4):∀ l,partsOf E l=l.map fun(i,x)=>(i,E x)
 |[]=>rfl
 |x::r=>by simp[partsOf,uG E r]
theorem zD (E:Operand→x4) (l:Array (Nat×Operand)):(partsOf E l.toList).toArray=l.map fun(i,x)=>(i,E x):=by
 apply Array.toList_inj.1;simp[uG]
def opsOf:Op→List Operand
 | .alloc _| .ready _| .waits _=>[]
 | .move x| .assign x| .box _ x| .load _ x| .nilCheck x| .unOp _ _ x| .convert _ _ x| .sliceToArrayPointer _ x| .makeInterface _ x
 | .makeChan _ x| .fieldAddr _ x _| .field _ x _| .range _ x| .next x _| .entry x| .typeAssert x _ _ _| .extract x _| .panic x| .recv _ x _=>[x]
 | .pick c a b=>[c,a,b]
 | .build _ E| .buildSlice _ _ E=>E.toList.map (·.2)
 | .store _ a v| .binOp _ _ a v _| .makeSlice _ a v| .indexAddr _ a v| .index _ a v| .lookup _ a v _| .mapEntry _ a v| .send a v=>[a,v]
 | .makeFunc _ first I=>first.toList++I.toList
 | .makeMap _ r=>match r with
  |some x=>[x]
  |none=>[]
 | .slice _ x l h m=>x::((match l with
  |some y=>[y]
  |none=>[])++((match h with
  |some y=>[y]
  |none=>[])++(match m with
  |some y=>[y]
  |none=>[])))
 | .mapUpdate _ m k v| .entryStore _ m k v| .insert _ m k v=>[m,k,v]
 | .call c=>match c.callee with
  | .value f=>f::c.args.toList
  | .invoke r _=>r::c.args.toList
  | .builtin _=>c.args.toList
 | .go _| .defer _| .select ..=>[]
theorem zE {op:Op} (h1:∀ c,op≠ .go c) (I:∀ c,op≠ .defer c) (J:∀ cs b,op≠ .select cs b):∀ x∈op.operands,x∈opsOf op:=by
 intro x E;cases op <;> simp only[Op.operands,opsOf] at E ⊢ <;> try (first|(simp at E;done)|(simp at E ⊢;exact E))
 case go c=>exact absurd rfl (h1 c)
 case defer c=>exact absurd rfl (I c)
 case select cs b=>exact absurd rfl (J cs b)
 case makeMap t r=>cases r <;> simp at E ⊢ <;> exact E
 case slice t y l h m=>cases l <;> cases h <;> cases m <;> simpa[or_assoc] using E
 case call c=>cases O:c.callee <;> simpa[Call.operands,O] using E
def nz (E:Operand→x4):Op→Option (Sem x4)
 | .pick c a b=>some (do pure (if ←asBool (E c) then E a else E b))
 | .alloc O=>some (n9 O true (.tuple #[]))
 | .box O x=>some (Z2 O (E x))
 | .build t parts=>some (Z0 t (partsOf E parts.toList).toArray)
 | .buildSlice t len parts=>some (u9 t len (partsOf E parts.toList).toArray)
 | .load t a=>some (x1 t (E a))
 | .nilCheck x=>some (am (E x))
 | .binOp op I x y _=>some (U op I (qk x) (qk y) (E x) (E y))
 | .unOp op _ x=>some (Z5 op (E x))
 | .convert src dst x=>some (convert src dst (E x))
 | .makeInterface I x=>some (Instr.makeInterface I (E x))
 | .makeFunc fn first V=>some (Instr.makeFunc fn (b1 E first.toList).toArray (b1 E V.toList).toArray)
 | .makeMap t r=>some (Instr.makeMap t (r.map E))
 | .makeSlice t l c=>some (V8 t (E l) (E c))
 | .slice t x lo hi mx=>some (c7 t (E x) (lo.map E) (hi.map E) (mx.map E))
 | .fieldAddr s x f=>some (x2 s (E x) f)
 | .field I x f=>some (Instr.field I (E x) f)
 | .indexAddr t x J=>some (x7 t (E x) (E J))
 | .index I x J=>some (Y0 I (E x) (E J))
 | .lookup I x J ok=>some (V3 I (E x) (E J) ok)
 | .mapEntry t m k=>some (Instr.mapEntry t (E m) (E k))
 | .range I x=>some (Instr.range I (E x))
 | .entry W=>some (Instr.entry (E W))
 | .typeAssert x I X ok=>some (Instr.typeAssert (E x) I X ok)
 | .extract t J=>some (u5 (E t) J)
 |_=>none
def sf (E:Operand→x4):Op→Option (Sem Unit)
 | .store t a x=>some (x8 t (E a) (E x))
 | .mapUpdate t m k x=>some (Instr.mapUpdate t (E m) (E k) (E x))
 | .insert t m k x=>some (Instr.mapUpdate t (E m) (E k) (E x))
 | .entryStore t m s x=>some (Instr.entryStore t (E m) (E s) (E x))
 |_=>none
def lR (b:u7) (E:Array o6) (ty:o6) (args:Array x4):Option (Sem x4):=
 match b with
 | .append=>some (r9 E ty args)
 | .cap=>some (u7.cap_ E ty args)
 | .clear=>some (u7.clear_ E ty args)
 | .copy=>some (u7.copy_ E ty args)
 | .delete=>some (u7.delete_ E ty args)
 | .len=>some (u6 E ty args)
 | .max=>some (u7.max_ E ty args)
 | .min=>some (u7.min_ E ty args)
 |_=>none
theorem zF {s:Sem Next} {w w':x5} {v:x4} (h:(ql s).run P w= .ok v w'):s.run P w= .ok (.value v) w':=by
 unfold ql at h;rw[Y2] at h;cases E:s.run P w with
 |halt x I=>rw[E] at h;simp[Y4] at h
 |ok x I=>
  rw[E] at h;cases x <;> simp_all [Y4,stuck,Y6]
theorem zG (x:x4) (b:Bool) (t:o6):Instr.next x b 0=Instr.next x b t:=rfl
theorem sg {J:Operand→x4} {o:U8} {s:Sem x4} (h:nz J o.op=some s) {w w':x5} {v:x4} (E:s.run P w= .ok v w'):
  (execOp J o).run P w= .ok (.value v) w':=by
 cases I:o.op with
 |nilCheck x=>
  rw[I] at h;cases h;have:=zF P E;unfold execOp at this ⊢;simpa[I] using this
 |pick c x y=>
  rw[I] at h;cases h;unfold execOp;simp only[I,Y2,Y6] at E ⊢;cases O:(asBool (J c)).run P w with
  |halt x V=>rw[O] at E;simp[Y4] at E
  |ok x V=>rw[O] at E;simp only[Y4,Result.ok.injEq] at E ⊢;simp[E]
 |binOp op W x y X=>
  rw[I] at h;cases h;unfold execOp;simp only[I];unfold U at E;rw[←zC] at E;simp only[Y2,Y6] at E ⊢;rw[E];rfl
 |_=>
  rw[I] at h
  first
   |(cases h;done)
   |(cases h;simp only[se,zD] at E;unfold execOp;simp only[I,Y2,E,Y4,Y6])
   |(cases h;unfold execOp;simp only[I,Y2,E,Y4,Y6])
theorem zH {E:Operand→x4} {o:U8} {s:Sem Unit} (h:sf E o.op=some s) {w w':x5} {v:Unit} (J:s.run P w= .ok v w'):
  (execOp E o).run P w= .ok .skip w':=by
 cases I:o.op with
 |_=>
  rw[I] at h
  first
   |(cases h;done)
   |(cases h;unfold execOp;simp only[I,Y2,J,Y4,Y6])
def Enters (f:FuncId):Prop:=∀ args w,(callFunc f args).run P w= .ok (.enter f args) w
inductive O (f:FuncId) (args:List x4) (w:x5) (K:x4→x5→Prop):Prop
 |code (h1:Enters P f) (h2:Calls P f args.toArray w fun e w'=>∃ v,e= .returned v∧cP w w'∧K v w')
 |ext (v:x4) (w':x5) (h1:(callFunc f args.toArray).run P w= .ok (.value v) w') (h2:cP w w') (h3:K v w')
inductive eA (f:FuncId) (args:List x4) (w:x5) (K:x4→x5→Prop):Prop
 |code (h1:Enters P f) (h2:Calls P f args.toArray w fun e w'=>∃ v,e= .returned v∧K v w')
 |ext (v:x4) (w':x5) (h1:(callFunc f args.toArray).run P w= .ok (.value v) w') (h3:K v w')
theorem eA.calls {f:FuncId} {args:List x4} {w:x5} {K:x4→x5→Prop} (h:eA P f args w K) (E:Enters P f):Calls P f args.toArray w fun e w'=>∃ v,e= .returned v∧K v w':=by
 cases h with
 |code _ h=>exact h
 |ext v w' h1=>rw[E] at h1;cases h1
def lS (l:Nat) (args:List x4) (w:x5) (K:x4→x5→Prop):Prop:=
 YieldAt Fence.wide 0 P l args.toArray w fun e w'=>∃ v,e= .returned v∧K v w'
def hS (free:Bool) (f:x4) (args:List x4) (w:x5) (K:x4→x5→Prop):Prop:=
 match f with
 | .func (.func g) first cap=>bif free then eA P g (first.toList++args++cap.toList) w K else O P g (first.toList++args++cap.toList) w K
 | .func (.yield l) first _=>free=true∧lS P l (first.toList++args) w K
 |_=>False
def I (s:Sem x4) (w:x5) (K:x4→Prop):Prop:=∃ v,(∀ w',Ext w w'→s.run P w'= .ok v w')∧K v
def zI:List (Nat×Nat):=[(9,22),(22,22)]
def zJ (s d:Nat):Bool:=zI.any fun p=>Nat.beq p.1 s&&Nat.beq p.2 d
def je (o:U8):Bool:=
 match o.op with
 | .convert s d _=>!zJ s d
 | .move _| .assign _| .pick .. | .load .. | .nilCheck _| .binOp .. | .unOp .. | .makeInterface .. | .makeFunc .. | .slice .. | .fieldAddr .. | .field ..
 | .indexAddr .. | .index .. | .lookup .. | .extract .. | .build .. | .typeAssert ..=>true
 | .call c=>
  match c.callee with
  | .builtin .len| .builtin .cap| .builtin .min| .builtin .max=>true
  |_=>false
 |_=>false
def al (s:Sem x4) (v:x4) (w':x5):Prop:=∀ E,Ext w' E→s.run P E= .ok v E
def jf (o:U8) (e:Env) (w:x5) (K:Env→(x5→Prop)→Prop):Prop:=
 bif known e (opsOf o.op) then
  match o.op with
  | .move x| .assign x=>
   match dK e x with
   |some y=>K (dl e o.dst y) (fun _=>True)
   |none=>False
  | .pick c a b=>
   match dK e c with
   |some (.b true)=>(match dK e a with|some y=>K (dl e o.dst y) (fun _=>True)|none=>False)
   |some (.b false)=>(match dK e b with|some y=>K (dl e o.dst y) (fun _=>True)|none=>False)
   |some (.v x)=>Split x (K (dl e o.dst (.v (cu e a))) (fun _=>True)) (K (dl e o.dst (.v (cu e b))) (fun _=>True))
   |some .u=>False
   |none=>False
  | .call c=>
   match c.callee with
   | .builtin b=>
    match lR b c.argTypes o.type (b1 (cu e) c.args.toList).toArray with
    |some s=>I P s w fun v=>K (dl e o.dst (.v v)) (al P s v)
    |none=>False
   |_=>False
  |op=>
   match nz (cu e) op with
   |some s=>I P s w fun v=>K (dl e o.dst (.v v)) (al P s v)
   |none=>False
 else False
def sh (free:ez) (o:U8) (e:Env) (w:x5) (K:Env→x5→Prop):Prop:=
 bif known e (opsOf o.op) then
  match o.op with
  | .call c=>
   match c.callee with
   | .builtin b=>
    match lR b c.argTypes o.type (b1 (cu e) c.args.toList).toArray with
    |some s=>aa P s w fun v w'=>K (dl e o.dst (.v v)) w'
    |none=>False
   | .value (.func f)=>
    bif free.1 then eA P f (b1 (cu e) c.args.toList) w fun v w'=>K (dl e o.dst (.v v)) w'
    else O P f (b1 (cu e) c.args.toList) w fun v w'=>K (dl e o.dst (.v v)) w'
   | .value x=>hS P free.1 (cu e x) (b1 (cu e) c.args.toList) w fun v w'=>K (dl e o.dst (.v v)) w'
   | .invoke _ _=>False
  | .next x str=>ny P free (Instr.next (cu e x) str 0) w fun v w'=>K (dl e o.dst (.v v)) w'
  |op=>
   match nz (cu e) op with
   |some s=>aa P s w fun v w'=>K (dl e o.dst (.v v)) w'
   |none=>
    match sf (cu e) op with
    |some s=>aa P s w fun _ w'=>K (dl e o.dst (.v undef)) w'
    |none=>False
 else False
def lT (free:ez) (o:U8) (e:Env) (w:x5) (K:Env→x5→Prop):Prop:=
 bif je o then jf P o e w (fun E _=>K E w) else sh P free o e w K
theorem Enters.of {f:FuncId} {fn:Func} {c:Code} (E:P.funcs[f]? =some fn) (I:fn.body=some c) (J:(fn.name == "runtime.NumGoroutine")=false):Enters P f:=by
 intro args w;have O:fn.name≠ "runtime.NumGoroutine":=by simpa using J
 unfold callFunc;simp[Y2,program,Sem.run,Y4,E,O,I,Y6]
variable {P}
variable {N:Nat} {r:Option Nat} {o:U8} {e:Env} {a:Act} {w:x5}
theorem hT (I:U4 N e a) (J:known e (opsOf o.op)=true) (E:∀ cs b,o.op≠ .select cs b) (O:∀ c,o.op≠ .go c:=by simp_all) (U:∀ c,o.op≠ .defer c:=by simp_all):
  execOp a.eval o=execOp (cu e) o:=
 execOp_congr o E fun x V=>I.eval (sb J x (zE O U E x V))
theorem nA {next:Act→x5→Prop} {Q:Exit→Act→x5→Prop} (I:U4 N e a) (J:known e (opsOf o.op)=true) (O:∀ cs b,o.op≠ .select cs b)
  (E:∀ c,o.op≠ .defer c) {v:x4} {w':x5} (U:(execOp (cu e) o).run P w= .ok (.value v) w') (h:next (a.put o.dst v) w') (V:∀ c,o.op≠ .go c:=by simp_all):o.wpIn (dB r) 0 P a w next Q:=by
 refine⟨fun _ _=>trivial,?_⟩;rw[U8.semAt_eq _ _ _ E,hT I J O V E,U,U8.uponIn_value];exact h
theorem zK {next:Act→x5→Prop} {Q:Exit→Act→x5→Prop} (I:U4 N e a) (J:known e (opsOf o.op)=true) (O:∀ cs b,o.op≠ .select cs b)
  (E:∀ c,o.op≠ .defer c) {w':x5} (U:(execOp (cu e) o).run P w= .ok .skip w') (h:next (a.put o.dst undef) w') (V:∀ c,o.op≠ .go c:=by simp_all):o.wpIn (dB r) 0 P a w next Q:=by
 refine⟨fun _ _=>trivial,?_⟩;rw[U8.semAt_eq _ _ _ E,hT I J O V E,U,U8.uponIn_skip];exact h
def ek (N:Nat) (free:ez) (K:Env→x5→Prop) (o:U8) (a:Act) (w:x5) (a':Act) (w':x5):Prop:=
 ∃ E v,K E w'∧U4 N E a'∧a'=a.put o.dst v∧(free.1=false→cm free.2 w w')
theorem ek.of {free:ez} {K:Env→x5→Prop} {x:ec} {v:x4} {w':x5} (E:K (dl e o.dst x) w') (I:U4 N e a) (J:hq N o.dst=true) (O:x.val=v)
  (U:free.1=false→cm free.2 w w'):ek N free K o a w (a.put o.dst v) w':=⟨_,v,E,I.put J O,rfl,U⟩
theorem uH {free:ez} {K:Env→x5→Prop} {Q:Exit→Act→x5→Prop} {f:FuncId} {args:Array x4} (I:U4 N e a) (J:hq N o.dst=true)
  (h:Calls P f args w fun E w'=>∃ v,E= .returned v∧(free.1=false→cm free.2 w w')∧K (dl e o.dst (.v v)) w'):
  o.uponIn (dB r) 0 P a (ek N free K o a w) Q (.ok (.enter f args) w):=by
 rw[U8.uponIn_enter];refine⟨sd _ _,CallsIn.mono (uF h) ?_⟩;rintro E w' ⟨v,rfl,O,U⟩;exact ek.of U I J rfl O
theorem jg {x:Operand} {y:ec} (h:dK e x=some y):cu e x=y.val:=by simp[cu,h]
theorem uI {l:List Operand} {x:Operand} (E:known e l=true) (I:x∈l):∃ y,dK e x=some y:=Option.isSome_iff_exists.1 (sb E x I)
theorem uJ {K:Env→(x5→Prop)→Prop} (h:jf P o e w K) (W:U4 N e a) (af:hq N o.dst=true):
  ∃ v,∃ st:x5→Prop,(∀ w',Ext w w'→(execOp a.eval o).run P w'= .ok (.value v) w')∧(∃ X,K X st∧U4 N X (a.put o.dst v))∧(∀ c,o.op≠ .defer c)∧
   (∀ w',st w'→ ∀ I,Ext w' I→(execOp a.eval o).run P I= .ok (.value v) I):=by
 unfold jf at h;cases V:known e (opsOf o.op) with
 |false=>rw[V] at h;exact h.elim
 |true=>
  rw[V] at h;simp only[cond_true] at h;have put:∀ {x:ec} {v:x4} {st:x5→Prop},K (dl e o.dst x) st→x.val=v→ ∃ X,K X st∧U4 N X (a.put o.dst v):=fun h1 Y=>⟨_,h1,W.put af Y⟩;cases E:o.op with
  |move x=>
   rw[E] at h;simp only at h;cases O:dK e x with
   |none=>rw[O] at h;exact h.elim
   |some y=>
    rw[O] at h;have all:∀ w':x5,(execOp a.eval o).run P w'= .ok (.value y.val) w':=fun w'=>by
     rw[hT W V (by simp[E])];unfold execOp;simp only[E,Y6,jg O]
    exact⟨y.val,_,fun w' _=>all w',put h rfl,by simp,fun _ _ I _=>all I⟩
  |assign x=>
   rw[E] at h;simp only at h;cases O:dK e x with
   |none=>rw[O] at h;exact h.elim
   |some y=>
    rw[O] at h;have all:∀ w':x5,(execOp a.eval o).run P w'= .ok (.value y.val) w':=fun w'=>by
     rw[hT W V (by simp[E])];unfold execOp;simp only[E,Y6,jg O]
    exact⟨y.val,_,fun w' _=>all w',put h rfl,by simp,fun _ _ I _=>all I⟩
  |pick c x y=>
   rw[E] at h;simp only at h;have ab:=V;rw[E] at ab;obtain⟨aj,O⟩:=uI ab (x:=x) (by simp[opsOf]);obtain⟨ak,ae⟩:=uI ab (x:=y) (by simp[opsOf]);have Z:∀ (t:Bool) (w':x5),cu e c= .bool t→(execOp a.eval o).run P w'= .ok (.value (if t=true then cu e x else cu e y)) w':=by
    intro t w' ac;rw[hT W V (by simp[E])];unfold execOp;simp[E,ac,asBool,Y6]
   cases J:dK e c with
   |none=>rw[J] at h;exact h.elim
   |some ag=>
    rw[J] at h;cases ag with
    |b t=>
     cases t with
     |true=>
      simp only[O] at h;exact⟨_,_,fun w' _=>Z true w' (jg J),put h (by simp[jg O]),by simp,fun _ _ w' _=>Z true w' (jg J)⟩
     |false=>
      simp only[ae] at h;exact⟨_,_,fun w' _=>Z false w' (jg J),put h (by simp[jg ae]),by simp,fun _ _ w' _=>Z false w' (jg J)⟩
    |v z=>
     obtain⟨t,ah,ac,ai⟩:=h;have U:=fun w'=>Z t w' (by rw[jg J];exact ah);cases t with
     |true=>exact⟨_,_,fun w' _=>U w',put (ac rfl) rfl,by simp,fun _ _ w' _=>U w'⟩
     |false=>exact⟨_,_,fun w' _=>U w',put (ai rfl) rfl,by simp,fun _ _ w' _=>U w'⟩
    |u=>exact h.elim
  |call c=>
   rw[E] at h;simp only at h;cases J:c.callee with
   |builtin b=>
    rw[J] at h;simp only at h;rw[se] at h;cases aa:lR b c.argTypes o.type (c.args.map (cu e)) with
    |none=>rw[aa] at h;exact h.elim
    |some s=>
     rw[aa] at h;obtain⟨v,U,ad⟩:=h;have all:∀ w':x5,s.run P w'= .ok v w'→(execOp a.eval o).run P w'= .ok (.value v) w':=fun w' U=>by
      rw[hT W V (by simp[E])];unfold execOp;cases b <;> simp only[lR] at aa <;> first|(cases aa;done)|(cases aa;simp[E,J,resolve,invoke,builtin,U,Y4])
     exact⟨v,_,fun w' hw=>all w' (U w' hw),put ad rfl,by simp,fun w' h1 I Y=>all I (h1 I Y)⟩
   |value x=>rw[J] at h;exact h.elim
   |invoke x m=>rw[J] at h;exact h.elim
  |_=>
   rw[E] at h
   first
    |(simp only[nz] at h;done)
    |(obtain⟨v,U,ad⟩:=h
      refine⟨v,_,fun w' hw=>?_,put ad rfl,by simp,fun w' h1 I Y=>?_⟩
      ·rw[hT W V (by simp[E])];exact sg P (by rw[E];rfl) (U w' hw)
      ·rw[hT W V (by simp[E])];exact sg P (by rw[E];rfl) (h1 I Y))
theorem zL {free:ez} {K:Env→x5→Prop} {Q:Exit→Act→x5→Prop} (h:sh P free o e w K) (I:U4 N e a) (Y:hq N o.dst=true):
  o.wpIn (dB r) 0 P a w (ek N free K o a w) Q:=by
 unfold sh at h;cases W:known e (opsOf o.op) with
 |false=>rw[W] at h;exact h.elim
 |true=>
  rw[W] at h;simp only[cond_true] at h;cases E:o.op with
  |call c=>
   rw[E] at h;simp only at h;cases Z:c.callee with
   |builtin b=>
    rw[Z] at h;simp only at h;rw[se] at h;cases aa:lR b c.argTypes o.type (c.args.map (cu e)) with
    |none=>rw[aa] at h;exact h.elim
    |some s=>
     rw[aa] at h;obtain⟨v,w',J,X,V⟩:=h;refine nA I W (by simp[E]) (by simp[E]) (v:=v) (w':=w') ?_ (ek.of V I Y rfl fun _=>X.b);unfold execOp;cases b <;> simp only[lR] at aa <;> first|(cases aa;done)|(cases aa;simp[E,Z,resolve,invoke,builtin,J,Y4])
   |value x=>
    rw[Z] at h;have step:∀ (d:Deferred) (y:x4),cu e x=y→Deferred.ofValue y (c.args.map (cu e))=pure d→
      (invoke d.target d.args).run P w=(execOp (cu e) o).run P w:=by
     intro d y U aj;unfold execOp;simp only[E,Z,resolve,U,aj,Y2,Y6,Y4]
    have ad:∀ (g:FuncId) (first cap:Array x4),cu e x= .func (.func g) first cap→
      (execOp (cu e) o).run P w=(callFunc g (first.toList++b1 (cu e) c.args.toList++cap.toList).toArray).run P w:=by
     intro g first cap U
     rw[←step {target:=.fn (.func g) cap,args:=first++c.args.map (cu e)} _ U rfl];simp only[invoke];have ae:first++c.args.map (cu e)++cap=(first.toList++b1 (cu e) c.args.toList++cap.toList).toArray:=by apply Array.toList_inj.1;simp[qm]
     rw[ae]
    have enter:∀ (g:FuncId) (first cap:Array x4),cu e x= .func (.func g) first cap→Enters P g→
      (execOp (cu e) o).run P w= .ok (.enter g (first.toList++b1 (cu e) c.args.toList++cap.toList).toArray) w:=by
     intro g first cap U ab
     rw[ad g first cap U,ab]
    have go:∀ (g:FuncId) (first cap:Array x4),cu e x= .func (.func g) first cap→
      (bif free.1 then eA P g (first.toList++b1 (cu e) c.args.toList++cap.toList) w fun v w'=>K (dl e o.dst (.v v)) w'
       else O P g (first.toList++b1 (cu e) c.args.toList++cap.toList) w fun v w'=>K (dl e o.dst (.v v)) w')→
      o.wpIn (dB r) 0 P a w (ek N free K o a w) Q:=by
     intro g first cap U h
     obtain⟨ak,aq⟩:=free;cases ak with
     |true=>
      rcases h with⟨ab,af⟩|⟨v,w',J,V⟩
      ·refine⟨fun _ _=>trivial,?_⟩;rw[U8.semAt_eq _ _ _ (by simp[E]),hT I W (by simp[E])];rw[enter g first cap U ab];exact uH I Y (af.mono fun ac w' ⟨v,h1,ag⟩=>⟨v,h1,(fun h=>by cases h),ag⟩)
      ·rw[←ad g first cap U] at J;exact nA I W (by simp[E]) (by simp[E]) J (ek.of V I Y rfl fun h=>by cases h)
     |false=>
      rcases h with⟨ab,af⟩|⟨v,w',J,X,V⟩
      ·refine⟨fun _ _=>trivial,?_⟩;rw[U8.semAt_eq _ _ _ (by simp[E]),hT I W (by simp[E])];rw[enter g first cap U ab];exact uH I Y (af.mono fun ac w' ⟨v,h1,X,ag⟩=>⟨v,h1,fun _=>X.b,ag⟩)
      ·rw[←ad g first cap U] at J;exact nA I W (by simp[E]) (by simp[E]) J (ek.of V I Y rfl fun _=>X.b)
    have ah:hS P free.1 (cu e x) (b1 (cu e) c.args.toList) w (fun v w'=>K (dl e o.dst (.v v)) w')→
      o.wpIn (dB r) 0 P a w (ek N free K o a w) Q:=by
     intro h;unfold hS at h;split at h
     ·rename_i g first cap U
      exact go g first cap U h
     ·rename_i l first cap U
      obtain⟨al,fn,tmps,ai,body,am,ao⟩:=h;refine⟨fun _ _=>trivial,?_⟩;rw[U8.semAt_eq _ _ _ (by simp[E]),hT I W (by simp[E])];have:(execOp (cu e) o).run P w= .ok (.round l fn tmps ai body) w:=by
       rw[←step {target:=.fn (.yield l) cap,args:=first++c.args.map (cu e)} _ U rfl,←am];have ae:(first.toList++b1 (cu e) c.args.toList).toArray=first++c.args.map (cu e):=by apply Array.toList_inj.1;simp[qm]
       rw[ae];rfl
      rw[this,U8.uponIn_round];refine⟨sd _ _,?_⟩;have ap:RoundIn (dB r) (0-1) P l fn tmps ai body w fun ac w'=>∃ v,ac= .returned v∧K (dl e o.dst (.v v)) w':=ao;refine RoundIn.mono ap ?_;rintro ac w' ⟨v,rfl,V⟩;exact ek.of V I Y rfl fun h=>by rw[al] at h;cases h
     ·exact h.elim
    cases x with
    |func f=>exact go f #[] #[] rfl (by simpa using h)
    |tmp t=>exact ah h
    |const v=>exact ah h
    |global g=>exact ah h
   |invoke x m=>rw[Z] at h;exact h.elim
  |next x str=>
   rw[E] at h;obtain⟨v,w',J,X,V⟩:=h;refine nA I W (by simp[E]) (by simp[E]) (v:=v) (w':=w') ?_ (ek.of V I Y rfl X);rw[zG _ _ o.type] at J;unfold execOp;simp only[E,Y2,J,Y4,Y6]
  |_=>
   rw[E] at h
   first
    |(simp only[nz,sf] at h;done)
    |(obtain⟨v,w',J,X,V⟩:=h
      exact nA I W (by simp[E]) (by simp[E]) (sg P (by rw[E];rfl) J) (ek.of V I Y rfl fun _=>X.b))
    |(obtain⟨v,w',J,X,V⟩:=h
      exact zK I W (by simp[E]) (by simp[E]) (zH P (by rw[E];rfl) J) (ek.of V I Y rfl fun _=>X.b))
theorem qn {free:ez} {K:Env→x5→Prop} {Q:Exit→Act→x5→Prop} (h:lT P free o e w K) (I:U4 N e a) (J:hq N o.dst=true):
  o.wpIn (dB r) 0 P a w (ek N free K o a w) Q:=by
 unfold lT at h;cases O:je o with
 |false=>rw[O] at h;exact zL h I J
 |true=>
  rw[O] at h;have h:jf P o e w (fun E _=>K E w):=h;obtain⟨v,st,U,⟨E,V,W⟩,X,_⟩:=uJ h I J;refine⟨fun _ _=>trivial,?_⟩;rw[U8.semAt_eq _ _ _ X,U w (Ext.refl _),U8.uponIn_value];exact⟨E,v,V,W,rfl,fun _=>cm.refl _ _⟩
end
section
variable {P:X1}
def Still {α:Type} (P:X1) (s:Sem α):Prop:=∀ w v E,s.run P w= .ok v E→E=w∧ ∀ w',s.run P w'= .ok v w'
theorem Still.pure {α:Type} (a:α):Still P (Pure.pure a:Sem α):=fun w v E h=>by
 rw[Y6] at h;cases h;exact⟨rfl,fun w'=>by rw[Y6]⟩
theorem Still.bind {α β:Type} {s:Sem α} {f:α→Sem β} (J:Still P s) (O:∀ a,Still P (f a)):Still P (s >>= f):=fun w v U h=>by
 rw[Y2] at h;cases E:s.run P w with
 |halt x I=>rw[E] at h;simp[Y4] at h
 |ok a I=>
  rw[E] at h;obtain⟨rfl,V⟩:=J w a I E;obtain⟨rfl,W⟩:=O a _ v U h;exact⟨rfl,fun w'=>by rw[Y2,V w'];exact W w'⟩
theorem Still.never {α:Type} {s:Sem α} (h:∀ w v E,s.run P w≠ .ok v E):Still P s:=fun w v E h'=>absurd h' (h w v E)
theorem Still.stuck {α:Type} (m:String):Still P (stuck m:Sem α):=.never fun w v E h=>by simp[Go.stuck] at h
theorem Still.unsupported {α:Type} (m):Still P (unsupported m:Sem α):=.never fun w v E h=>by simp[Go.unsupported] at h
theorem Still.program:Still P program:=fun w v E h=>by cases h;exact⟨rfl,fun _=>rfl⟩
theorem Still.underlying (t:o6):Still P (underlying t):=Still.bind .program fun p=>by
 cases p.underlying t with
 |some d=>exact Still.pure d
 |none=>exact Still.stuck _
theorem Still.typeInfo (t:o6):Still P (typeInfo t):=Still.bind .program fun p=>by
 cases p.info? t with
 |some d=>exact Still.pure d
 |none=>exact Still.stuck _
theorem Still.sizeOf (t:o6):Still P (sizeOf t):=Still.bind (.typeInfo t) fun _=>Still.pure _
theorem Still.boundsPanic {α:Type} (k:o8) (x y:Int) (c:BoundsCode):Still P (boundsPanic k x y c:Sem α):=.never fun w v E h=>by
 have I:∀ (s:Sem Bool) (w:x5) (v:α) (E:x5),(s >>= fun b=>(runtimePanic (.bounds (Y9.wrap x) y b c):Sem α)).run P w≠ .ok v E:=by
  intro s w v E h;rw[Y2] at h;cases J:s.run P w with
  |halt x O=>rw[J] at h;simp[Y4] at h
  |ok a O=>rw[J] at h;simp[Y4,Go.runtimePanic,Go.goPanic] at h
 unfold Go.boundsPanic at h;dsimp only at h;split at h
 ·exact I _ _ _ _ h
 ·exact I _ _ _ _ h
theorem Still.asIntOf (v:x4):Still P (asIntOf v):=by
 unfold Go.asIntOf;split
 ·exact Still.pure _
 ·exact Still.unsupported _
 ·exact Still.stuck _
theorem Still.sureAddr (v:x4):Still P (Instr.sureAddr v):=by
 unfold Instr.sureAddr;split
 ·exact Still.pure _
 ·exact Still.stuck _
theorem Still.extract (v:x4) (i:Nat):Still P (u5 v i):=by
 unfold u5;split
 ·split
  ·exact Still.pure _
  ·exact Still.stuck _
 ·exact Still.stuck _
theorem Still.indexAt (t:o6) (x i:x4):Still P (x7 t x i):=by
 have tail:∀ (t:o6) (k:o8) (i:Int) (base:Option Addr) (len:Nat) (E:o6),Still P (do
   let I:=len≤1&&(match ←Go.underlying t with| .array ..=>true|_=>false)
   match base with
   |some a=>
    if 0≤i∧i<len then Pure.pure (x4.pointer (some (a.add (i.toNat*(←Go.sizeOf E)))))
    else if I then Go.unsupported (.noEntry "op/indexAddr.an index out of range at an array of length 0 or 1 (ledger 616)")
    else Go.boundsPanic k i len .index
   |none=>Go.boundsPanic k i 0 .index):=by
  intro t k i base len E;refine .bind (.underlying t) fun d=>?_;cases base with
  |none=>exact Still.boundsPanic _ _ _ _
  |some a=>
   dsimp only;split
   ·exact .bind (.sizeOf E) fun _=>.pure _
   ·split <;> split <;> first|exact Still.unsupported _|exact Still.boundsPanic _ _ _ _
 unfold x7;refine .bind (.asIntOf i) fun J=>?_;refine .bind (.underlying t) fun d=>?_;split
 ·refine .bind (.sureAddr _) fun b=>?_;refine .bind (.pure _) fun y=>?_;exact tail _ _ _ _ _ _
 ·refine .bind (.pure _) fun y=>?_;exact tail _ _ _ _ _ _
 ·refine .bind (.stuck _) fun y=>?_;exact tail _ _ _ _ _ _
end
section
variable (P:X1)
def qo (free:ez) (ops:Array U8) (o:U8) (e:Env) (w:x5) (K:Env→x5→Prop):Prop:=
 match o.guard with
 |none=>lT P free o e w K
 |some (j,b)=>
  match (ops[j]?).bind (·.dst) with
  |none=>False
  |some s=>
   match look e s with
   |some (.b c)=>bif xor c b then K (dl e o.dst .u) w else lT P free o e w K
   |some (.v x)=>
    Split x (bif b then lT P free o ((s,.b true)::e) w K else K (dl ((s,.b true)::e) o.dst .u) w)
     (bif b then K (dl ((s,.b false)::e) o.dst .u) w else lT P free o ((s,.b false)::e) w K)
   |some .u=>K (dl e o.dst .u) w
   |none=>False
def lU (free:ez) (ops:Array U8):List U8→Env→x5→(Env→x5→Prop)→Prop
 |[],e,w,K=>K e w
 |o::l,e,w,K=>qo P free ops o e w fun E w'=>lU free ops l E w' K
def si (ops:Array U8) (o:U8) (e:Env) (w:x5) (K:Env→(x5→Prop)→Prop):Prop:=
 match o.guard with
 |none=>jf P o e w K
 |some (j,b)=>
  match (ops[j]?).bind (·.dst) with
  |none=>False
  |some s=>
   match look e s with
   |some (.b c)=>bif xor c b then K (dl e o.dst .u) (fun _=>True) else jf P o e w K
   |some (.v x)=>
    Split x (bif b then jf P o ((s,.b true)::e) w K else K (dl ((s,.b true)::e) o.dst .u) (fun _=>True))
     (bif b then K (dl ((s,.b false)::e) o.dst .u) (fun _=>True) else jf P o ((s,.b false)::e) w K)
   |some .u=>K (dl e o.dst .u) (fun _=>True)
   |none=>False
def kE (o:U8):Bool:=
 match o.op with
 | .move _| .assign _| .extract .. | .indexAddr ..=>true
 |_=>false
def jK (ops:Array U8):List Nat→Option Nat
 |[]=>none
 |i::r=>match ops[i]? with
  |some o=>bif je o then some i else jK ops r
  |none=>jK ops r
def sj (p:Nat→Prop):List Nat→Prop
 |[]=>True
 |[i]=>p i
 |i::r=>p i∧sj p r
def iz (bs:Array Nat) (j k:Nat):Bool:=!(Nat.beq k j)&&(!((bs.getD j 0).testBit k)&& !((bs.getD k 0).testBit j))
def nB (same:Bool) (q:Nat) (w:x5) (st:x5→Prop) (E:List (x5×List (Nat×(x5→Prop)))):List (x5×List (Nat×(x5→Prop))):=
 match same,E with
 |true,g::r=>(g.1,(q,st)::g.2)::r
 |_,E=>(w,[(q,st)])::E
def nC (bs:Array Nat) (j:Nat):List (Nat×(x5→Prop))→Bool
 |[]=>false
 |x::r=>iz bs j x.1||nC bs j r
def lV (bs:Array Nat) (j:Nat) (w':x5):List (Nat×(x5→Prop))→Prop
 |[]=>True
 |x::r=>bif iz bs j x.1 then x.2 w'∧lV bs j w' r else lV bs j w' r
def kF (bs:Array Nat) (j:Nat) (w':x5) (C:Prop):List (x5×List (Nat×(x5→Prop)))→Prop
 |[]=>C
 |g::r=>bif nC bs j g.2 then (Ext g.1 w'∨lV bs j w' g.2)∧kF bs j w' C r else kF bs j w' C r
def jL (free:ez) (ops:Array U8) (bs:Array Nat):Nat→Array Bool→Bool→List (x5×List (Nat×(x5→Prop)))→Env→x5→(Env→x5→Prop)→Prop
 |0,E,_,_,e,w,K=>match Region.ready .any ops E with|[]=>K e w|_=>False
 |fuel+1,E,same,I,e,w,K=>
  match Region.ready .any ops E with
  |[]=>K e w
  |i::r=>
   match jK ops (i::r) with
   |some q=>
    bif Region.free .any ops E q then
     match ops[q]? with
     |some o=>si P ops o e w fun J st=>
       bif kE o then jL free ops bs fuel (E.setIfInBounds q true) same I J w K
       else jL free ops bs fuel (E.setIfInBounds q true) true (nB same q w st I) J w K
     |none=>False
    else False
   |none=>
    sj (fun j=>match ops[j]? with
     |some o=>qo P free ops o e w fun J w'=>kF bs j w' (jL free ops bs fuel (E.setIfInBounds j true) false I J w' K) I
     |none=>False) (i::r)
def sk (free:ez) (ops:Array U8) (e:Env) (w:x5) (K:Env→x5→Prop):Prop:=
 bif Region.noSelect ops then jL P free ops (Region.before ops) ops.size (Array.replicate ops.size false) false [] e w K else False
end
section
variable {P:X1} {N:Nat} {r:Option Nat} {free:ez} {ops:Array U8}
theorem zM {e:Env} {a:Act} (I:U4 N e a) {j s:Nat} {c:Bool} (J:(ops[j]?).bind (·.dst)=some s) {x:ec} (O:look e s=some x) (U:x.val= .bool c):
  yielded ops a.tmps j=some c:=by
 have h:=I.2 s x O;rw[U] at h;have V:a.tmps[s]? =some (.bool c):=by
  rw[Array.getD_eq_getD_getElem?] at h;cases E:a.tmps[s]? with
  |none=>rw[E] at h;simp[undef] at h
  |some y=>rw[E] at h;simpa using h
 simp[yielded,J,V]
theorem qp {e:Env} {a:Act} (E:U4 N e a) {o:U8} {j s:Nat} {b c:Bool} (I:o.guard=some (j,b)) (J:(ops[j]?).bind (·.dst)=some s) {x:ec}
  (O:look e s=some x) (U:x.val= .bool c):Region.wanted o (yielded ops a.tmps)= !(xor c b):=by
 simp only[Region.wanted,I,zM E J O U];cases c <;> cases b <;> rfl
theorem uK {e:Env} {a:Act} (I:U4 N e a) {o:U8} {j s:Nat} {b:Bool} (J:o.guard=some (j,b)) (O:(ops[j]?).bind (·.dst)=some s)
  (U:look e s=some .u):Region.wanted o (yielded ops a.tmps)=false:=by
 have h:=I.2 s .u U;have V:yielded ops a.tmps j=none:=by
  rw[Array.getD_eq_getD_getElem?] at h;unfold yielded;rw[O];cases E:a.tmps[s]? with
  |none=>simp[E]
  |some y=>
   rw[E] at h;simp only[V4,ec.val] at h;subst h;simp[E,undef]
 simp[Region.wanted,J,V]
theorem U4.lit {e:Env} {a:Act} (I:U4 N e a) {s:Nat} {x:ec} {c:Bool} (O:look e s=some x) (U:x.val= .bool c):U4 N ((s,.b c)::e) a:=by
 refine⟨I.1,fun t y E=>?_⟩;simp only[look] at E;cases J:Nat.beq s t with
 |true=>
  have:s=t:=Nat.eq_of_beq_eq_true J;subst this;simp only[J,cond_true,Z7] at E;subst E;rw[I.2 s x O,U];rfl
 |false=>simp only[J,cond_false] at E;exact I.2 t y E
theorem uL {o:U8} {e:Env} {a:Act} {w:x5} {K:Env→x5→Prop} {Q:Exit→Act→x5→Prop} (h:qo P free ops o e w K) (E:U4 N e a) (I:hq N o.dst=true):
  (Region.wanted o (yielded ops a.tmps)=true∧o.wpIn (dB r) 0 P a w (ek N free K o a w) Q)∨
  (Region.wanted o (yielded ops a.tmps)=false∧ek N free K o a w (a.put o.dst undef) w):=by
 unfold qo at h;cases J:o.guard with
 |none=>rw[J] at h;exact .inl ⟨by simp[Region.wanted,J],qn h E I⟩
 |some Z=>
  obtain⟨j,b⟩:=Z;rw[J] at h;simp only at h;cases U:(ops[j]?).bind (·.dst) with
  |none=>rw[U] at h;exact h.elim
  |some s=>
   rw[U] at h;simp only at h;cases O:look e s with
   |none=>rw[O] at h;exact h.elim
   |some x=>
    rw[O] at h;cases x with
    |b c=>
     simp only at h;have hw:=qp E J U O (c:=c) rfl;cases Y:xor c b with
     |true=>
      rw[Y] at h hw;exact .inr ⟨hw,ek.of h E I rfl fun _=>cm.refl _ _⟩
     |false=>
      rw[Y] at h hw;exact .inl ⟨hw,qn h E I⟩
    |v y=>
     simp only at h;obtain⟨c,rfl,V,W⟩:=h;have hw:=qp E J U O (c:=c) rfl;have X:=E.lit O (c:=c) rfl;cases c with
     |true=>
      have V:=V rfl;cases b with
      |true=>exact .inl ⟨hw,qn V X I⟩
      |false=>exact .inr ⟨hw,ek.of V X I rfl fun _=>cm.refl _ _⟩
     |false=>
      have W:=W rfl;cases b with
      |true=>exact .inr ⟨hw,ek.of W X I rfl fun _=>cm.refl _ _⟩
      |false=>exact .inl ⟨hw,qn W X I⟩
    |u=>exact .inr ⟨uK E J U O,ek.of h E I rfl fun _=>cm.refl _ _⟩
def e8 (D:List Nat) (a a':Act):Prop:=a'.defers=a.defers∧ ∀ t,t∉D→a'.tmps.getD t undef=a.tmps.getD t undef
theorem e8.refl (D:List Nat) (a:Act):e8 D a a:=⟨rfl,fun _ _=>rfl⟩
theorem e8.trans {D:List Nat} {a b c:Act} (h:e8 D a b) (k:e8 D b c):e8 D a c:=⟨k.1.trans h.1,fun t E=>(k.2 t E).trans (h.2 t E)⟩
theorem e8.put {D:List Nat} (a:Act) {d:Option Tmp} (v:x4) (E:∀ t,d=some t→t∈D):e8 D a (a.put d v):=by
 cases d with
 |none=>exact e8.refl _ _
 |some s=>
  refine⟨rfl,fun t I=>?_⟩;have J:s≠t:=fun h=>I (h▸E s rfl);simp only[Act.put,Array.getD_eq_getD_getElem?];rw[Array.getElem?_setIfInBounds_ne J]
def jM (N:Nat) (free:ez) (K:Env→x5→Prop) (D:List Nat) (a:Act) (w:x5) (a':Act) (w':x5):Prop:=
 ∃ E,K E w'∧U4 N E a'∧e8 D a a'∧(free.1=false→cm free.2 w w')
theorem jM.step {K:Env→x5→Prop} {D:List Nat} {a E a':Act} {w I w':x5} (h:jM N free K D E I a' w') (O:e8 D a E) (U:free.1=false→cm free.2 w I):
  jM N free K D a w a' w':=by
 obtain⟨V,h1,W,X,Y⟩:=h;exact⟨V,h1,W,O.trans X,fun J=>(U J).trans (Y J)⟩
def kG (N:Nat) (l:List U8):Bool:=l.all fun o=>hq N o.dst
theorem zN {K:Env→x5→Prop} {D:List Nat} {Q:Exit→Act→x5→Prop} (Z:∀ o∈ops.toList,∀ t,o.dst=some t→t∈D) (W:kG N ops.toList=true):
  ∀ (l:List U8) (k:Nat) (e:Env) (a:Act) (w:x5),(∀ j,l[j]? =ops[k+j]?)→lU P free ops l e w K→U4 N e a→
   (∀ a' w',jM N free K D a w a' w'→Q .normal a' w')→wpOpsIn (dB r) 0 P ops Q (List.range' k l.length) a w:=by
 intro l;induction l with
 |nil=>
  intro k e a w _ h I J;exact J a w ⟨e,h,I,e8.refl _ _,fun _=>cm.refl _ _⟩
 |cons o l aa=>
  intro k e a w X h I J;have O:=X 0;simp only[List.getElem?_cons_zero,Nat.add_zero] at O;have Y:o∈ops.toList:=by
   have:=O.symm;rw[←U7] at this;exact u4 this
  have ab:hq N o.dst=true:=by
   simp only[kG,List.all_eq_true] at W;exact W o Y
  have ac:∀ j,l[j]? =ops[k+1+j]?:=fun j=>by
   have:=X (j+1);rw[List.getElem?_cons_succ] at this;rw[this];congr 1;omega
  have next:∀ U E,ek N free (fun ad w'=>lU P free ops l ad w' K) o a w U E→wpOpsIn (dB r) 0 P ops Q (List.range' (k+1) l.length) U E:=by
   rintro U E ⟨ae,v,af,ag,rfl,ah⟩;refine aa (k+1) ae _ E ac af ag fun a' w' ai=>J a' w' (ai.step (e8.put a v fun t aj=>Z o Y t aj) ah)
  simp only[lU] at h;show wpOpsIn (dB r) 0 P ops Q (k::List.range' (k+1) l.length) a w;unfold wpOpsIn;rw[←O];simp only;rcases uL (r:=r) (Q:=Q) h I ab with⟨hw,V⟩|⟨hw,V⟩
  ·rw[if_pos hw];exact U8.wpIn_mono next V
  ·rw[hw];exact⟨fun _ _=>trivial,next _ _ V⟩
theorem zO {K:Env→x5→Prop} {D:List Nat} {Q:Exit→Act→x5→Prop} {id:Nat} {e:Env} {a:Act} {w:x5} (E:∀ o∈ops.toList,∀ t,o.dst=some t→t∈D)
  (I:kG N ops.toList=true) (h:lU P free ops ops.toList e w K) (J:U4 N e a) (O:∀ a' w',jM N free K D a w a' w'→Q .normal a' w'):
  (Code.region id ops false).wpIn (dB r) 0 P Q a w:=by
 refine wpIn_region ?_;have:=zN (r:=r) E I ops.toList 0 e a w (fun j=>by simp) h J O;rw[List.range_eq_range'];simpa using this
end
section
variable {P:X1} {N:Nat} {r:Option Nat} {free:ez} {ops:Array U8} {Q:Exit→Act→x5→Prop}
theorem zP (E:Option Nat) (o:U8) (I:∀ cs b,o.op≠ .select cs b) (a:Act) (d:Option Tmp) (v:x4) (h:∀ t,d=some t→t∉o.looksAt ops):
  o.semAt E (a.put d v).eval=o.semAt E a.eval:=by
 have he:=execOp_put o I a d v h;unfold U8.semAt;split
 ·rename_i l c J;have:resolve (a.put d v).eval c o.type=resolve a.eval c o.type:=resolve_congr c o.type fun x O=>Act.eval_put fun t U V=>h t U (by
   subst V;refine List.mem_append_left _ (List.mem_filterMap.2 ⟨.tmp t,?_,rfl⟩);rw[J];simpa[Op.operands] using O)
  rw[this]
 ·exact he
def jN (o:U8) (w0:x5) (st:x5→Prop) (w':x5):Prop:=kE o=true∨Ext w0 w'∨ ∃ E,st E∧Ext E w'
theorem jN.ext {o:U8} {w0 w w':x5} {st:x5→Prop} (h:jN o w0 st w) (k:Ext w w'):jN o w0 st w':=by
 rcases h with h|h|⟨E,h1,I⟩
 ·exact .inl h
 ·exact .inr (.inl (h.trans k))
 ·exact .inr (.inr ⟨E,h1,I.trans k⟩)
theorem zQ {o:U8} (hm:kE o=true) {I:Operand→x4} {v:x4} {w w':x5} (h:(execOp I o).run P w= .ok (.value v) w):(execOp I o).run P w'= .ok (.value v) w':=by
 unfold kE at hm;split at hm
 ·rename_i x E;unfold execOp at h ⊢;simp only[E,Y6,Result.ok.injEq,and_true] at h ⊢;exact h
 ·rename_i x E;unfold execOp at h ⊢;simp only[E,Y6,Result.ok.injEq,and_true] at h ⊢;exact h
 ·rename_i x i E;unfold execOp at h ⊢;simp only[E] at h ⊢;exact ((Still.bind (Still.extract _ _) fun _=>Still.pure _) _ _ _ h).2 _
 ·rename_i t x i E;unfold execOp at h ⊢;simp only[E] at h ⊢;exact ((Still.bind (Still.indexAt _ _ _) fun _=>Still.pure _) _ _ _ h).2 _
 ·cases hm
def fX (P:X1) (ops:Array U8) (o:U8) (v:x4) (a:Act) (w0:x5→Prop):Prop:=
 (Region.wanted o (yielded ops a.tmps)=true∧(∀ c,o.op≠ .defer c)∧ ∀ w',w0 w'→(execOp a.eval o).run P w'= .ok (.value v) w')∨
 (Region.wanted o (yielded ops a.tmps)=false∧v=undef)
theorem fX.put {o E:U8} {v:x4} {a:Act} {w0:x5→Prop} (I:fX P ops o v a w0) (J:∀ cs b,o.op≠ .select cs b) (h:∀ t,E.dst=some t→t∉o.looksAt ops) (u:x4):
  fX P ops o v (a.put E.dst u) w0:=by
 unfold fX at*;rw[execOp_put o J a E.dst u h,wanted_put o a E.dst u h];exact I
theorem fX.go {i:Nat} {E:U8} {v:x4} {a:Act} {w0:x5→Prop} {w:x5} (hi:ops[i]? =some E) (I:fX P ops E v a w0) (hw:w0 w) {K:Act→x5→Prop} (h:K (a.put E.dst v) w):
  wpOpIn (dB r) 0 P ops Q i K a w:=by
 unfold wpOpIn;simp only[hi];rcases I with⟨h1,J,O⟩|⟨h1,rfl⟩
 ·rw[if_pos h1];refine⟨fun _ _=>trivial,?_⟩;rw[U8.semAt_eq _ _ _ J,O w hw,U8.uponIn_value];exact h
 ·rw[h1];exact⟨fun _ _=>trivial,h⟩
theorem zR {j:Nat} {E J:U8} {v:x4} (W:ops[j]? =some J) (X:E.apart ops J=true) (Y:∀ cs b,E.op≠ .select cs b) (Z:∀ cs b,J.op≠ .select cs b)
  (U:∀ c a w,¬Q (.panic c) a w) {K:Act→x5→Prop} {a:Act} {w:x5} {w0:x5→Prop} (I:fX P ops E v a w0) (h:wpOpIn (dB r) 0 P ops Q j K (a.put E.dst v) w):
  wpOpIn (dB r) 0 P ops Q j (fun a' w'=>fX P ops E v a' w0∧K (a'.put E.dst v) w') a w:=by
 obtain⟨h1,O,aa⟩:=U8.apart_spec X;have bw:∀ (a:Act),fX P ops E v a w0→ ∀ u,fX P ops E v (a.put J.dst u) w0:=fun a I u=>I.put Y aa u;have ab:∀ d,fX P ops E v {a with defers:=d::a.defers} w0:=fun d=>I;unfold wpOpIn at*;simp only[W] at*;rw[wanted_put J a E.dst v h1] at h;split
 ·rename_i hw;simp only[hw,if_true] at h;obtain⟨_,h⟩:=h;refine⟨fun _ _=>trivial,?_⟩;rw[zP _ J Z a E.dst v h1] at h;generalize (J.semAt (dB r).round a.eval).run P w=res at*;cases res with
  |ok n w'=>
   cases n <;> simp only[U8.uponIn] at h ⊢
   case value u=>exact⟨bw a I u,by rw[←Act.put_comm a v u O];exact h⟩
   case skip=>exact⟨bw a I _,by rw[←Act.put_comm a v undef O];exact h⟩
   case defer d=>
    refine⟨bw _ (ab d) _,?_⟩;rw[←Act.put_comm _ v undef O,←Act.put_defers];exact h
   case enter f args=>
    refine⟨h.1,CallsIn.mono h.2 fun e V he=>?_⟩;cases e with
    |returned u=>exact⟨bw a I u,by rw[←Act.put_comm a v u O];exact he⟩
    |panicked c=>exact absurd he (U _ _ _)
    |outgrown=>exact he
   case row row args=>exact⟨h.1,RowsIn.mono h.2 fun u V he=>⟨bw a I u,by rw[←Act.put_comm a v u O];exact he⟩⟩
   case round l f tmps ac body=>
    refine⟨h.1,RoundIn.mono h.2 fun e V he=>?_⟩;cases e with
    |returned u=>exact⟨bw a I u,by rw[←Act.put_comm a v u O];exact he⟩
    |panicked c=>exact absurd he (U _ _ _)
    |outgrown=>exact he
  |halt x w'=>
   cases x <;> simp only[U8.uponIn] at h ⊢
   case panic u=>exact absurd h (U _ _ _)
 ·rename_i hw;simp only[hw] at h;exact⟨fun _ _=>trivial,bw a I _,by rw[←Act.put_comm a v undef O];exact h.2⟩
def jh (ops:Array U8) (bs:Array Nat):Bool:=
 (X7 ops.size).all fun j=>(X7 ops.size).all fun k=>!((bs.getD j 0).testBit k)||
  (match ops[j]? with
   |some o=>o.after.any fun e=>Region.binds .any e&&Nat.blt e.on j&&(Nat.beq e.on k||(bs.getD e.on 0).testBit k)
   |none=>false)
def Down (ops:Array U8) (E:Array Bool):Prop:=
 ∀ (x:Nat) (o:U8),ops[x]? =some o→E.getD x false=true→ ∀ e∈o.after,Region.binds .any e=true→E.getD e.on false=true
theorem uM {bs:Array Nat} (I:jh ops bs=true) {j k:Nat} (O:j<ops.size) (U:k<ops.size) (h:(bs.getD j 0).testBit k=true):
  ∃ o,ops[j]? =some o∧ ∃ e∈o.after,Region.binds .any e=true∧e.on<j∧(e.on=k∨(bs.getD e.on 0).testBit k=true):=by
 simp only[jh,List.all_eq_true,List.mem_range] at I;have:=I j O k U;rw[h] at this;simp only[Y1,Bool.false_or] at this;cases J:ops[j]? with
 |none=>rw[J] at this;cases this
 |some o=>
  rw[J] at this;obtain⟨e,he,E⟩:=Array.any_eq_true'.1 this;simp only[U1,Nat.blt_eq,Bool.or_eq_true] at E;exact⟨o,rfl,e,he,E.1.1,E.1.2,E.2.imp (fun h=>Nat.eq_of_beq_eq_true h) id⟩
theorem zS {bs:Array Nat} {E:Array Bool} (O:jh ops bs=true) (U:Down ops E):∀ (j k:Nat),j<ops.size→k<ops.size→E.getD j false=true→
  (bs.getD j 0).testBit k=true→E.getD k false=true:=by
 intro j;induction j using Nat.strongRecOn with
 |_ j V=>
  intro k W I X h;obtain⟨o,Y,e,he,Z,aa,h⟩:=uM O W I h;have J:=U j o Y X e he Z;rcases h with rfl|h
  ·exact J
  ·exact V e.on aa k (by omega) I J h
theorem uN {bs:Array Nat} {E:Array Bool} (I:jh ops bs=true) (W:Down ops E) {j k:Nat} (J:k<ops.size) (X:j∈Region.ready .any ops E)
  (h:(bs.getD j 0).testBit k=true):E.getD k false=true:=by
 obtain⟨_,o,O,Y⟩:=mem_ready.1 X;have Z:=(l7.1 O).1;obtain⟨o',U,e,he,aa,ab,h⟩:=uM I Z J h;rw[O] at U;cases U;have V:=Y e he aa;rcases h with rfl|h
 ·exact V
 ·exact zS I W e.on k (by omega) J V h
theorem Down.set {E:Array Bool} (W:Down ops E) {i:Nat} (X:i∈Region.ready .any ops E):Down ops (E.setIfInBounds i true):=by
 intro x o I J e he O;by_cases U:x=i
 ·subst U;obtain⟨_,o',V,Y⟩:=mem_ready.1 X;rw[I] at V;cases V;exact getD_set_true (Y e he O)
 ·rw[getD_set_ne false (Ne.symm U)] at J;exact getD_set_true (W x o I J e he O)
theorem sm {E:Array Bool} {k:Nat} (h:E.getD k true=false):E.getD k false=false:=by
 rcases Nat.lt_or_ge k E.size with h'|h'
 ·simpa[h'] using h
 ·simp[Array.getElem?_eq_none h'] at h
def jO (ops:Array U8) (i:Nat):Bool:=match ops[i]? with
 |some o=>je o
 |none=>false
def jP (bs:Array Nat) (E:List (x5×List (Nat×(x5→Prop)))) (j:Nat) (w':x5):Prop:=∀ g∈E,∀ x∈g.2,iz bs j x.1=true→Ext g.1 w'∨x.2 w'
theorem sn {bs:Array Nat} {j:Nat} {w':x5}:∀ {l:List (Nat×(x5→Prop))},lV bs j w' l→ ∀ x∈l,iz bs j x.1=true→x.2 w'
 |[],_,_,h,_=>by cases h
 |y::l,h,x,E,hu=>by
  unfold lV at h;cases I:iz bs j y.1 with
  |true=>
   rw[I] at h;cases E with
   |head=>exact h.1
   |tail _ E=>exact sn h.2 x E hu
  |false=>
   rw[I] at h;cases E with
   |head=>rw[I] at hu;cases hu
   |tail _ E=>exact sn (show lV bs j w' l from h) x E hu
theorem uO {bs:Array Nat} {j:Nat}:∀ {l:List (Nat×(x5→Prop))},nC bs j l=false→ ∀ x∈l,iz bs j x.1=false
 |[],_,_,h=>by cases h
 |y::l,h,x,E=>by
  simp only[nC,U5] at h;cases E with
  |head=>exact h.1
  |tail _ E=>exact uO h.2 x E
theorem sq {bs:Array Nat} {j:Nat} {w':x5} {C:Prop}:∀ {V:List (x5×List (Nat×(x5→Prop)))},kF bs j w' C V→C∧jP bs V j w'
 |[],h=>⟨h,fun g W=>by cases W⟩
 |g::r,h=>by
  unfold kF at h;cases hu:nC bs j g.2 with
  |true=>
   rw[hu] at h;obtain⟨h1,O⟩:=sq h.2;refine⟨h1,fun U E x J I=>?_⟩;cases E with
   |head=>exact h.1.imp id fun h=>sn h x J I
   |tail _ E=>exact O U E x J I
  |false=>
   rw[hu] at h;obtain⟨h1,O⟩:=sq (show kF bs j w' C r from h);refine⟨h1,fun U E x J I=>?_⟩;cases E with
   |head=>rw[uO hu x J] at I;cases I
   |tail _ E=>exact O U E x J I
def sr (ops:Array U8) (bs:Array Nat) (E:List (x5×List (Nat×(x5→Prop)))) (j:Nat) (w w':x5):Prop:=(jO ops j=true→Ext w w')∧(jO ops j=false→jP bs E j w')
def gu (r:Option Nat) (P:X1) (ops:Array U8) (bs:Array Nat) (Q:Exit→Act→x5→Prop):Nat→Array Bool→List (x5×List (Nat×(x5→Prop)))→Act→x5→Prop
 |0,E,_,a,w=>Region.ready .any ops E=[]∧Q .normal a w
 |fuel+1,E,I,a,w=>(Region.ready .any ops E=[]→Q .normal a w)∧
  ∀ i∈Region.ready .any ops E,wpOpIn (dB r) 0 P ops Q i (fun a' w'=>sr ops bs I i w w'∧gu r P ops bs Q fuel (E.setIfInBounds i true) I a' w') a w
theorem gu.any {bs:Array Nat}:∀ (fuel:Nat) (E:Array Bool) (I:List (x5×List (Nat×(x5→Prop)))) (a:Act) (w:x5),gu r P ops bs Q fuel E I a w→wpAnyIn (dB r) 0 P .any ops Q fuel E a w
 |0,_,_,_,_,h=>h
 |fuel+1,_,_,_,_,h=>⟨h.1,fun i hi=>wpOpIn_mono (fun a' w' h'=>gu.any fuel _ _ a' w' h'.2) (h.2 i hi)⟩
theorem zT {bs:Array Nat} {E:Array Bool} (I:jh ops bs=true) (J:Down ops E) {i j:Nat} {V:U8} (hi:ops[i]? =some V)
  (O:i∈Region.ready .any ops E) (U:j∈Region.ready .any ops E) (W:j≠i):iz bs j i=true:=by
 have X:=(l7.1 hi).1;obtain⟨Y,ac,Z,_⟩:=mem_ready.1 U;have aa:=(l7.1 Z).1;have ab:=(mem_ready.1 O).1;simp only[iz,U1,Bool.not_eq_true'];refine⟨?_,?_,?_⟩
 ·cases h:Nat.beq i j with
  |true=>exact absurd (Nat.eq_of_beq_eq_true h).symm W
  |false=>rfl
 ·cases h:(bs.getD j 0).testBit i with
  |true=>have:=uN I J X U h;rw[sm ab] at this;cases this
  |false=>rfl
 ·cases h:(bs.getD i 0).testBit j with
  |true=>have:=uN I J aa O h;rw[sm Y] at this;cases this
  |false=>rfl
theorem gu.take {bs:Array Nat} (al:jh ops bs=true) (am:Region.noSelect ops=true) (ao:∀ c a w,¬Q (.panic c) a w) {i:Nat} {I:U8} {v:x4} (hi:ops[i]? =some I) (ap:je I=true)
  {w0:x5} {X ev':List (x5×List (Nat×(x5→Prop)))} (ac:∀ j w',jP bs ev' j w'→jP bs X j w') {st:x5→Prop} (aq:kE I=false→ ∀ j w',iz bs j i=true→jP bs ev' j w'→Ext w0 w'∨st w'):
  ∀ (fuel:Nat) (E:Array Bool) (a:Act) (w:x5),Down ops E→
   (∀ j V,ops[j]? =some V→j≠i→E.getD j true=false→(∀ e∈V.after,Region.binds .any e=true→e.on≠i)→I.apart ops V=true)→
   i∈Region.ready .any ops E→fX P ops I v a (jN I w0 st)→jN I w0 st w→
   gu r P ops bs Q fuel (E.setIfInBounds i true) ev' (a.put I.dst v) w→gu r P ops bs Q (fuel+1) E X a w:=by
 have ad:=Region.noSelect_spec am;have au:jO ops i=true:=by simp[jO,hi,ap]
 have fL:∀ (fuel:Nat) (E:Array Bool) (a:Act) (w:x5),gu r P ops bs Q fuel E ev' a w→gu r P ops bs Q fuel E X a w:=by
  intro fuel;induction fuel with
  |zero=>intro E a w h;exact h
  |succ fuel Z=>intro E a w h;exact⟨h.1,fun j O=>wpOpIn_mono (fun a' w' h'=>⟨⟨h'.1.1,fun aa=>ac _ _ (h'.1.2 aa)⟩,Z _ a' w' h'.2⟩) (h.2 j O)⟩
 have ae:∀ w,sr ops bs X i w w:=fun w=>⟨fun _=>Ext.refl _,fun h=>by rw[au] at h;cases h⟩;intro fuel;induction fuel with
 |zero=>
  intro E a w _ _ U Y hw H;refine⟨fun h=>(by rw[h] at U;cases U),fun j O=>?_⟩;by_cases J:j=i
  ·subst J;exact Y.go hi hw ⟨ae w,fL _ _ _ _ H⟩
  ·have:=ready_mono O J;rw[H.1] at this;cases this
 |succ fuel Z=>
  intro E a w af ag U Y hw H;refine⟨fun h=>(by rw[h] at U;cases U),fun j O=>?_⟩;by_cases J:j=i
  ·subst J;exact Y.go hi hw ⟨ae w,fL _ _ _ _ H⟩
  ·have h1:=H.2 j (ready_mono O J);have hu:=zT al af hi U O J;obtain⟨ah,V,ab,av⟩:=mem_ready.1 O;have aw:∀ e∈V.after,Region.binds .any e=true→e.on≠i:=fun e he ax ay=>by
    have h1:=av e he ax;rw[ay,sm (mem_ready.1 U).1] at h1;cases h1
   have az:=zR ab (ag j V ab J ah aw) (fun cs b=>ad i I cs b hi) (fun cs b=>ad j V cs b ab) ao Y h1;have aA:∀ k ok,ops[k]? =some ok→k≠i→(E.setIfInBounds j true).getD k true=false→
     (∀ e∈ok.after,Region.binds .any e=true→e.on≠i)→I.apart ops ok=true:=fun k ok aB aC ai aD=>by
    refine ag k ok aB aC ?_ aD;by_cases aj:j=k
    ·subst aj;exact ah
    ·rw[getD_set_ne true aj] at ai;exact ai
   refine wpOpIn_mono (fun a' w' W=>⟨⟨W.2.1.1,fun aa=>ac _ _ (W.2.1.2 aa)⟩,Z (E.setIfInBounds j true) a' w' (af.set O) aA (ready_mono U (Ne.symm J)) W.1 ?_ ?_⟩) az
   ·cases hm:kE I with
    |true=>exact .inl hm
    |false=>
     cases ak:jO ops j with
     |true=>exact hw.ext (W.2.1.1 ak)
     |false=>exact .inr ((aq hm j w' hu (W.2.1.2 ak)).imp id fun h=>⟨w',h,Ext.refl _⟩)
   ·rw[Array.setIfInBounds_comm _ _ J];exact W.2.2
theorem uP {p:Nat→Prop}:∀ {l:List Nat},sj p l→ ∀ i∈l,p i
 |[],_,_,h=>by cases h
 |[i],h,j,E=>by cases E with
  |head=>exact h
  |tail _ h=>cases h
 |i::k::l,h,j,E=>by
  obtain⟨h1,I⟩:=h;cases E with
  |head=>exact h1
  |tail _ E=>exact uP I j E
theorem ss:∀ {l:List Nat} {q:Nat},jK ops l=some q→q∈l∧ ∃ o,ops[q]? =some o∧je o=true
 |[],q,h=>by cases h
 |i::l,q,h=>by
  simp only[jK] at h;cases E:ops[i]? with
  |none=>rw[E] at h;obtain⟨h1,I⟩:=ss h;exact⟨.tail _ h1,I⟩
  |some o=>
   rw[E] at h;simp only at h;cases J:je o with
   |true=>rw[J] at h;simp only[cond_true,Z7] at h;subst h;exact⟨.head _,o,E,J⟩
   |false=>rw[J] at h;obtain⟨h1,I⟩:=ss h;exact⟨.tail _ h1,I⟩
theorem zU {o:U8} {e:Env} {a:Act} {w:x5} {K:Env→(x5→Prop)→Prop} (h:si P ops o e w K) (E:U4 N e a) (aa:hq N o.dst=true):
  ∃ v st,fX P ops o v a (jN o w st)∧ ∃ I,K I st∧U4 N I (a.put o.dst v):=by
 unfold si at h;have V:∀ {e:Env},U4 N e a→jf P o e w K→Region.wanted o (yielded ops a.tmps)=true→ ∃ v st,fX P ops o v a (jN o w st)∧ ∃ I,K I st∧U4 N I (a.put o.dst v):=fun E h hw=>by
  obtain⟨v,st,h1,ab,ac,ad⟩:=uJ h E aa;exact⟨v,st,.inl ⟨hw,ac,fun w' W=>W.elim (fun hm=>zQ hm (h1 w (Ext.refl w))) fun h=>h.elim (h1 w') fun⟨ae,af,ag⟩=>ad ae af w' ag⟩,ab⟩
 have skip:∀ {e:Env},U4 N e a→K (dl e o.dst .u) (fun _=>True)→Region.wanted o (yielded ops a.tmps)=false→ ∃ v st,fX P ops o v a (jN o w st)∧ ∃ I,K I st∧U4 N I (a.put o.dst v):=fun E h hw=>
  ⟨undef,_,.inr ⟨hw,rfl⟩,_,h,E.put aa rfl⟩
 cases J:o.guard with
 |none=>rw[J] at h;exact V E h (by simp[Region.wanted,J])
 |some ah=>
  obtain⟨j,b⟩:=ah;rw[J] at h;simp only at h;cases U:(ops[j]?).bind (·.dst) with
  |none=>rw[U] at h;exact h.elim
  |some s=>
   rw[U] at h;simp only at h;cases O:look e s with
   |none=>rw[O] at h;exact h.elim
   |some x=>
    rw[O] at h;cases x with
    |b c=>
     simp only at h;have hw:=qp E J U O (c:=c) rfl;cases W:xor c b with
     |true=>rw[W] at h hw;exact skip E h hw
     |false=>rw[W] at h hw;exact V E h hw
    |v y=>
     simp only at h;obtain⟨c,rfl,X,Y⟩:=h;have hw:=qp E J U O (c:=c) rfl;have Z:=E.lit O (c:=c) rfl;cases c with
     |true=>
      have X:=X rfl;cases b with
      |true=>exact V Z X hw
      |false=>exact skip Z X hw
     |false=>
      have Y:=Y rfl;cases b with
      |true=>exact skip Z Y hw
      |false=>exact V Z Y hw
    |u=>exact skip E h (uK E J U O)
theorem su:∀ {l:List Nat},jK ops l=none→ ∀ j∈l,jO ops j=false
 |[],_,_,h=>by cases h
 |i::l,h,j,E=>by
  simp only[jK] at h;cases I:ops[i]? with
  |none=>
   rw[I] at h;cases E with
   |head=>simp[jO,I]
   |tail _ E=>exact su h j E
  |some o=>
   rw[I] at h;simp only at h;cases J:je o with
   |true=>rw[J] at h;cases h
   |false=>
    rw[J] at h;cases E with
    |head=>simp[jO,I,J]
    |tail _ E=>exact su h j E
theorem zV {bs:Array Nat} {same:Bool} {q:Nat} {w:x5} {st:x5→Prop} {E:List (x5×List (Nat×(x5→Prop)))} (O:same=true→ ∃ ks r,E=(w,ks)::r):
  (∀ j w',jP bs (nB same q w st E) j w'→jP bs E j w')∧(∀ j w',iz bs j q=true→jP bs (nB same q w st E) j w'→Ext w w'∨st w')∧ ∃ ks r,nB same q w st E=(w,ks)::r:=by
 cases same with
 |true=>
  obtain⟨ks,r,rfl⟩:=O rfl;refine⟨fun j w' h g I x J hu=>?_,fun j w' hu h=>h (w,(q,st)::ks) (.head _) (q,st) (.head _) hu,_,_,rfl⟩;cases I with
  |head=>exact h (w,(q,st)::ks) (.head _) x (.tail _ J) hu
  |tail _ I=>exact h g (.tail _ I) x J hu
 |false=>
  refine⟨fun j w' h g I x J hu=>h g (.tail _ I) x J hu,fun j w' hu h=>h (w,[(q,st)]) (.head _) (q,st) (.head _) hu,_,_,rfl⟩
theorem zW {K:Env→x5→Prop} {D:List Nat} {bs:Array Nat} (am:jh ops bs=true) (ao:Region.noSelect ops=true) (ap:∀ c a w,¬Q (.panic c) a w)
  (ag:∀ o∈ops.toList,∀ t,o.dst=some t→t∈D) (aq:kG N ops.toList=true):
  ∀ (fuel:Nat) (I:Array Bool) (same:Bool) (J:List (x5×List (Nat×(x5→Prop)))) (e:Env) (a:Act) (w:x5),Down ops I→(same=true→ ∃ ks r,J=(w,ks)::r)→
   jL P free ops bs fuel I same J e w K→U4 N e a→
   (∀ a' w',jM N free K D a w a' w'→Q .normal a' w')→gu r P ops bs Q fuel I J a w:=by
 have ab:∀ {j:Nat} {o:U8},ops[j]? =some o→o∈ops.toList:=fun h=>by
  rw[←U7] at h;exact u4 h
 have ok:∀ {j:Nat} {o:U8},ops[j]? =some o→hq N o.dst=true:=fun h=>by
  simp only[kG,List.all_eq_true] at aq;exact aq _ (ab h)
 intro fuel;induction fuel with
 |zero=>
  intro I same J e a w W ah h Y X;unfold jL at h;cases U:Region.ready .any ops I with
  |nil=>rw[U] at h;exact⟨U,X a w ⟨e,h,Y,e8.refl _ _,fun _=>cm.refl _ _⟩⟩
  |cons i l=>rw[U] at h;exact h.elim
 |succ fuel ai=>
  intro I same J e a w W ah h Y X;unfold jL at h;cases U:Region.ready .any ops I with
  |nil=>
   rw[U] at h;refine⟨fun _=>X a w ⟨e,h,Y,e8.refl _ _,fun _=>cm.refl _ _⟩,fun i hi=>?_⟩;rw[U] at hi;cases hi
  |cons i l=>
   rw[U] at h;simp only at h;cases ac:jK ops (i::l) with
   |some q=>
    rw[ac] at h;simp only at h;obtain⟨az,o,E,au⟩:=ss ac;cases ad:Region.free .any ops I q with
    |false=>rw[ad] at h;exact h.elim
    |true=>
     rw[ad,E] at h;simp only[cond_true] at h;obtain⟨v,st,av,ae,V,aw⟩:=zU h Y (ok E);have af:q∈Region.ready .any ops I:=by rw[U];exact az
     cases hm:kE o with
     |true=>
      rw[hm] at V;refine gu.take am ao ap E au (w0:=w) (ev':=J) (fun _ _ h=>h) (fun h=>by rw[hm] at h;cases h) fuel I a w W (Region.free_spec E ad) af av (.inr (.inl (Ext.refl _))) ?_;exact ai _ same J ae _ w (W.set af) ah V aw fun a' w' O=>X a' w' (O.step (e8.put a v fun t Z=>ag o (ab E) t Z) fun _=>cm.refl _ _)
     |false=>
      rw[hm] at V;obtain⟨h1,aA,aB⟩:=zV (bs:=bs) (q:=q) (st:=st) ah;refine gu.take am ao ap E au (w0:=w) (ev':=nB same q w st J) h1 (fun _=>aA) fuel I a w W (Region.free_spec E ad) af av (.inr (.inl (Ext.refl _))) ?_;exact ai _ true _ ae _ w (W.set af) (fun _=>aB) V aw fun a' w' O=>X a' w' (O.step (e8.put a v fun t Z=>ag o (ab E) t Z) fun _=>cm.refl _ _)
   |none=>
    rw[ac] at h;simp only at h;refine⟨(fun ax=>by rw[U] at ax;cases ax),fun j ay=>?_⟩;have aj:=ay;rw[U] at aj;have aC:=su ac j aj;have O:=uP h j aj;cases E:ops[j]? with
    |none=>rw[E] at O;exact O.elim
    |some o=>
     rw[E] at O;simp only at O;unfold wpOpIn;simp only[E];have next:∀ ak aa,ek N free (fun ae w'=>kF bs j w' (jL P free ops bs fuel (I.setIfInBounds j true) false J ae w' K) J) o a w ak aa→
       sr ops bs J j w aa∧gu r P ops bs Q fuel (I.setIfInBounds j true) J ak aa:=by
      rintro ak aa ⟨aD,v,V,aE,rfl,aF⟩;obtain⟨V,aG⟩:=sq V;exact⟨⟨fun h=>(by rw[aC] at h;cases h),fun _=>aG⟩,
       ai _ false J aD _ aa (W.set ay) (fun h=>by cases h) V aE fun a' w' O=>X a' w' (O.step (e8.put a v fun t Z=>ag o (ab E) t Z) aF)⟩
     rcases uL (r:=r) (Q:=Q) O Y (ok E) with⟨hw,al⟩|⟨hw,al⟩
     ·rw[if_pos hw];exact U8.wpIn_mono next al
     ·rw[hw];exact⟨fun _ _=>trivial,next _ _ al⟩
theorem zX (hm:P.follows .mixedOrders=true) {K:Env→x5→Prop} {D:List Nat} {id:Nat} {e:Env} {a:Act} {w:x5} (J:jh ops (Region.before ops)=true) (O:∀ c a w,¬Q (.panic c) a w)
  (U:∀ o∈ops.toList,∀ t,o.dst=some t→t∈D) (V:kG N ops.toList=true)
  (h:∀ w',Ext w w'→Ext w' w→cP w w'→sk P free ops e w' K) (W:U4 N e a) (X:∀ a' w',jM N free K D a w a' w'→Q .normal a' w'):
  (Code.region id ops true).wpIn (dB r) 0 P Q a w:=by
 refine wpIn_region_any hm ?_;have h:=h {w with drawn:=w.drawn+1} (qj w _) ⟨o7 _,fun _ _ h _=>h⟩ (nv w _ (Nat.le_succ _));unfold sk at h;cases E:Region.noSelect ops with
 |false=>rw[E] at h;exact h.elim
 |true=>
  rw[E] at h;refine gu.any _ _ _ _ _ (zW J E O U V ops.size _ false [] e a _ ?_ (fun h=>by cases h) h W fun a' w' Y=>X a' w' (Y.step (e8.refl _ _) fun _=>(nv w _ (Nat.le_succ _)).b));intro x o _ I;rcases Nat.lt_or_ge x ops.size with h'|h'
  ·simp[h'] at I
  ·simp[h'] at I
end
def gU (t:Nat):List Nat→Bool
 |[]=>false
 |s::r=>bif Nat.beq s t then true else gU t r
theorem sw {t:Nat}:∀ {l:List Nat},gU t l=true↔t∈l
 |[]=>by simp[gU]
 |s::r=>by
  simp only[gU];cases h:Nat.beq s t with
  |true=>simp[Nat.eq_of_beq_eq_true h]
  |false=>
   have:=Nat.ne_of_beq_eq_false h;simp[sw (l:=r),Ne.symm this]
def kH:List U8→List Nat
 |[]=>[]
 |o::l=>match o.dst with
  |some d=>d::kH l
  |none=>kH l
def tmpsOf:List Operand→List Nat
 |[]=>[]
 | .tmp t::l=>t::tmpsOf l
 |_::l=>tmpsOf l
def zY (ops:Array U8) (o:U8):List Nat:=
 match o.guard with
 |some (j,_)=>match (ops[j]?).bind (·.dst) with
  |some s=>[s]
  |none=>[]
 |none=>[]
def qq (D:List Nat):List Nat→List Nat
 |[]=>[]
 |t::r=>bif gU t D then qq D r else t::qq D r
def sx (D:List Nat):List Nat→List Nat
 |[]=>[]
 |t::r=>bif gU t D then t::sx D r else sx D r
def uQ (ops:Array U8):List U8→List Nat→List Nat
 |[],_=>[]
 |o::l,D=>qq D (tmpsOf (opsOf o.op)++zY ops o)++uQ ops l (match o.dst with
  |some d=>d::D
  |none=>D)
def cU:Code→List Nat
 | .region _ ops _=>kH ops.toList
 | .seq a b=>cU a++cU b
 | .cond _ a b=>cU a++cU b
 | .block _ c=>cU c
 | .loop c=>cU c
 | .scope c=>cU c
 |_=>[]
def iA (id:Nat):Code→Nat
 | .seq a b=>iA id a+iA id b
 | .cond _ a b=>iA id a+iA id b
 | .block _ c=>iA id c
 | .loop c=>iA id c
 | .scope c=>iA id c
 | .exit i=>bif Nat.beq i id then 1 else 0
 | .rangeFunc _ _ _ b=>iA id b
 |_=>0
def zZ (ops:Array U8):Bool:=
 let bs:=Region.before ops;let E:=fun(i:Nat)=>match ops[i]? with|some o=>!(je o)|none=>false
 (X7 ops.size).any fun j=>E j&&((X7 j).any fun i=>E i&&(!((bs.getD j 0).testBit i)&& !((bs.getD i 0).testBit j)))
def iB:Code→Nat
 | .region _ ops E=>bif (E&&zZ ops)||ops.any (·.guard.isSome) then 2 else 1
 | .seq a b=>bif Nat.beq (iB a) 0 then 0 else iB b
 | .cond _ a b=>iB a+iB b
 | .block id c=>iB c+iA id c
 | .loop _=>0
 | .scope c=>iB c
 | .exit _=>0
 | .goto _=>0
 | .ret=>0
 | .refuse _=>0
 |_=>1
def ji:Code→List Nat
 | .region _ ops _=>kH ops.toList
 | .seq a b=>ji a++ji b
 | .cond _ a b=>bif Nat.beq (iB a) 0 then ji b else bif Nat.beq (iB b) 0 then ji a else sx (ji a) (ji b)
 | .block id c=>bif Nat.beq (iA id c) 0 then ji c else[]
 | .scope c=>ji c
 |_=>[]
def reads:Code→List Nat
 | .region _ ops _=>uQ ops ops.toList []
 | .seq a b=>reads a++qq (ji a) (reads b)
 | .cond c a b=>tmpsOf [c]++(reads a++reads b)
 | .block _ c=>reads c
 | .loop c=>reads c
 | .scope c=>reads c
 | .rangeFunc f _ a b=>tmpsOf [f]++(reads a++reads b)
 |_=>[]
def hU:Code→Bool
 | .seq a b=>hU a||hU b
 | .cond _ a b=>hU a||hU b
 | .block _ c=>hU c
 | .loop c=>hU c
 | .scope c=>hU c
 | .rangeFunc ..=>true
 |_=>false
def wf (N:Nat):Code→Bool
 | .region _ ops E=>kG N ops.toList&&(!E||jh ops (Region.before ops))
 | .seq a b=>wf N a&&wf N b
 | .cond _ a b=>wf N a&&wf N b
 | .block _ c=>wf N c
 | .loop c=>wf N c
 | .scope c=>wf N c
 | .rangeFunc _ I a b=>(I.toList.all fun t=>Nat.blt t N)&&(wf N a&&wf N b)
 |_=>true
def kI:Nat→Type→Type
 |0,β=>β
 |n+1,β=>x4→kI n β
def app {β:Type}:(n:Nat)→kI n β→List x4→β
 |0,f,_=>f
 |n+1,f,[]=>app n (f undef) []
 |n+1,f,v::r=>app n (f v) r
def lam {β:Type}:(n:Nat)→(List x4→β)→kI n β
 |0,f=>f []
 |n+1,f=>fun v=>lam n fun r=>f (v::r)
def qs:(n:Nat)→kI n Prop→Prop
 |0,p=>p
 |n+1,p=>∀ v,qs n (p v)
theorem qt {β:Type}:∀ (n:Nat) (f:List x4→β) (vs:List x4),vs.length=n→app n (lam n f) vs=f vs
 |0,f,[],_=>rfl
 |n+1,f,v::r,h=>by
  simp only[app,lam];exact qt n _ r (by simpa using h)
theorem qu:∀ (n:Nat) (p:kI n Prop) (vs:List x4),qs n p→app n p vs
 |0,_,_,h=>h
 |n+1,_,[],h=>qu n _ [] (h undef)
 |n+1,_,v::r,h=>qu n _ r (h v)
def z1 (n:Nat) (vs:List x4) (w:x5) (B:List x4→x5→(List x4→x5→Prop)→Prop):Prop:=
 ∃ (E:kI n (x5→Prop)) (I:kI n (x5→Nat)),app n E vs w∧
  qs n (lam n fun us=>∀ w',app n E us w'→B us w' fun J O=>app n E J O∧app n I J O<app n I us w')
def z6 (w:x5) (B:x5→(x5→Prop)→Prop):Prop:=
 ∃ (E:x5→Prop) (I:x5→Nat),E w∧ ∀ w',E w'→B w' fun J=>E J∧I J<I w'
def bc (a:x4) (w:x5) (B:x4→x5→(x4→x5→Prop)→Prop):Prop:=
 ∃ (E:x4→x5→Prop) (I:x4→x5→Nat),E a w∧ ∀ a w',E a w'→B a w' fun a' J=>E a' J∧I a' J<I a w'
def a8 (a b:x4) (w:x5) (B:x4→x4→x5→(x4→x4→x5→Prop)→Prop):Prop:=
 ∃ (E:x4→x4→x5→Prop) (I:x4→x4→x5→Nat),E a b w∧ ∀ a b w',E a b w'→B a b w' fun a' J O=>E a' J O∧I a' J O<I a b w'
def hV (a b c:x4) (w:x5) (B:x4→x4→x4→x5→(x4→x4→x4→x5→Prop)→Prop):Prop:=
 ∃ (E:x4→x4→x4→x5→Prop) (I:x4→x4→x4→x5→Nat),E a b c w∧
  ∀ a b c w',E a b c w'→B a b c w' fun a' J O U=>E a' J O U∧I a' J O U<I a b c w'
def lW (a b c d:x4) (w:x5) (B:x4→x4→x4→x4→x5→(x4→x4→x4→x4→x5→Prop)→Prop):Prop:=
 ∃ (E:x4→x4→x4→x4→x5→Prop) (I:x4→x4→x4→x4→x5→Nat),E a b c d w∧
  ∀ a b c d w',E a b c d w'→B a b c d w' fun a' J O U V=>E a' J O U V∧I a' J O U V<I a b c d w'
def jj (a b c d e:x4) (w:x5) (B:x4→x4→x4→x4→x4→x5→(x4→x4→x4→x4→x4→x5→Prop)→Prop):Prop:=
 ∃ (E:x4→x4→x4→x4→x4→x5→Prop) (I:x4→x4→x4→x4→x4→x5→Nat),E a b c d e w∧ ∀ a b c d e w',E a b c d e w'→B a b c d e w' fun a' J O U V W=>E a' J O U V W∧I a' J O U V W<I a b c d e w'
def aB {α:Type} (E:α) (B:α→Prop):Prop:=B E
def fY (w:x5) (K:x5→Prop):Prop:=∀ w',Ext w w'→Ext w' w→K w'
def Over (w:x5) (K:x5→Prop):Prop:=∀ w',Ext w w'→Ext w' w→eM w w'→K w'
def aQ (w:x5) (K:x5→Prop):Prop:=∀ w',Ext w w'→Ext w' w→cP w w'→K w'
def hW (e:Env):List Nat→Option (List x4)
 |[]=>some []
 |t::r=>match look e t with
  |some x=>match hW e r with
   |some vs=>some (x.val::vs)
   |none=>none
  |none=>none
def gV:List Nat→List x4→Env→Env
 |t::r,v::vs,e=>(t,.v v)::gV r vs e
 |_,_,e=>e
def jk (D:List Nat):Env→Env
 |[]=>[]
 |(t,x)::r=>bif gU t D then jk D r else (t,x)::jk D r
def nD (N:Nat) (D R:List Nat):List Nat:=(X7 N).filter fun t=>gU t D&&gU t R
def nE (N:Nat) (D R:List Nat) (e:Env):List Nat:=(X7 N).filter fun t=>gU t D&&((look e t).isSome&&gU t R)
def hX:Code→Bool
 | .seq a b=>hX a||hX b
 | .cond _ a b=>hX a||hX b
 | .block _ c=>hX c
 | .loop c=>hX c
 | .scope c=>hX c
 | .rangeFunc _ _ a b=>hX a||hX b
 | .ret=>true
 |_=>false
def z7 (i:Nat) (l:List Nat):List Nat:=bif gU i l then l else i::l
def qv:List Nat→List Nat→List Nat
 |[],l=>l
 |i::r,l=>z7 i (qv r l)
def sy (i:Nat):List Nat→List Nat
 |[]=>[]
 |j::r=>bif Nat.beq i j then sy i r else j::sy i r
def iC:Code→List Nat
 | .seq a b=>qv (iC a) (iC b)
 | .cond _ a b=>qv (iC a) (iC b)
 | .block id c=>sy id (iC c)
 | .loop c=>iC c
 | .scope c=>iC c
 | .rangeFunc _ _ a b=>qv (iC a) (iC b)
 | .exit i=>[i]
 |_=>[]
def nF:List (Nat×(x5→Prop))→Nat→x5→Prop
 |[],_,_=>False
 |(j,k)::r,i,w=>(i=j∧k w)∨nF r i w
def sz (K:Nat→x5→Prop):List Nat→List (Nat×(x5→Prop))
 |[]=>[]
 |i::r=>(i,fun w=>K i w)::sz K r
theorem uR {K:Nat→x5→Prop}:∀ {l:List Nat} {i:Nat} {w:x5},nF (sz K l) i w→K i w
 |[],_,_,h=>h.elim
 |j::r,i,w,h=>by
  rcases h with⟨rfl,h⟩|h
  ·exact h
  ·exact uR h
section
variable (P:X1)
def nG {O:Type} (G:Bool) (g:FuncId) (cap:List x4) (Y:O) (Z:O→Prop) (aa:O→List x4→O→x5→Prop) (W:x5→Prop):Prop:=
 Enters P g∧ ∀ (l:Nat) (J U:O→x5→Prop) (w:x5),
  (∀ k E I,Ext E I→cm w.heap.size E I→J k E→J k I)→(∀ k E I,Ext E I→cm w.heap.size E I→U k E→U k I)→
  (∀ k X vs w',W w'→aa k vs X w'→J k w'→lS P l vs w' fun v V=>(v= .bool true∧W V∧J X V∧(G=true→eM w' V))∨(v= .bool false∧U k V))→
  W w→J Y w→eA P g (.func (.yield l) #[] #[]::cap) w fun _ w'=>(∃ k,Z k∧J k w')∨ ∃ k,U k w'
def sA (G:Bool) (g:FuncId) (cap:List x4) (n:Nat) (W:Nat→List x4→x5→Prop) (V:x5→Prop):Prop:=
 Enters P g∧ ∀ (l:Nat) (J O:Nat→x5→Prop) (w:x5),
  (∀ k E I,Ext E I→cm w.heap.size E I→J k E→J k I)→(∀ k E I,Ext E I→cm w.heap.size E I→O k E→O k I)→
  (∀ k vs w',k<n→V w'→W k vs w'→J k w'→lS P l vs w' fun v U=>(v= .bool true∧V U∧J (k+1) U∧(G=true→eM w' U))∨(v= .bool false∧O k U))→
  V w→J 0 w→eA P g (.func (.yield l) #[] #[]::cap) w fun _ w'=>J n w'∨ ∃ k,k<n∧O k w'
abbrev nH (g:FuncId) (cap:List x4) (n:Nat) (E:Nat→List x4→x5→Prop) (I:x5→Prop):Prop:=sA P false g cap n E I
def z8 (aa:x4) (W:Nat) (w:x5) (B:List x4→x5→(Exit→x5→Prop)→Prop) (ab ac:x5→Prop) (ad:List (Nat×(x5→Prop))):Prop:=
 ∃ (E:Type) (G:Bool) (g:FuncId) (cap:Array x4) (Y:E) (Z:E→Prop) (X:E→List x4→E→x5→Prop) (I:x5→Prop) (J:E→x5→Prop) (O:E→Exit→x5→Prop),
  aa= .func (.func g) #[] cap∧nG P G g cap.toList Y Z X I∧(∀ k vs U w,X k vs U w→vs.length=W)∧
  (∀ w w',Ext w w'→I w→I w')∧(∀ k w w',Ext w w'→J k w→J k w')∧(∀ k ex w w',Ext w w'→O k ex w→O k ex w')∧
  I w∧J Y w∧
  qs W (lam W fun vs=>∀ k U w',I w'→X k vs U w'→J k w'→B vs w' fun ex V=>match ex with
   | .normal=>I V∧J U V∧(G=true→eM w' V)
   |ex=>O k ex V)∧
  (∀ k w',Z k→J k w'→ab w')∧(∀ k w',O k .ret w'→ac w')∧(∀ k i w',O k (.exit i) w'→nF ad i w')
def uS (Z:x4) (w:x5) (B:x4→x5→(Exit→x5→Prop)→Prop) (aa ab:x5→Prop) (ac:List (Nat×(x5→Prop))):Prop:=
 ∃ (E:Type) (G:Bool) (g:FuncId) (cap:Array x4) (X:E) (Y:E→Prop) (W:E→List x4→E→x5→Prop) (I:x5→Prop) (J:E→x5→Prop) (O:E→Exit→x5→Prop),
  Z= .func (.func g) #[] cap∧nG P G g cap.toList X Y W I∧(∀ k vs U w,W k vs U w→vs.length=1)∧
  (∀ w w',Ext w w'→I w→I w')∧(∀ k w w',Ext w w'→J k w→J k w')∧(∀ k ex w w',Ext w w'→O k ex w→O k ex w')∧
  I w∧J X w∧
  (∀ a,∀ k U w',I w'→W k [a] U w'→J k w'→B a w' fun ex V=>match ex with
   | .normal=>I V∧J U V∧(G=true→eM w' V)
   |ex=>O k ex V)∧
  (∀ k w',Y k→J k w'→aa w')∧(∀ k w',O k .ret w'→ab w')∧(∀ k i w',O k (.exit i) w'→nF ac i w')
def sB (Z:x4) (w:x5) (B:x4→x4→x5→(Exit→x5→Prop)→Prop) (aa ab:x5→Prop) (ac:List (Nat×(x5→Prop))):Prop:=
 ∃ (E:Type) (G:Bool) (g:FuncId) (cap:Array x4) (X:E) (Y:E→Prop) (W:E→List x4→E→x5→Prop) (I:x5→Prop) (J:E→x5→Prop) (O:E→Exit→x5→Prop),
  Z= .func (.func g) #[] cap∧nG P G g cap.toList X Y W I∧(∀ k vs U w,W k vs U w→vs.length=2)∧
  (∀ w w',Ext w w'→I w→I w')∧(∀ k w w',Ext w w'→J k w→J k w')∧(∀ k ex w w',Ext w w'→O k ex w→O k ex w')∧
  I w∧J X w∧
  (∀ a b,∀ k U w',I w'→W k [a,b] U w'→J k w'→B a b w' fun ex V=>match ex with
   | .normal=>I V∧J U V∧(G=true→eM w' V)
   |ex=>O k ex V)∧
  (∀ k w',Y k→J k w'→aa w')∧(∀ k w',O k .ret w'→ab w')∧(∀ k i w',O k (.exit i) w'→nF ac i w')
theorem sA.s {P:X1} {G:Bool} {g:FuncId} {cap:List x4} {n:Nat} {J:Nat→List x4→x5→Prop} {E:x5→Prop} (h:sA P G g cap n J E):
  nG P G g cap 0 (fun k=>k=n) (fun k vs O w=>k<n∧O=k+1∧J k vs w) E:=by
 refine⟨h.1,fun l U V w W X Y hE Z=>?_⟩;have:=h.2 l U (fun k w=>V k w) w W X (fun k vs w' aa hab ac ad=>Y k (k+1) vs w' hab ⟨aa,rfl,ac⟩ ad) hE Z;cases this with
 |code h1 ae=>exact .code h1 (ae.mono fun _ _ ⟨v,af,I⟩=>⟨v,af,I.elim (fun h=>.inl ⟨n,rfl,h⟩) (fun⟨k,_,h⟩=>.inr ⟨k,h⟩)⟩)
 |ext v w' h1 I=>exact .ext v w' h1 (I.elim (fun h=>.inl ⟨n,rfl,h⟩) (fun⟨k,_,h⟩=>.inr ⟨k,h⟩))
def dR (N:Nat) (free:ez):Code→List Nat→Env→x5→(Exit→Env→x5→Prop)→Prop
 | .skip,_,e,w,K=>K .normal e w
 | .label _,_,e,w,K=>K .normal e w
 | .ret,_,e,w,K=>K .ret e w
 | .exit i,_,e,w,K=>K (.exit i) e w
 | .region _ ops O,_,e,w,K=>
  bif O then aQ w fun w'=>sk P free ops e w' (K .normal)
  else lU P free ops ops.toList e w (K .normal)
 | .seq x y,rd,e,w,K=>
  bif Nat.ble 2 (iB x) then
   aB (lam (nD N (cU x) (reads y++rd)).length fun vs=>fun w'=>dR N free y rd (gV (nD N (cU x) (reads y++rd)) vs (jk (cU x) e)) w' K)
    fun U=>dR N free x (reads y++rd) e w fun ex E w'=>match ex with
     | .normal=>match hW E (nD N (cU x) (reads y++rd)) with
      |some vs=>app (nD N (cU x) (reads y++rd)).length U vs w'
      |none=>False
     |ex=>K ex E w'
  else dR N free x (reads y++rd) e w fun ex E w'=>match ex with
   | .normal=>dR N free y rd E w' K
   |ex=>K ex E w'
 | .cond c x y,rd,e,w,K=>
  match dK e c with
  |some (.b true)=>dR N free x rd e w K
  |some (.b false)=>dR N free y rd e w K
  |some (.v v)=>Split v (dR N free x rd e w K) (dR N free y rd e w K)
  |some .u=>False
  |none=>False
 | .block id c,rd,e,w,K=>dR N free c rd e w fun ex E w'=>match ex with
  | .exit i=>bif Nat.beq i id then K .normal E w' else K (.exit i) E w'
  |ex=>K ex E w'
 | .loop c,rd,e,w,K=>
  match hW e (nE N (cU c) (reads c++rd) e) with
  |some vs=>
   z1 (nE N (cU c) (reads c++rd) e).length vs w fun us w' k=>
    dR N free c (reads c++rd) (gV (nE N (cU c) (reads c++rd) e) us (jk (cU c) e)) w' fun ex E I=>match ex with
     | .normal=>match hW E (nE N (cU c) (reads c++rd) e) with
      |some V=>k V I
      |none=>False
     |ex=>K ex E I
  |none=>False
 | .scope c,rd,e,w,K=>dR N free c rd e w K
 | .rangeFunc f J W body,_,e,w,K=>
  bif free.1 then False else
  match dK e f with
  |some X=>
   z8 P X.val J.size w
    (fun vs w' k=>dR N free W (reads body) (gV J.toList.reverse vs.reverse e) w' fun ex E I=>match ex with
     | .normal=>Over I fun Y=>dR N free body [] E Y fun ex _ Z=>k ex Z
     |_=>False)
    (fun w'=>K .normal e w') (bif hX body then fun w'=>K .ret e w' else fun _=>False) (sz (fun i w'=>K (.exit i) e w') (iC body))
  |none=>False
 | .goto _,_,_,_,_=>False
 | .refuse _,_,_,_,_=>False
end
theorem qw {n:Nat} {w0 w:x5} (h:cm n w0 w) {l:Nat} (U:w0.heap.size≤l) (o:Obj):cm n w0 (w.putObj l o):=
 ⟨h.os,h.tape,h.output,by simpa using h.size,fun r x E I=>by
  have J:=(l7.1 E).1;rw[x5.putObj_heap_other (by omega)];exact h.bw r x E I,fun r x O E I=>by
  have J:=(l7.1 E).1;rw[x5.putObj_heap_other (by omega)];exact h.old r x O E I⟩
theorem uT {w0 w:x5} (h:eM w0 w) {l:Nat} {I:Obj} (O:w.heap[l]? =some I) (U:sa I=false) (o:Obj):eM w0 (w.putObj l o):=fun r x V E=>by
 have h1:=h r x V E;by_cases J:r=l
 ·subst J;rw[O] at h1;cases h1;rw[U] at E;cases E
 ·rw[x5.putObj_heap_other J];exact h1
theorem nI {w:x5} {l:Nat} {I:Obj} (U:w.heap[l]? =some I) (V:fw I=false) (o:Obj):Ext w (w.putObj l o):=
 ⟨by simp,fun r x E J=>by
  by_cases O:r=l
  ·subst O;rw[U] at E;cases E;rw[V] at J;cases J
  ·rw[x5.putObj_heap_other O];exact E⟩
theorem uU {w:x5} {l:Nat} {o:Obj} (O:fw o=false):Ext (w.putObj l o) w:=
 ⟨by simp,fun r x E I=>by
  by_cases J:r=l
  ·subst J;rcases Nat.lt_or_ge r w.heap.size with h|h
   ·rw[x5.putObj_heap_same h] at E;cases E;rw[O] at I;cases I
   ·rw[Array.getElem?_eq_none (by simpa using h)] at E;cases E
  ·rw[x5.putObj_heap_other J] at E;exact E⟩
theorem lX (w:x5) (o:Obj):Ext w (w.alloc o):=nw w o
theorem lY (w:x5) (o:Obj):cP w (w.alloc o):=nx w o
def hY (D:Nat):Deferred:={target:=.collected D,args:=#[]}
def jl (w:x5) (I:List Deferred):Prop:=∃ E:List Nat,I=E.map hY∧E.Nodup∧ ∀ D∈E,w.heap[D]? =some (.deferred (some []))
theorem jl.db {n:Nat} {w w':x5} {E:List Deferred} (h:jl w E) (I:cm n w w'):jl w' E:=by
 obtain⟨J,h1,O,U⟩:=h;exact⟨J,h1,O,fun D V=>I.bw D _ (U D V) rfl⟩
section
variable {P:X1} {N:Nat}
def Aa (w:x5) (I J:List Deferred):Prop:=∃ E:List Nat,J=E.map hY++I∧ ∀ D∈E,w.heap.size≤D
def e9 (n:Nat) (w:x5) (I:List Deferred) (w':x5) (E:List Deferred):Prop:=cm n w w'∧jl w' E∧Aa w I E
theorem e9.refl {n:Nat} {w:x5} {E:List Deferred} (h:jl w E):e9 n w E w E:=⟨cm.refl _ _,h,[],rfl,fun _ h=>by cases h⟩
theorem e9.trans {n:Nat} {w E w':x5} {I J O:List Deferred} (h:e9 n w I E J) (k:e9 n E J w' O):e9 n w I w' O:=by
 obtain⟨U,ac,V,a3,a4⟩:=h;obtain⟨W,X,Y,Z,aa⟩:=k;refine⟨U.trans W,X,Y++V,by simp[Z,a3],fun D ab=>?_⟩;rcases n0.1 ab with h|h
 ·exact Y3 U.size (aa D h)
 ·exact a4 D h
theorem e9.same {n:Nat} {w w':x5} {E:List Deferred} (h:jl w E) (I:cm n w w'):e9 n w E w' E:=⟨I,h.db I,[],rfl,fun _ h=>by cases h⟩
def iD:Exit→Bool
 | .panic _=>false
 | .outgrown=>false
 | .goto _=>false
 |_=>true
def jQ (N:Nat) (free:ez) (I:Bool) (K:Exit→Env→x5→Prop) (D:List Nat) (a:Act) (w:x5) (ex:Exit) (a':Act) (w':x5):Prop:=
 iD ex=true∧ ∃ E,K ex E w'∧U4 N E a'∧(∀ t,t∉D→a'.tmps.getD t undef=a.tmps.getD t undef)∧(I=true→a'.defers=a.defers)∧
  (free.1=false→e9 free.2 w a.defers w' a'.defers)
theorem jQ.step {free:ez} {I J:Bool} {K:Exit→Env→x5→Prop} {D O:List Nat} {a E a':Act} {w U w':x5} {ex:Exit} (h:jQ N free J K O E U ex a' w')
  (W:∀ t,t∈O→t∈D) (X:∀ t,t∉D→E.tmps.getD t undef=a.tmps.getD t undef) (Y:I=true→J=true) (Z:I=true→E.defers=a.defers)
  (aa:free.1=false→e9 free.2 w a.defers U E.defers):jQ N free I K D a w ex a' w':=by
 obtain⟨ab,ac,h1,ad,ae,af,ag⟩:=h;exact⟨ab,ac,h1,ad,fun t V=>(ae t fun h=>V (W t h)).trans (X t V),fun h=>(af (Y h)).trans (Z h),fun h=>(aa h).trans (ag h)⟩
theorem qx {D:List Nat} {t:Nat} {x:ec}:∀ {e:Env},look (jk D e) t=some x→look e t=some x∧t∉D
 |[],h=>by cases h
 |(s,y)::r,h=>by
  simp only[jk] at h;cases hm:gU s D with
  |true=>
   rw[hm] at h;simp only[cond_true] at h;obtain⟨h1,I⟩:=qx h;refine⟨?_,I⟩;simp only[look];cases E:Nat.beq s t with
   |true=>exact absurd (sw.1 hm) (by rw[Nat.eq_of_beq_eq_true E];exact I)
   |false=>exact h1
  |false=>
   rw[hm] at h;simp only[cond_false,look] at h ⊢;cases E:Nat.beq s t with
   |true=>
    rw[E] at h;refine⟨h,fun J=>?_⟩;rw[←Nat.eq_of_beq_eq_true E] at J;rw[sw.2 J] at hm;cases hm
   |false=>
    rw[E] at h;exact qx h
theorem sC {a:Act} {e:Env}:∀ {S:List Nat} {vs:List x4},U4 N e a→(∀ p∈S.zip vs,a.tmps.getD p.1 undef=p.2)→U4 N (gV S vs e) a
 |[],_,h,_=>by simpa[gV] using h
 |t::r,[],h,_=>by simpa[gV] using h
 |t::r,v::vs,h,J=>by
  have O:=sC (S:=r) (vs:=vs) h fun p U=>J p (by simp[U]);refine⟨O.1,fun s x E=>?_⟩;simp only[gV,look] at E;cases I:Nat.beq t s with
  |true=>
   rw[I] at E;simp only[cond_true,Z7] at E;subst E;rw[←Nat.eq_of_beq_eq_true I];exact J (t,v) (by simp)
  |false=>rw[I] at E;exact O.2 s x E
theorem qy {e:Env} {a:Act} (O:U4 N e a):∀ {S:List Nat} {vs:List x4},hW e S=some vs→vs.length=S.length∧ ∀ p∈S.zip vs,a.tmps.getD p.1 undef=p.2
 |[],vs,h=>by simp[hW] at h;subst h;simp
 |t::r,vs,h=>by
  simp only[hW] at h;cases I:look e t with
  |none=>rw[I] at h;cases h
  |some x=>
   rw[I] at h;simp only at h;cases J:hW e r with
   |none=>rw[J] at h;cases h
   |some us=>
    rw[J] at h;simp only[Z7] at h;subst h;obtain⟨h1,U⟩:=qy O J;refine⟨by simp[h1],fun p E=>?_⟩;simp only[List.zip_cons_cons,U6] at E;rcases E with rfl|E
    ·exact O.2 t x I
    ·exact U p E
theorem Ab {a a':Act} {e E:Env} {D:List Nat} (I:U4 N e a) (J:U4 N E a') (O:∀ t,t∉D→a'.tmps.getD t undef=a.tmps.getD t undef):U4 N (jk D e) a':=
 ⟨J.1,fun t x h=>by
  obtain⟨h1,U⟩:=qx h;rw[O t U];exact I.2 t x h1⟩
theorem Ac {o:U8} {t:Nat} (E:o.dst=some t) (l:List U8) (hm:o∈l):t∈kH l:=by
 induction l with
 |nil=>cases hm
 |cons o' l I=>
  simp only[kH];rcases U6.1 hm with h|h
  ·rw[←h,E];simp
  ·have:=I h;cases o'.dst with
   |none=>exact this
   |some d=>exact .tail _ this
theorem uV {free:ez} {J:Bool} {K:Exit→Env→x5→Prop} {D:List Nat} {a a':Act} {w w':x5} (O:free.1=false→jl w a.defers) (h:jM N free (K .normal) D a w a' w'):
  jQ N free J K D a w .normal a' w':=by
 obtain⟨U,h1,V,E,W⟩:=h;exact⟨rfl,U,h1,V,E.2,fun _=>E.1,fun I=>by rw[E.1];exact e9.same (O I) (W I)⟩
theorem uW:∀ (E:List Nat) (vs:List x4) (p:Nat) (v:x4) (e:Env),E.length=vs.length→gV (E++[p]) (vs++[v]) e=gV E vs ((p,.v v)::e)
 |[],[],_,_,_,_=>rfl
 |[],_::_,_,_,_,h=>by simp at h
 |_::_,[],_,_,_,h=>by simp at h
 |q::E,u::vs,p,v,e,h=>by
  simp only[List.cons_append,gV];rw[uW E vs p v e (by simpa using h)]
theorem uX:∀ (E:List Nat) (vs:List x4) (I:Array x4) (e:Env),E.length=vs.length→(E.all fun t=>Nat.blt t N)=true→U4 N e {tmps:=I,defers:=[]}→
  U4 N (gV E.reverse vs.reverse e) {tmps:=(E.zip vs).foldl (fun I (p:Nat×x4)=>I.setIfInBounds p.1 p.2) I,defers:=[]}
 |[],[],_,_,_,_,h=>h
 |[],_::_,_,_,h,_,_=>by simp at h
 |_::_,[],_,_,h,_,_=>by simp at h
 |p::E,v::vs,I,e,U,J,h=>by
  have O:E.length=vs.length:=by simpa using U
  simp only[List.all_cons,U1] at J;simp only[List.zip_cons_cons,List.foldl_cons,List.reverse_cons];rw[uW _ _ _ _ _ (by simpa using O)];exact uX E vs _ _ O J.2 (h.put (d:=some p) (x:=.v v) (v:=v) J.1 rfl)
def gW (free:ez) (c:Code):Bool:=free.1|| !hU c
theorem uY:∀ f a b:Bool,(f|| !(a||b))=true→(f|| !a)=true:=by decide
theorem uZ:∀ f a b:Bool,(f|| !(a||b))=true→(f|| !b)=true:=by decide
def exitCode:Exit→Option Code
 | .ret=>some .ret
 | .exit id=>some (.exit id)
 |_=>none
end
section
variable {P:X1} {N:Nat}
def Sound (P:X1) (N:Nat) (c:Code):Prop:=
 ∀ (free:ez) (r:Option Nat) (rd:List Nat) (e:Env) (a:Act) (w:x5) (K:Exit→Env→x5→Prop) (Q:Exit→Act→x5→Prop),
  wf N c=true→(∀ l,r=some l→free.1=false∧ ∃ E,w.heap[l]? =some (.loop E))→(free.1=false→jl w a.defers)→
  dR P N free c rd e w K→U4 N e a→(∀ ex a' w',jQ N free (gW free c) K (cU c) a w ex a' w'→Q ex a' w')→(∀ I a w,¬Q (.panic I) a w)→
  c.wpIn (dB r) 0 P Q a w
theorem Ad {x y:Code} (aw:Sound P N x) (ax:Sound P N y):Sound P N (.seq x y):=by
 intro free r rd e a w K Q ac ai ay h aj ak al;simp only[wf,U1] at ac;have am:∀ t,t∈cU x→t∈cU (.seq x y):=fun t U=>by simp[cU,U]
 have az:∀ t,t∈cU y→t∈cU (.seq x y):=fun t U=>by simp[cU,U]
 have ao:gW free (.seq x y)=true→gW free x=true:=fun h=>uY _ _ _ h;have aA:gW free (.seq x y)=true→gW free y=true:=fun h=>uZ _ _ _ h;refine wpIn_seq ?_;have ap:∀ (I:Env) (J:Act) (E:x5),dR P N free y rd I E K→U4 N I J→(∀ t,t∉cU x→J.tmps.getD t undef=a.tmps.getD t undef)→
   (gW free (.seq x y)=true→J.defers=a.defers)→(free.1=false→e9 free.2 w a.defers E J.defers)→y.wpIn (dB r) 0 P Q J E:=by
  intro I J E h1 V W Y O;refine ax free r rd I J E K Q ac.2 ?_ (fun h=>(O h).2.1) h1 V ?_ al
  ·intro l aB;obtain⟨aq,aC,ab⟩:=ai l aB;exact⟨aq,aC,(O aq).1.bw _ _ ab rfl⟩
  ·intro ex a' w' Z;exact ak ex a' w' (Z.step az (fun t U=>W t fun h=>U (am t h)) aA Y O)
 have au:∀ (X:Exit→Env→x5→Prop),dR P N free x (reads y++rd) e w X→
   (∀ I J E,jQ N free (gW free x) X (cU x) a w .normal J E→U4 N I J→X .normal I E→(∀ t,t∉cU x→J.tmps.getD t undef=a.tmps.getD t undef)→
    (gW free (.seq x y)=true→J.defers=a.defers)→(free.1=false→e9 free.2 w a.defers E J.defers)→y.wpIn (dB r) 0 P Q J E)→
   (∀ ex I E,ex≠ .normal→X ex I E→K ex I E)→x.wpIn (dB r) 0 P (Exit.then (y.wpIn (dB r) 0 P Q) Q) a w:=by
  intro X aa O aD;refine aw free r _ e a w X _ ac.1 ai ay aa aj ?_ ?_
  ·intro ex J E Z;cases ex with
   |normal=>
    have aE:=Z;obtain⟨ab,I,h1,ad,ae,af,ag⟩:=Z;exact O I J E aE ad h1 ae (fun h=>af (ao h)) ag
   |_=>
    obtain⟨ab,I,h1,ad,ae,af,ag⟩:=Z;refine ak _ J E ⟨ab,I,aD _ I E (by simp) h1,ad,fun t U=>ae t fun h=>U (am t h),fun h=>af (ao h),ag⟩
  ·intro aF a w aG;exact al aF a w aG
 simp only[dR] at h;cases av:Nat.ble 2 (iB x) with
 |false=>
  rw[av] at h;refine au _ h (fun I J E _ V h1 W Y O=>ap I J E h1 V W Y O) ?_;intro ex I E ah h1;cases ex <;> first|exact absurd rfl ah|exact h1
 |true=>
  rw[av] at h;refine au _ h (fun I J E _ V h1 W Y O=>?_) ?_
  ·simp only at h1;cases aa:hW I (nD N (cU x) (reads y++rd)) with
   |none=>rw[aa] at h1;exact h1.elim
   |some vs=>
    rw[aa] at h1;obtain⟨aH,aI⟩:=qy V aa;simp only at h1;rw[qt _ _ _ aH] at h1;exact ap _ J E h1 (sC (Ab aj V W) aI) W Y O
  ·intro ex I E ah h1;cases ex <;> first|exact absurd rfl ah|exact h1
theorem Ae {c:Code} (aw:Sound P N c):Sound P N (.loop c):=by
 intro free r rd e a w K Q ak ax ay h ab az aA;simp only[wf] at ak;simp only[dR] at h;generalize aP:nE N (cU c) (reads c++rd) e=S at h;cases ac:hW e S with
 |none=>rw[ac] at h;exact h.elim
 |some vs=>
  rw[ac] at h;simp only at h;obtain⟨aB,aC,O,aD⟩:=h;obtain⟨aE,aF⟩:=qy ab ac;let Inv:Act→x5→Prop:=fun E I=>∃ us,us.length=S.length∧app S.length aB us I∧(∀ p∈S.zip us,E.tmps.getD p.1 undef=p.2)∧E.tmps.size=N∧
   (∀ t,t∉cU c→E.tmps.getD t undef=a.tmps.getD t undef)∧(gW free c=true→E.defers=a.defers)∧(free.1=false→e9 free.2 w a.defers I E.defers)
  let U:Act→List x4:=fun E=>S.map fun t=>E.tmps.getD t undef;have al:∀ (E:Act) (us:List x4),us.length=S.length→(∀ p∈S.zip us,E.tmps.getD p.1 undef=p.2)→U E=us:=by
   intro E us V W;apply List.ext_getElem
   ·simp[U,V]
   ·intro i h1 J;have hi:i<S.length:=by simpa[U] using h1
    have aG:(S[i],us[i])∈S.zip us:=by
     have:=T1 (l:=S.zip us) (n:=i) (by simp[List.length_zip,V,hi]);simpa using this
    simpa[U] using W _ aG
  refine wpIn_loop Inv (fun E I=>app S.length aC (U E) I) ⟨vs,aE,O,aF,ab.1,fun _ _=>rfl,fun _=>rfl,fun X=>e9.refl (ay X)⟩ ?_;rintro E I ⟨us,V,aH,W,aI,am,X,Y⟩;have Z:=qu S.length _ us aD;rw[qt _ _ _ V] at Z;have Z:=Z I aH;have aJ:U4 N (gV S us (jk (cU c) e)) E:=by
   refine sC (a:=E) (e:=jk (cU c) e) ⟨aI,fun t x aa=>?_⟩ W;obtain⟨h1,J⟩:=qx aa;rw[am t J];exact ab.2 t x h1
  refine aw free r _ _ E I _ _ ak ?_ (fun h=>(Y h).2.1) Z aJ ?_ ?_
  ·intro l aK;obtain⟨ao,aL,O⟩:=ax l aK;exact⟨ao,aL,(Y ao).1.bw _ _ O rfl⟩
  ·intro ex ad aM ae;have ap:∀ t,t∉cU c→ad.tmps.getD t undef=a.tmps.getD t undef:=by
    obtain⟨_,_,_,_,af,_,_⟩:=ae;exact fun t aa=>(af t aa).trans (am t aa)
   cases ex with
   |normal=>
    obtain⟨O,ag,h1,J,af,ah,ai⟩:=ae;simp only at h1;cases aj:hW ag S with
    |none=>rw[aj] at h1;exact h1.elim
    |some aq=>
     rw[aj] at h1;obtain⟨au,av⟩:=qy J aj;refine⟨⟨aq,au,h1.1,av,J.1,ap,fun h=>(ah h).trans (X h),fun h=>(Y h).trans (ai h)⟩,?_⟩;rw[al E us V W,al ad aq au av];exact h1.2
   |_=>
    obtain⟨O,ag,h1,J,af,ah,ai⟩:=ae;exact az _ ad aM ⟨O,ag,h1,J,ap,fun h=>(ah h).trans (X h),fun h=>(Y h).trans (ai h)⟩
  ·intro aN a w aO;exact aA aN a w aO
theorem Af {f:Operand} {ab:Array Tmp} {ah body:Code} (bh:Sound P N ah) (av:Sound P N body):Sound P N (.rangeFunc f ab ah body):=by
 intro free r rd e a w K Q aU aw bi h al bj b7;simp only[wf,U1] at aU;obtain⟨bk,bl,bm⟩:=aU;simp only[dR] at h;obtain⟨bn,b⟩:=free;cases bn with
 |true=>exact h.elim
 |false=>
  simp only[cond_false] at h;cases aE:dK e f with
  |none=>rw[aE] at h;exact h.elim
  |some b8=>
   rw[aE] at h;obtain⟨aV,G,g,cap,b9,ca,cb,aF,bo,aG,bp,⟨aW,bq⟩,br,haX,ax,aH,hbt,bu,bx,bz,bA,bB⟩:=h;have bC:∀ k ex w',iD ex=true→ex≠ .normal→aG k ex w'→K ex e w':=by
    intro k ex w' am aI aY;cases ex with
    |normal=>exact absurd rfl aI
    |ret=>
     have:=bA k w' aY;cases aw:hX body with
     |true=>rw[aw] at this;exact this
     |false=>rw[aw] at this;exact this.elim
    |exit i=>exact uR (bB k i w' aY)
    |_=>cases am
   have bD:a.eval f= .func (.func g) #[] cap:=by rw[al.dK aE];exact bp
   refine wpIn_rangeFunc ?_;intro fn _;obtain⟨D,mark,l,X,I,bE,U,bF,aJ,ay,bG,az⟩:∃ (D:Nat) (mark:List Deferred) (l:Nat) (X:x5) (I:LoopState→Option Code→Loop),
     (Instr.enterLoop fn a.tmps ab ah body (dB r).round).run P w= .ok (l,mark) X∧
     I=(fun st bH=>{state:=st,pending:=bH,fn,tmps:=a.tmps,params:=ab,assign:=ah,body,defers:=D})∧
     X.heap[l]? =some (.loop (I .ready none))∧(mark=[]∨(mark=[hY D]∧X.heap[D]? =some (.deferred (some []))∧w.heap.size≤D∧D≠l))∧Ext w X∧cm b w X∧w.heap.size≤l:=by
    cases r with
    |none=>
     refine⟨w.heap.size,[hY w.heap.size],w.heap.size+1,_,_,run_enterLoop_outer _ _ _ _ _,rfl,?_,.inr ⟨rfl,?_,o7 _,by omega⟩,?_,?_,by omega⟩
     ·have:=x5.alloc_heap_new (w.alloc (.deferred (some []))) (.loop {state:=.ready,pending:=none,fn,tmps:=a.tmps,params:=ab,assign:=ah,body,defers:=w.heap.size});rwa [x5.size_alloc] at this
     ·exact (Below.heap_alloc _ _ _ (by simp)).trans (x5.alloc_heap_new w _)
     ·exact (lX w _).trans (lX _ _)
     ·exact ((lY w _).trans (lY _ _)).b
    |some bI=>
     obtain⟨_,bJ,Y⟩:=aw bI rfl;exact⟨bJ.defers,[],w.heap.size,_,_,run_enterLoop_inner Y _ _ _ _ _,rfl,x5.alloc_heap_new w _,.inl rfl,lX _ _,(lY _ _).b,o7 _⟩
   let ac:x5→Prop:=fun E=>mark=[]∨(mark=[hY D]∧E.heap[D]? =some (.deferred (some []))∧w.heap.size≤D∧D≠l);have ao:∀ {m:Nat} {A B:x5},cm m A B→ac A→ac B:=fun Z h=>h.imp id fun⟨h1,J,O⟩=>⟨h1,Z.bw _ _ J rfl,O⟩;have aA:∀ {A:x5} (o:Obj),ac A→ac (A.putObj l o):=fun o h=>h.imp id fun⟨h1,J,O,W⟩=>⟨h1,(x5.putObj_heap_other W).trans J,O,W⟩;let aZ:aV→x5→Prop:=fun k E=>bo k E∧E.heap[l]? =some (.loop (I .ready none))∧cm b w E∧ac E;let a1:aV→x5→Prop:=fun k E=>∃ ex c,iD ex=true∧exitCode ex=some c∧aG k ex E∧E.heap[l]? =some (.loop (I .done (some c)))∧cm b w E∧ac E;have aK:=bq l aZ a1 X (fun k A B he Z ⟨h1,J,O,W⟩=>⟨ax k A B he h1,Z.bw _ _ J rfl,O.step Z ay.size,ao Z W⟩)
    (fun k A B he Z ⟨ex,c,Y,h1,J,O,W,ap⟩=>⟨ex,c,Y,h1,aH k ex A B he J,Z.bw _ _ O rfl,W.step Z ay.size,ao Z ap⟩) ?round (haX _ _ ay hbt) ⟨ax _ _ _ ay bu,bF,bG,aJ⟩
   case round=>
    intro k aL vs E haF a2 ⟨hi,aB,bK,bL⟩;have aM:=br k vs aL E a2;have a6:=run_yield (P:=P) (args:=vs.toArray) aB (by rw[U];simp[aM]);rw[U] at a6;refine⟨fn,_,ah,body,a6,roundIn_of_wpIn trivial ?_⟩;have bM:(ab.zip vs.toArray).foldl (fun tmps x=>match x with|(t,a)=>tmps.setIfInBounds t a) a.tmps=(ab.toList.zip vs).foldl (fun bN (p:Nat×x4)=>bN.setIfInBounds p.1 p.2) a.tmps:=by
     rw[←Array.foldl_toList,Array.toList_zip]
    have a7:=uX (N:=N) ab.toList vs a.tmps e (by simp[aM]) bk (show U4 N e {tmps:=a.tmps,defers:=[]} from⟨al.1,al.2⟩);rw[←bM] at a7;have cc:E.heap[l]? =some (.loop (I .ready none)):=aB;refine bh (false,b) (some l) _ _ _ E _ _ bl (fun l' aN=>⟨rfl,by cases aN;exact⟨_,aB⟩⟩) (fun _=>⟨[],rfl,List.nodup_nil,fun D aJ=>by cases aJ⟩) (by have av:=qu _ _ vs bx;rw[qt _ _ _ aM] at av;exact av k aL E haF a2 hi) a7 ?_ (fun _ _ _ h=>h);intro ex a8 V aO;obtain⟨Y,cd,h1,J,O,W,ap⟩:=aO;obtain⟨aq,bO,_⟩:=ap rfl;cases ex with
    |normal=>
     have ai:V.heap[l]? =some (.loop (I .ready none)):=aq.bw _ _ aB rfl;have bP:=(l7.1 ai).1;refine⟨_,run_beginRound ai (by rw[U]),?_⟩;have bQ:Ext V (V.putObj l (.loop {I .ready none with state:=.busy})):=nI ai rfl _;have ba:(V.putObj l (.loop {I .ready none with state:=.busy})).heap[l]? =some (.loop {I .ready none with state:=.busy}):=x5.putObj_heap_same bP;have bR:jl (V.putObj l (.loop {I .ready none with state:=.busy})) a8.defers:=by
      obtain⟨aC,aj,ak,ad⟩:=bO;refine⟨aC,aj,ak,fun ae af=>?_⟩;have:=ad ae af;have aI:ae≠l:=fun he=>by rw[he,ai] at this;cases this
      rw[x5.putObj_heap_other aI];exact this
     have bb:cm b w (V.putObj l (.loop {I .ready none with state:=.busy})):=qw (bK.trans aq) az _;have bc:=aA (.loop {I .ready none with state:=.busy}) (ao aq bL);have bS:=h1 _ bQ (uU rfl) (uT (eM.refl _) ai rfl _);refine av (false,b) (some l) _ _ a8 _ _ _ bm (fun l' aN=>⟨rfl,by cases aN;exact⟨_,ba⟩⟩) (fun _=>bR) bS J ?_ (fun _ _ _ h=>h);intro bT ce au aO;obtain⟨aP,cg,aQ,ch,ci,cj,bU⟩:=aO;obtain⟨aa,_,_⟩:=bU rfl;have aD:au.heap[l]? =some (.loop {I .ready none with state:=.busy}):=aa.bw _ _ ba rfl;have bd:=(l7.1 aD).1;have be:=fun bV=>run_endRound (P:=P) bV aD;have aR:∀ (o:Obj),Ext au (au.putObj l o):=fun o=>nI aD rfl o;have bf:∀ (ex:Exit) (c:Code),iD ex=true→exitCode ex=some c→aG k ex au→
       ∃ v w',(Instr.endRound l (some c)).run P au= .ok v w'∧ ∃ aS,Ending.returned v= .returned aS∧((aS= .bool true∧aF w'∧aZ aL w'∧(G=true→eM E w'))∨(aS= .bool false∧a1 k w')):=by
      intro ex c am bW bX;refine⟨_,_,be (some c),_,rfl,.inr ⟨rfl,ex,c,am,bW,aH k ex _ _ (aR _) bX,?_,qw (bb.trans aa) az _,aA _ (ao aa bc)⟩⟩;rw[x5.putObj_heap_same bd,U];rfl
     cases bT with
     |normal=>
      obtain⟨aj,ak,ad⟩:=aQ;refine⟨_,_,be none,_,rfl,.inl ⟨rfl,haX _ _ (aR _) aj,⟨ax _ _ _ (aR _) ak,?_,qw (bb.trans aa) az _,aA _ (ao aa bc)⟩,fun bY=>uT (ad bY) aD rfl _⟩⟩;rw[x5.putObj_heap_same bd,U];rfl
     |ret=>exact bf .ret _ rfl rfl aQ
     |exit id=>exact bf (.exit id) _ rfl rfl aQ
     |goto t=>cases aP
     |panic bZ=>cases aP
     |outgrown=>cases aP
    |_=>exact h1.elim
   have aK:=eA.calls P aK aW;refine⟨l,mark,X,{target:=.fn (.func g) cap,args:=#[.func (.yield l) #[] #[]]},X,g,#[.func (.yield l) #[] #[]]++cap,X,bE,?_,fun _ _=>trivial,?_,sd _ _,?_⟩
   ·simp only[resolve,bD];simp[go_sem]
   ·simp only[invoke];exact aW _ _
   ·have b1:(#[.func (.yield l) #[] #[]]++cap:Array x4)=(x4.func (.yield l) #[] #[]::cap.toList).toArray:=by apply Array.toList_inj.1;simp
    rw[b1];refine CallsIn.mono (uF aK) ?_;rintro ck V ⟨v,rfl,b2⟩;have left:∀ (ag:Loop) (ex:Exit),iD ex=true→V.heap[l]? =some (.loop ag)→ag.state≠ .busy→cm b w V→ac V→K ex e (V.putObj l (.loop {ag with state:=.exhausted}))→
      Q ex {a with defers:=mark++a.defers} (V.putObj l (.loop {ag with state:=.exhausted})):=by
     intro ag ex am ai cl aq bg b3;have aa:cm b w (V.putObj l (.loop {ag with state:=.exhausted})):=qw aq az _;refine bj ex _ _ ⟨am,e,b3,⟨al.1,al.2⟩,fun _ _=>rfl,(fun h=>by simp[gW,hU] at h),fun _=>⟨aa,?_,?_⟩⟩
     case refine_2=>
      rcases bg with hm|⟨hm,_,b4,_⟩
      ·exact⟨[],by simp[hm],fun _ h=>by cases h⟩
      ·exact⟨[D],by simp[hm],fun ae af=>by simp at af;omega⟩
     obtain⟨aC,aj,ak,ad⟩:=bi rfl;have aT:=aA (.loop {ag with state:=.exhausted}) bg;rcases aT with hm|⟨hm,aT,b4,_⟩
     ·exact⟨aC,by simp[hm,aj],ak,fun ae af=>aa.bw _ _ (ad ae af) rfl⟩
     ·refine⟨D::aC,by simp[hm,aj],List.nodup_cons.2 ⟨fun b5=>?_,ak⟩,fun ae af=>?_⟩
      ·have:=(l7.1 (ad D b5)).1;omega
      ·rcases U6.1 af with h|h
       ·rw[h];exact aT
       ·exact aa.bw _ _ (ad ae h) rfl
    rcases b2 with⟨k,b6,h1,J,O,W⟩|⟨k,ex,c,Y,h1,J,O,W,ap⟩
    ·refine⟨none,_,by have:=run_endLoop (P:=P) J (by rw[U];simp);rw[U] at this;exact this,?_⟩;have:=left (I .ready none) .normal rfl J (by rw[U];simp) O W (bz _ _ b6 (ax _ _ _ (nI J rfl _) h1));rw[U] at this;exact this
    ·refine⟨some c,_,by have:=run_endLoop (P:=P) O (by rw[U];simp);rw[U] at this;exact this,?_⟩;have:=left (I .done (some c)) ex Y O (by rw[U];simp) W ap (bC k ex _ Y (by intro he;rw[he] at h1;cases h1) (aH _ _ _ _ (nI O rfl _) J));rw[U] at this;cases ex with
     |normal=>cases h1
     |ret=>cases h1;exact wpIn_ret this
     |exit id=>cases h1;exact wpIn_exit this
     |goto t=>cases Y
     |panic bZ=>cases Y
     |outgrown=>cases Y
theorem qz {b:Frame} {a:Act} {k:List Item} {cs:List Frame} {w:x5} {c:Code}:
  step P (lone (b.atR a (.code (.scope c)::k)) cs w)= .next (lone (b.atR a (.code c:: .inScope c::k)) cs w):=
 step_lone_go (by simp[stepG,stepG.exec,Frame.atR])
theorem Ag {b:Frame} {a:Act} {k:List Item} {cs:List Frame} {w:x5} {c:Code}:
  step P (lone (b.atR a (.inScope c::k)) cs w)= .next (lone (b.atR a k) cs w):=
 step_lone_go (by simp[stepG,stepG.exec,Frame.atR])
theorem Ah {F:Fence} {n:Nat} {c:Code} {Q:Exit→Act→x5→Prop} {a:Act} {w:x5} (h:c.wpIn F n P (fun ex a' w'=>iD ex=true∧Q ex a' w') a w):
  (Code.scope c).wpIn F n P Q a w:=by
 intro b k cs aa J O;have E:(lone (b.atR a (.code (.scope c)::k)) cs w).fenced P F:=fenced_calm J O rfl;obtain⟨e,U,V,⟨W,X⟩,I⟩:=h b (.inScope c::k) cs aa J O;have Z:∀ id,exitTo id (.inScope c::k)=exitTo id k:=fun id=>by simp[exitTo]
 cases e with
 |normal=>exact⟨.normal,U,V,X,.head E qz (StepsIn.trans I (.one (fenced_calm J O rfl) Ag))⟩
 |exit id=>
  exact⟨.exit id,U,V,X,fun ab Y=>.head E qz (I.1 ab (by rw[Z];exact Y)),
   fun ac Y=>let⟨ad,h1,ae⟩:=I.2 ac (by rw[Z];exact Y);⟨ad,h1,.head E qz ae⟩⟩
 |ret=>exact⟨_,U,V,X,.of_steps (.one E qz) I⟩
 |goto l=>cases W
 |panic af=>cases W
 |outgrown=>cases W
theorem sound (hm:P.follows .mixedOrders=true) (c:Code):Sound P N c:=by
 induction c with
 |skip=>exact fun free r rd e a w K Q _ _ I h E J _=>wpIn_skip (J _ _ _ ⟨rfl,e,h,E,fun _ _=>rfl,fun _=>rfl,fun W=>e9.refl (I W)⟩)
 |label l=>exact fun free r rd e a w K Q _ _ I h E J _=>wpIn_label (J _ _ _ ⟨rfl,e,h,E,fun _ _=>rfl,fun _=>rfl,fun W=>e9.refl (I W)⟩)
 |ret=>exact fun free r rd e a w K Q _ _ I h E J _=>wpIn_ret (J _ _ _ ⟨rfl,e,h,E,fun _ _=>rfl,fun _=>rfl,fun W=>e9.refl (I W)⟩)
 |exit i=>exact fun free r rd e a w K Q _ _ I h E J _=>wpIn_exit (J _ _ _ ⟨rfl,e,h,E,fun _ _=>rfl,fun _=>rfl,fun W=>e9.refl (I W)⟩)
 |goto l=>exact fun free r rd e a w K Q _ _ I h E J _=>h.elim
 |refuse s=>exact fun free r rd e a w K Q _ _ I h E J _=>h.elim
 |region id ops ap=>
  intro free r rd e a w K Q O X I h E J Y;simp only[wf,U1] at O;have ak:∀ o∈ops.toList,∀ t,o.dst=some t→t∈kH ops.toList:=fun o aq t ab=>Ac ab _ aq;simp only[dR] at h;cases ap with
  |false=>exact zO ak O.1 h E fun a' w' U=>J _ _ _ (uV I U)
  |true=>
   simp only[Y1,Bool.false_or] at O;exact zX hm O.2 Y ak O.1 (fun w' h1 Z aa=>h w' h1 Z aa) E fun a' w' U=>J _ _ _ (uV I U)
 |seq x y af ag=>exact Ad af ag
 |cond c x y af ag=>
  intro free r rd e a w K Q O X I h E J Y;simp only[wf,U1] at O;have al:∀ ex a' w',jQ N free (gW free x) K (cU x) a w ex a' w'→Q ex a' w':=fun ex a' w' U=>J ex a' w' (by
   obtain⟨ae,ac,h1,Z,aa,ad,ah⟩:=U;exact⟨ae,ac,h1,Z,fun t ab=>aa t fun h=>ab (by simp[cU,h]),(fun h=>ad (uY _ _ _ h)),ah⟩)
  have am:∀ ex a' w',jQ N free (gW free y) K (cU y) a w ex a' w'→Q ex a' w':=fun ex a' w' U=>J ex a' w' (by
   obtain⟨ae,ac,h1,Z,aa,ad,ah⟩:=U;exact⟨ae,ac,h1,Z,fun t ab=>aa t fun h=>ab (by simp[cU,h]),(fun h=>ad (uZ _ _ _ h)),ah⟩)
  simp only[dR] at h;cases V:dK e c with
  |none=>rw[V] at h;exact h.elim
  |some v=>
   rw[V] at h;cases v with
   |b t=>
    cases t with
    |true=>exact wpIn_cond (t:=true) (E.dK V) (af free r rd e a w K Q O.1 X I h E al Y)
    |false=>exact wpIn_cond (t:=false) (E.dK V) (ag free r rd e a w K Q O.2 X I h E am Y)
   |v z=>
    obtain⟨t,au,ab,W⟩:=h;refine wpIn_cond (t:=t) ((E.dK V).trans au) ?_;cases t with
    |true=>exact af free r rd e a w K Q O.1 X I (ab rfl) E al Y
    |false=>exact ag free r rd e a w K Q O.2 X I (W rfl) E am Y
   |u=>exact h.elim
 |block id c V=>
  intro free r rd e a w K Q O X I h E J Y;simp only[wf] at O;simp only[dR] at h;refine wpIn_block (V free r rd e a w _ _ O X I h E ?_ fun ao a w ai=>Y ao a w ai);intro ex a' w' U;obtain⟨ae,ac,h1,Z,aa,ad⟩:=U;cases ex with
  |exit i=>
   simp only[Exit.inBlock];simp only at h1;by_cases hi:i=id
   ·rw[if_pos hi];rw[hi,Nat.beq_refl] at h1;exact J _ _ _ ⟨rfl,ac,h1,Z,aa,ad⟩
   ·rw[if_neg hi];have:Nat.beq i id=false:=by
     cases aj:Nat.beq i id with
     |true=>exact absurd (Nat.eq_of_beq_eq_true aj) hi
     |false=>rfl
    rw[this] at h1;exact J _ _ _ ⟨rfl,ac,h1,Z,aa,ad⟩
  |_=>exact J _ _ _ ⟨ae,ac,h1,Z,aa,ad⟩
 |loop c V=>exact Ae V
 |scope c V=>
  intro free r rd e a w K Q O X I h E J Y;exact Ah (V free r rd e a w K (fun ex a' w'=>iD ex=true∧Q ex a' w') O X I h E (fun ex a' w' U=>⟨U.1,J ex a' w' U⟩) fun ao a w ai=>by cases ai.1)
 |rangeFunc f aw ax body av aj=>exact Af av aj
def jR:Nat→List x4→Env
 |_,[]=>[]
 |i,v::r=>(i,.v v)::jR (i+1) r
def kJ (P:X1) (e:Env) (w:x5):List ResultVar→(List x4→Prop)→Prop
 |[],K=>K []
 | .tmp t::r,K=>match look e t with
  |some x=>kJ P e w r fun vs=>K (x.val::vs)
  |none=>False
 | .cell a t::r,K=>match look e a with
  |some x=>I P (do loadVar t (←asAddr x.val)) w fun v=>kJ P e w r fun vs=>K (v::vs)
  |none=>False
def qA:List x4→x4
 |[v]=>v
 |vs=>.tuple vs.toArray
def kK (P:X1) (E:List ResultVar) (marks:Bool) (Q:x4→x5→Prop):Exit→Env→x5→Prop
 | .normal,e,w| .ret,e,w=>kJ P e w E fun vs=>bif marks then fY w fun w'=>Q (qA vs) w' else Q (qA vs) w
 |_,_,_=>False
def lZ:List ResultVar→List Nat
 |[]=>[]
 | .tmp t::r=>t::lZ r
 | .cell a _::r=>a::lZ r
theorem u0:∀ (vs:List x4) (i t:Nat) (x:ec),look (jR i vs) t=some x→ ∃ j v,t=i+j∧vs[j]? =some v∧x= .v v
 |[],_,_,_,h=>by cases h
 |v::r,i,t,x,h=>by
  simp only[jR,look] at h;cases E:Nat.beq i t with
  |true=>
   rw[E] at h;simp only[cond_true,Z7] at h;exact⟨0,v,by rw[Nat.eq_of_beq_eq_true E];rfl,rfl,h.symm⟩
  |false=>
   rw[E] at h;obtain⟨j,u,h1,I,J⟩:=u0 r (i+1) t x h;exact⟨j+1,u,by omega,by simpa using I,J⟩
theorem sD {n:Nat} (vs:List x4) (h:vs.length≤n):U4 n (jR 0 vs) {tmps:=vs.toArray++Array.replicate (n-vs.toArray.size) undef,defers:=[]}:=by
 refine⟨by simp;omega,fun t x I=>?_⟩;obtain⟨j,v,h1,E,rfl⟩:=u0 vs 0 t x I;have h1:t=j:=by omega
 subst h1;have J:t<vs.length:=(x6.1 E).1;rw[Array.getD_eq_getD_getElem?,Array.getElem?_append_left (by simpa using J)];simp[E,ec.val]
def qB (E:Array x4):ResultVar→Sem x4
 | .tmp t=>pure (E.getD t undef)
 | .cell b t=>do loadVar t (←asAddr (E.getD b undef))
theorem Ai (fn:Func) (E:Array x4):results fn E=(do let vs ←fn.results.mapM (qB E);pure (if h:vs.size=1 then vs[0] else .tuple vs)):=by
 unfold results;congr 2
theorem sE {e:Env} {a:Act} {w:x5} (I:U4 N e a):∀ (J:List ResultVar) (K:List x4→Prop),kJ P e w J K→
  ∃ vs,K vs∧vs.length=J.length∧ ∀ w',Ext w w'→(J.mapM (qB a.tmps)).run P w'= .ok vs w'
 |[],K,h=>⟨[],h,rfl,fun w' _=>by simp[Y6]⟩
 | .tmp t::r,K,h=>by
  simp only[kJ] at h;cases E:look e t with
  |none=>rw[E] at h;exact h.elim
  |some x=>
   rw[E] at h;obtain⟨vs,h1,O,U⟩:=sE I r _ h;refine⟨x.val::vs,h1,by simp[O],fun w' hw=>?_⟩;rw[List.mapM_cons];simp only[qB,Y2,Y6,Y4,U w' hw,I.2 t x E]
 | .cell b t::r,K,h=>by
  simp only[kJ] at h;cases E:look e b with
  |none=>rw[E] at h;exact h.elim
  |some x=>
   rw[E] at h;obtain⟨v,V,h⟩:=h;obtain⟨vs,h1,O,U⟩:=sE I r _ h;refine⟨v::vs,h1,by simp[O],fun w' hw=>?_⟩;rw[List.mapM_cons];have:=V w' hw;rw[←I.2 b x E] at this;rw[qB,Y2,this];simp only[Y4,Y2,U w' hw,Y6]
theorem sF {fn:Func} {e:Env} {a:Act} {w:x5} (I:U4 N e a) {K:List x4→Prop} (h:kJ P e w fn.results.toList K):
  ∃ vs,K vs∧ ∀ w',Ext w w'→(results fn a.tmps).run P w'= .ok (qA vs) w':=by
 obtain⟨vs,h1,J,E⟩:=sE I _ _ h;refine⟨vs,h1,fun w' hw=>?_⟩;have E:=E w' hw;rw[Ai,Y2,Array.mapM_eq_mapM_toList,map_eq_pure_bind,Y2,E];simp only[Y4,Y6];cases vs with
 |nil=>rfl
 |cons v r=>
  cases r with
  |nil=>rfl
  |cons u r=>simp[qA]
theorem u1 {fn:Func} {tmps:Array x4} {R:Ending→x5→Prop}:∀ (E:List Nat) (w:x5),E.Nodup→(∀ D∈E,w.heap[D]? =some (.deferred (some [])))→
  (∀ w',Ext w w'→Ext w' w→w'.os=w.os→ix w w'→w'.output=w.output→w.heap.size=w'.heap.size→
   (∀ r,r∉E→w'.heap[r]? =w.heap[r]?)→ ∃ v,(results fn tmps).run P w'= .ok v w'∧R (.returned v) w')→
  LeavesInM Fence.wide 0 P fn tmps R (E.map hY) .returning w
 |[],w,_,_,h=>by
  obtain⟨v,h1,I⟩:=h w (Ext.refl _) (Ext.refl _) rfl .iy rfl rfl fun _ _=>rfl;exact⟨v,h1,I⟩
 |D::E,w,J,O,h=>by
  rw[List.nodup_cons] at J;have U:=O D (.head _);refine⟨by simp,.inl ⟨D,_,rfl,run_takeDeferred U,?_⟩⟩;refine u1 E _ J.2 (fun X V=>?_) fun w' h1 I Y Z aa ab ac=>?_
  ·rw[x5.putObj_heap_other (fun he=>J.1 (by rw[←he];exact V))];exact O X (.tail _ V)
  ·refine h w' ((nI U rfl _).trans h1) (I.trans (uU rfl)) Y Z aa (by simpa using ab) fun r W=>?_;rw[ac r fun hm=>W (.tail _ hm),x5.putObj_heap_other fun he=>W (by rw[he];exact .head _)]
theorem O.enter (hm:P.follows .mixedOrders=true) {f:FuncId} {fn:Func} {c:Code} (W:P.funcs[f]? =some fn) (X:fn.body=some c) (af:(fn.name == "runtime.NumGoroutine")=false)
  (ag:wf fn.ntmps c=true) {args:List x4} (ah:Nat.ble args.length fn.ntmps=true) {w:x5} {Q:x4→x5→Prop}
  (h:dR P fn.ntmps (false,w.heap.size) c (lZ fn.results.toList) (jR 0 args) w (kK P fn.results.toList true Q)):O P f args w Q:=by
 refine .code (Enters.of P W X af) (callsIn_wide (n:=0).1 (callsIn_of_wp_marks W X trivial ?_));have ai:=sD (n:=fn.ntmps) args (Nat.le_of_ble_eq_true ah);refine wpIn_mono (Q:=fun ex a' w'=>iD ex=true∧bodyPostM Fence.wide 0 P fn (fun e w'=>∃ v,e= .returned v∧cP w w'∧Q v w') ex a' w') ?_ fun _ _ _ h=>h.2;refine sound hm c (false,w.heap.size) none _ _ _ w _ _ ag (fun l aj=>by cases aj) (fun _=>⟨[],rfl,List.nodup_nil,fun D J=>by cases J⟩) h ai ?_ (fun _ _ _ h=>by cases h.1)
 ·intro ex a' w' ak;obtain⟨al,am,I,ao,_,_,ap⟩:=ak;obtain⟨E,⟨U,Y,aq,J⟩,au,av,aw⟩:=ap rfl;have ax:∀ D∈U,w.heap.size≤D:=by
   intro D ay;have h1:hY D∈au.map hY:=by
    have:hY D∈U.map hY:=l9.2 ⟨D,ay,rfl⟩;rw[←Y,av] at this;simpa using this
   obtain⟨Z,V,az⟩:=l9.1 h1;have:Z=D:=by simpa[hY] using az
   exact this▸aw Z V
  have aa:kK P fn.results.toList true Q .ret am w'→LeavesInM Fence.wide 0 P fn a'.tmps (fun e ab=>∃ v,e= .returned v∧cP w ab∧Q v ab) a'.defers .returning w':=by
   intro I;rw[Y];obtain⟨vs,h1,V⟩:=sF (fn:=fn) ao I;refine u1 U w' aq J fun ac ad aA aB aC aD aE aF=>⟨_,V ac ad,_,rfl,?_,h1 ac ad aA⟩;have E:=E.db (o7 _);refine⟨aB.trans E.os,aC.trans E.tape,aD.trans E.output,by rw[←aE];exact E.size,fun r o ae aG=>?_⟩;have aH:=(l7.1 ae).1;rw[aF r fun hm=>by have:=ax r hm;omega];exact E.bw r o ae aG
  cases ex with
  |normal=>exact⟨rfl,aa I⟩
  |ret=>exact⟨rfl,aa I⟩
  |exit id=>exact I.elim
  |_=>cases al
theorem O.Aj (hm:P.follows .mixedOrders=true) {f:FuncId} {fn:Func} {c:Code} (I:P.funcs[f]? =some fn) (J:fn.body=some c) (W:(fn.name == "runtime.NumGoroutine")=false)
  (X:wf fn.ntmps c=true) {args:List x4} (Y:Nat.ble args.length fn.ntmps=true) (Z:hU c=false) {w:x5} {Q:x4→x5→Prop}
  (h:dR P fn.ntmps (false,w.heap.size) c (lZ fn.results.toList) (jR 0 args) w (kK P fn.results.toList false Q)):O P f args w Q:=by
 refine .code (Enters.of P I J W) (callsIn_wide (n:=0).1 (callsIn_of_wp I J trivial ?_));have aa:=sD (n:=fn.ntmps) args (Nat.le_of_ble_eq_true Y);refine wpIn_mono (Q:=fun ex a' w'=>iD ex=true∧bodyPost P fn (fun e w'=>∃ v,e= .returned v∧cP w w'∧Q v w') ex a' w') ?_ fun _ _ _ h=>h.2;refine sound hm c (false,w.heap.size) none _ _ _ w _ _ X (fun l ab=>by cases ab) (fun _=>⟨[],rfl,List.nodup_nil,fun D ac=>by cases ac⟩) h aa ?_ (fun _ _ _ h=>by cases h.1);intro ex a' w' ad;obtain⟨ae,af,E,ag,_,ah,ai⟩:=ad;have aj:a'.defers=[]:=ah (by simp[gW,Z]);have U:kK P fn.results.toList false Q .ret af w'→a'.defers=[]∧ ∃ v,(results fn a'.tmps).run P w'= .ok v w'∧ ∃ V,Ending.returned v= .returned V∧cP w w'∧Q V w':=by
  intro E;obtain⟨vs,h1,ak⟩:=sF (fn:=fn) ag E;exact⟨aj,_,ak w' (Ext.refl _),_,rfl,(ai rfl).1.db (o7 _),h1⟩
 cases ex with
 |normal=>exact⟨rfl,U E⟩
 |ret=>exact⟨rfl,U E⟩
 |exit id=>exact E.elim
 |_=>cases ae
theorem eA.enter (hm:P.follows .mixedOrders=true) {f:FuncId} {fn:Func} {c:Code} (I:P.funcs[f]? =some fn) (J:fn.body=some c) (V:(fn.name == "runtime.NumGoroutine")=false)
  (W:wf fn.ntmps c=true) {args:List x4} (X:Nat.ble args.length fn.ntmps=true) {w:x5} {Q:x4→x5→Prop}
  (h:dR P fn.ntmps (true,0) c (lZ fn.results.toList) (jR 0 args) w (kK P fn.results.toList false Q)):eA P f args w Q:=by
 refine .code (Enters.of P I J V) (callsIn_wide (n:=0).1 (callsIn_of_wp I J trivial ?_));have Y:=sD (n:=fn.ntmps) args (Nat.le_of_ble_eq_true X);refine wpIn_mono (Q:=fun ex a' w'=>iD ex=true∧bodyPost P fn (fun e w'=>∃ v,e= .returned v∧Q v w') ex a' w') ?_ fun _ _ _ h=>h.2;refine sound hm c (true,0) none _ _ _ w _ _ W (fun l Z=>by cases Z) (fun h=>by cases h) h Y ?_ (fun _ _ _ h=>by cases h.1);intro ex a' w' aa;obtain⟨ab,ac,E,ad,_,ae,ah⟩:=aa;have af:a'.defers=[]:=ae rfl;have O:kK P fn.results.toList false Q .ret ac w'→a'.defers=[]∧ ∃ v,(results fn a'.tmps).run P w'= .ok v w'∧ ∃ U,Ending.returned v= .returned U∧Q U w':=by
  intro E;obtain⟨vs,h1,ag⟩:=sF (fn:=fn) ad E;exact⟨af,_,ag w' (Ext.refl _),_,rfl,h1⟩
 cases ex with
 |normal=>exact⟨rfl,O E⟩
 |ret=>exact⟨rfl,O E⟩
 |exit id=>exact E.elim
 |_=>cases ab
end
end Go.Vc
namespace Go.Proofs.YtgbkinibgjmodaaGreatDoor
open Go Go.Vc Go.RowKit Go.Proofs Go.Proofs.Tryz
set_option maxRecDepth 100000
theorem mixed:y0.follows .mixedOrders=true:=by kernel_rfl
def qC:Nat:=3
def nJ:Nat:=11
def l0:Nat:=12
def l1:Nat:=13
def kL:Nat:=14
def kM:Nat:=15
def kN:Nat:=16
def l2:Nat:=17
def jm:Nat:=18
def kO:Nat:=19
def nK:Nat:=20
def gX:Nat:=22
def nL:Nat:=32
def l3:Nat:=42
def kP:Nat:=48
def l4:Nat:=49
def nM:Nat:=52
def nN:Nat:=53
def jS:Nat:=59
def l8:Nat:=60
def nO:Nat:=61
def nP:Nat:=62
def nQ:Nat:=63
def nR:Nat:=66
def nS:Nat:=67
def nT:Nat:=68
def nU:Nat:=69
def nV:Nat:=70
def nW:Nat:=71
def ma:Nat:=72
def iE:Nat:=73
def hr:Nat:=74
def kQ:Nat:=75
def nX:Nat:=76
def mb:Nat:=77
def nY:Nat:=78
def mc:Nat:=79
def jn:Nat:=80
def kR:Nat:=81
def nZ:Nat:=82
def kS:Nat:=89
def kT:Nat:=90
def n1:Nat:=91
def hZ:Nat:=103
def n2:Nat:=113
def md:Nat:=114
def me:Nat:=116
def n3:Nat:=117
def kU:Nat:=121
def n4:Nat:=124
def n5:Nat:=127
def n7:Nat:=128
def kV:Nat:=129
def mf:Nat:=130
def iF:Nat:=131
def jT:Nat:=132
def n8:Nat:=133
def oa:Nat:=134
def ob:Nat:=135
def oc:Nat:=137
def iG:Nat:=139
def iH:Nat:=140
def jU:Nat:=141
def od:Nat:=145
def jV:Nat:=146
def jW:Nat:=147
def fx:Nat:=148
def eB:Nat:=149
def ed:Nat:=150
def mg:Nat:=151
def iI:Nat:=152
def fk:Nat:=153
def jo:Nat:=154
def kW:Nat:=155
def oe:Nat:=156
def mh:Nat:=157
def fZ:Nat:=158
def en:Nat:=159
def mi:Nat:=160
def fy:Nat:=161
def og:Nat:=162
def mj:Nat:=163
def hs:Nat:=164
def oh:Nat:=165
def ml:Nat:=166
def iJ:Nat:=167
def jX:Nat:=170
def oi:Nat:=171
def mm:Nat:=172
def iK:Nat:=173
def mn:Nat:=174
def oj:Nat:=181
def cmp_isNaN_int:Nat:=182
def mo:Nat:=183
def gv:Nat:=187
def ol:Nat:=188
def jY:Nat:=191
def om:Nat:=192
def oo:Nat:=193
def mq:Nat:=194
def h0:Nat:=196
def oq:Nat:=197
def ot:Nat:=198
def kX:Nat:=199
def mr:Nat:=200
def ou:Nat:=201
def ov:Nat:=202
def ow:Nat:=203
def mu:Nat:=204
def fz:Nat:=205
def mv:Nat:=206
def ox:Nat:=207
def iL:Nat:=208
def oy:Nat:=209
def oz:Nat:=210
def jZ:Nat:=211
def mw:Nat:=212
def my:Nat:=213
def jp:Nat:=214
def oA:Nat:=215
def kY:Nat:=216
def oB:Nat:=217
def u2:Nat:=218
def mz:Nat:=219
def oC:Nat:=220
def mA:Nat:=221
def oD:Nat:=222
def mB:Nat:=223
def mC:Nat:=224
def mD:Nat:=225
def mE:Nat:=226
def j1:Nat:=227
def oE:Nat:=228
def kZ:Nat:=238
def oF:Nat:=240
def oG:Nat:=242
def k0:Nat:=243
def j2:Nat:=244
def oH:Nat:=245
def k1:Nat:=246
def oI:Nat:=247
def oJ:Nat:=248
def k2:Nat:=249
def oK:Nat:=250
def k3:Nat:=251
def j3:Nat:=252
def j7:Nat:=253
def mF:Nat:=254
def mG:Nat:=255
def oL:Nat:=256
def oM:Nat:=257
def oN:Nat:=258
def k4:Nat:=259
def mH:Nat:=260
def qD:Nat:=261
def ht:Nat:=263
def mI:Nat:=264
def oO:Nat:=265
def oP:Nat:=266
def oQ:Nat:=267
def oR:Nat:=268
def oS:Nat:=269
def qE:Nat:=271
def oT:Nat:=277
def qF:Nat:=278
def oU:Nat:=279
def qG:Nat:=280
def oV:Nat:=281
def oW:Nat:=282
def h2:Nat:=283
def mJ:Nat:=284
def jq:Nat:=285
def oX:Nat:=286
def oY:Nat:=295
def oZ:Nat:=296
def o0:Nat:=297
def u3:Nat:=298
def gw:Nat:=299
def o1:Nat:=300
def o2:Nat:=302
def pa:Nat:=303
def pb:Nat:=304
def mK:Nat:=305
def mL:Nat:=309
def mM:Nat:=310
def pc:Nat:=312
def pd:Nat:=313
def pe:Nat:=314
def Ak:Nat:=315
def pf:Nat:=316
def Al:Nat:=317
def Am:Nat:=318
def An:Nat:=319
def Ao:Nat:=320
def Ap:Nat:=321
def cmp_Less_int:Nat:=322
def Aq:Nat:=323
def Ar:Nat:=324
def qH:Nat:=334
def qI:Nat:=335
def qJ:Nat:=0
def ae:Nat:=2
def J:Nat:=3
def ga:Nat:=4
def bb:Nat:=5
def a1:Nat:=9
def aV:Nat:=22
def mN:Nat:=23
def eC:Nat:=25
def ab:Nat:=26
def cq:Nat:=27
def fa:Nat:=28
def bZ:Nat:=29
def ee:Nat:=30
def aX:Nat:=33
def fM:Nat:=36
def cb:Nat:=37
def bD:Nat:=39
def bl:Nat:=41
def af:Nat:=68
def aD:Nat:=70
def eo:Nat:=72
def fN:Nat:=92
def pg:Nat:=98
def mO:Nat:=111
def qK:Nat:=114
def bn:Nat:=120
def bT:Nat:=122
def ep:Nat:=125
def bj:Nat:=126
def aR:Nat:=128
def aJ:Nat:=136
def cz:Nat:=138
def bA:Nat:=147
def va:Nat:=153
def k5:Nat:=197
def cQ:Nat:=200
def dy:Nat:=201
def bi:Nat:=203
def fb:Nat:=208
def ef:Nat:=209
def be:Nat:=211
def bJ:Nat:=217
def bf:Nat:=219
def b5:Nat:=220
def bg:Nat:=222
def cA:Nat:=224
def bU:Nat:=228
def aN:Nat:=230
def b2:Nat:=232
def bo:Nat:=234
def cr:Nat:=238
def aF:Nat:=240
def er:Nat:=245
def cK:Nat:=247
def fl:Nat:=250
def dm:Nat:=252
def gx:Nat:=253
def j8:Nat:=254
def cR:Nat:=256
def dE:Nat:=258
def dc:Nat:=260
def gY:Nat:=262
def bq:Nat:=271
def hv:Nat:=278
def du:Nat:=290
def gb:Nat:=296
def cB:Nat:=301
def bx:Nat:=304
def cX:Nat:=306
def bB:Nat:=311
def dC:Nat:=320
def cL:Nat:=322
def hx:Nat:=323
def dn:Nat:=326
def vb:Nat:=332
def cY:Nat:=340
def eD:Nat:=343
def dz:Nat:=345
def bh:Nat:=347
def fm:Nat:=363
def et:Nat:=365
def gd:Nat:=394
def gZ:Nat:=409
def ph:Nat:=426
abbrev aS:=x4→x5→Prop
abbrev dL:=x5→Prop
theorem aE {f:FuncId} {fn:Func} {c:Code} (I:y0.funcs[f]? =some fn) (J:fn.body=some c) {args:List x4} (E:(!(fn.name == "runtime.NumGoroutine")&&wf fn.ntmps c&&Nat.ble args.length fn.ntmps&& !hU c)=true)
  {w:x5} {Q:x4→x5→Prop} {B:Prop} (e:B=dR y0 fn.ntmps (false,w.heap.size) c (lZ fn.results.toList) (jR 0 args) w (kK y0 fn.results.toList false Q)) (h:B):O y0 f args w Q:=by
 simp only[U1,Bool.not_eq_true'] at E;exact O.Aj mixed I J E.1.1.1 E.1.1.2 E.1.2 E.2 (e▸h)
section
variable {Z:x5} {ac:aS} {V ao bk fO jr k6 k7 k8 k9 la lb ld:x4}
theorem qC.enter (h:O y0 nJ [] Z fun bd ax=>I y0 (Z5 .not bd) ax fun be=>Split be (ac (.bool false) ax) (O y0 l0 [V] ax fun ay am=>I y0 (u5 ay 0) am fun X=>I y0 (u5 ay 1) am fun bf=>I y0 (u5 ay 2) am fun bg=>aa y0 (n9 aX true (.tuple #[])) am fun x bh=>aa y0 (x8 aX x bf) bh fun _ ad=>I y0 (Z5 .not bg) ad fun bi=>Split bi (I y0 (U .eql eC false true X (.pointer none)) ad fun bj=>ac bj ad) (I y0 (x2 aX x 1) ad fun bl=>I y0 (x1 ab bl) ad fun t39=>I y0 (u6 #[ab] J #[t39]) ad fun az=>@aB aS (fun _ bm=>O y0 jm [X,bk] bm fun bn bo=>O y0 kO [X] bo fun bp bq=>O y0 nK [X,bk] bq fun br ap=>@aB aS (fun bt bu=>ac bt bu) fun aA=>I y0 (U .eql cb false true br (.int .i64 0)) ap fun bw=>I y0 (U .eql ga false false bw bn) ap fun bx=>Split bx (O y0 jm [X,bk] ap fun bz aC=>I y0 (Z5 .not bz) aC fun bA=>Split bA (O y0 kO [X] aC fun bB aL=>I y0 (U .eql J false false bB bp) aL fun bC=>aA bC aL) (aA (.bool false) aC)) (aA (.bool false) ap)) fun aM=>I y0 (u6 #[mN] J #[ao]) ad fun bD=>a8 (.bool false) (.int .i64 0) ad fun aD aq aj k=>I y0 (U .lss J false false aq bD) aj fun bE=>Split bE (I y0 (x7 mN ao aq) aj fun t46=>I y0 (x1 fM t46) aj fun bF=>aa y0 (n9 fM true (.tuple #[])) aj fun d bG=>aa y0 (x8 fM d bF) bG fun _ af=>I y0 (U .geq J false true aq (.int .i64 6)) af fun bH=>Split bH (aM aD af) (I y0 (x7 fM d (.int .i64 0)) af fun t50=>I y0 (x1 bb t50) af fun bI=>I y0 (convert bb J bI) af fun bJ=>I y0 (U .rem J false false bJ az) af fun aF=>aQ af fun Y=>I y0 (x7 fM d (.int .i64 1)) Y fun t55=>I y0 (x1 bb t55) Y fun bK=>I y0 (convert bb J bK) Y fun bL=>I y0 (x2 aX x 1) Y fun bM=>I y0 (x1 ab bM) Y fun bN=>I y0 (x7 ab bN aF) Y fun bO=>I y0 (x1 J bO) Y fun bP=>I y0 (U .rem J false false bL bP) Y fun aN=>@aB aS (fun bQ aO=>Split bQ (ac (.bool false) aO) (a8 aD (.int .i64 0) aO fun aP t76 au bR=>I y0 (U .lss J false true t76 (.int .i64 10)) au fun t77=>Split t77 (aa y0 (V8 ab az az) au fun ah av=>I y0 (x2 aX x 1) av fun bS=>I y0 (x1 ab bS) av fun aR=>I y0 (u6 #[ab] J #[aR]) av fun bT=>bc (.int .i64 0) av fun ak W bU=>I y0 (U .lss J false false ak bT) W fun bV=>Split bV (I y0 (x7 ab aR ak) W fun bW=>I y0 (x1 J bW) W fun bX=>I y0 (U .add J false true ak (.int .i64 1)) W fun bY=>I y0 (U .mul J false false t76 bY) W fun bZ=>I y0 (u6 #[aV] J #[V]) W fun b1=>I y0 (U .add J false false bZ b1) W fun b2=>I y0 (U .rem J false false b2 bX) W fun b3=>I y0 (x7 ab ah ak) W fun b4=>aa y0 (x8 J b4 b3) W fun _ aT=>I y0 (U .add J false true ak (.int .i64 1)) aT fun b5=>bU b5 aT) (I y0 (u6 #[ab] J #[ah]) W fun b6=>a8 (.bool false) (.int .i64 0) W fun gone aw aG b7=>I y0 (U .lss J false false aw b6) aG fun b8=>Split b8 (@aB aS (fun b9 aU=>I y0 (U .add J false true aw (.int .i64 1)) aU fun ca=>b7 b9 ca aU) fun aW=>aQ aG fun ag=>Split gone ((Ext ag ag∨True∧True)∧aW (.bool true) ag) (I y0 (x7 ab ah aw) ag fun aY=>I y0 (x1 J aY) ag fun aZ=>O y0 kL [X,aw] ag fun cc aH=>(Ext ag aH∨al y0 (x1 J aY) aZ aH∧True)∧O y0 kM [cc,aZ] aH fun cd a1=>I y0 (Z5 .not cd) a1 fun ce=>aW ce a1)) (O y0 kN [X,ah] aG fun a2 E=>I y0 (u5 a2 0) E fun aI=>I y0 (u5 a2 1) E fun cg=>@aB aS (fun ch aJ=>Split ch (ac (.bool false) aJ) (I y0 (U .add J false true t76 (.int .i64 1)) aJ fun ci=>bR aP ci aJ)) fun ai=>I y0 (U .neq cb false true cg (.int .i64 0)) E fun cj=>Split cj (ai (.bool true) E) (Split gone (I y0 (x2 aX x 0) E fun ck=>I y0 (x1 ae ck) E fun cl=>I y0 (U .neq ae false false aI cl) E fun cm=>Split cm (ai (.bool true) E) (I y0 (Z5 .not gone) E fun cn=>Split cn (I y0 (x1 aX x) E fun cp=>O y0 l2 [cp,ah] E fun cq a6=>I y0 (U .neq ae false false aI cq) a6 fun cr=>ai cr a6) (ai (.bool false) E))) (I y0 (Z5 .not gone) E fun ct=>Split ct (I y0 (x1 aX x) E fun cu=>O y0 l2 [cu,ah] E fun cw a7=>I y0 (U .neq ae false false aI cw) a7 fun cz=>ai cz a7) (ai (.bool false) E)))))) (I y0 (U .add J false true aq (.int .i64 1)) au fun cA=>k aP cA au))) fun ba=>O y0 l1 [X,aF,aN] Y fun cB aK=>I y0 (U .neq cb false true cB (.int .i64 0)) aK fun cC=>Split cC (ba (.bool true) aK) (O y0 kL [X,aF] aK fun cD cE=>O y0 kM [cD,aN] cE fun cF cG=>ba cF cG))) (aM aD aj)))):O y0 qC [V,ao,bk] Z ac:=aE Tryz.func3 rfl (by kernel_rfl) (by kernel_rfl) h
theorem nJ.enter (h:aa y0 (u9 aV 30 #[(0,(.int .u8 116)),(1,(.int .u8 32)),(2,(.int .u8 50)),(3,(.int .u8 32)),(4,(.int .u8 50)),(5,(.int .u8 32)),(6,(.int .u8 49)),(7,(.int .u8 32)),(8,(.int .u8 57)),(9,(.int .u8 32)),(10,(.int .u8 50)),(11,(.int .u8 32)),(12,(.int .u8 50)),(13,(.int .u8 10)),(14,(.int .u8 50)),(15,(.int .u8 32)),(16,(.int .u8 48)),(17,(.int .u8 32)),(18,(.int .u8 49)),(19,(.int .u8 32)),(20,(.int .u8 48)),(21,(.int .u8 32)),(22,(.int .u8 49)),(23,(.int .u8 10)),(24,(.int .u8 49)),(25,(.int .u8 32)),(26,(.int .u8 49)),(27,(.int .u8 32)),(28,(.int .u8 53)),(29,(.int .u8 10))]) Z fun t9 aj=>aa y0 (convert aV aV t9) aj fun ak al=>O y0 l0 [ak] al fun W J=>I y0 (u5 W 0) J fun X=>I y0 (u5 W 1) J fun am=>I y0 (u5 W 2) J fun ao=>aa y0 (n9 aX true (.tuple #[])) J fun ap aq=>aa y0 (x8 aX ap am) aq fun _ Y=>@aB aS (fun au af=>Split au (ac (.bool false) af) (aa y0 (u9 ab 2 #[(0,(.int .i64 1)),(1,(.int .i64 1))]) af fun av aw=>O y0 kN [X,av] aw fun t25 ad=>I y0 (u5 t25 0) ad fun ax=>I y0 (u5 t25 1) ad fun ay=>aa y0 (u9 ab 2 #[(0,(.int .i64 1)),(1,(.int .i64 0))]) ad fun az aA=>O y0 kN [X,az] aA fun ag E=>I y0 (u5 ag 0) E fun aC=>I y0 (u5 ag 1) E fun aD=>@aB aS (fun t0 aF=>ac t0 aF) fun V=>I y0 (U .eql ae false true ax (.int .i64 9)) E fun aG=>Split aG (I y0 (U .eql cb false true ay (.int .i64 0)) E fun aH=>Split aH (I y0 (U .eql ae false true aC (.int .i64 0)) E fun aI=>Split aI (I y0 (U .eql cb false true aD (.int .i64 0)) E fun t46=>V t46 E) (V (.bool false) E)) (V (.bool false) E)) (V (.bool false) E))) fun ah=>I y0 (Z5 .not ao) Y fun aJ=>Split aJ (ah (.bool true) Y) (O y0 l1 [X,(.int .i64 1),(.int .i64 1)] Y fun aK ai=>I y0 (U .neq cb false true aK (.int .i64 0)) ai fun aL=>ah aL ai)):O y0 nJ [] Z ac:=aE Tryz.func11 rfl (by kernel_rfl) (by kernel_rfl) h
theorem l0.enter (h:aa y0 (n9 aX true (.tuple #[])) Z fun t3 W=>I y0 (u6 #[aV] J #[V]) W fun aq=>I y0 (u7.min_ #[J,J] J #[aq,(.int .i64 300)]) W fun au=>I y0 (c7 aV V none (some au) none) W fun av=>O y0 nR [av] W fun ah aw=>O y0 nS [ah] aw fun ab X=>I y0 (u5 ab 0) X fun t22=>I y0 (u5 ab 1) X fun _=>I y0 (u5 ab 2) X fun ax=>O y0 nT [ah] X fun ad E=>I y0 (u5 ad 0) E fun ai=>I y0 (u5 ad 1) E fun _=>I y0 (u5 ad 2) E fun _=>@aB aS (fun ay ae=>Split ay (I y0 (Z0 aX #[]) ae fun az=>aa y0 (x8 aX t3 az) ae fun _ aj=>I y0 (do loadVar aX (←asAddr t3)) aj fun r=>ac (.tuple #[(.pointer none),r,(.bool false)]) aj) (O y0 nU [t22] ae fun ak af=>I y0 (u5 ak 0) af fun aA=>I y0 (u5 ak 1) af fun aC=>O y0 kP [aA] af fun ag aD=>aB (α:=x4→x4→x5→Prop) (fun(aF t4:x4) (al:x5)=>I y0 (do loadVar aX (←asAddr t3)) al fun aG=>ac (.tuple #[aF,aG,t4]) al) fun am=>O y0 nW [ai] aD fun aH aI=>O y0 nV [aH] aI fun ao Y=>I y0 (U .eql cb false true aC (.int .i64 0)) Y fun t50=>Split t50 (I y0 (U .neq eC false true ag (.pointer none)) Y fun t53=>aa y0 (x8 aX t3 ao) Y fun _ aJ=>am ag t53 aJ) (aa y0 (x8 aX t3 ao) Y fun _ aK=>am ag (.bool false) aK))) fun ap=>I y0 (U .neq cb false true ax (.int .i64 0)) E fun aL=>Split aL (ap (.bool true) E) (I y0 (U .eql qK false true ai (.pointer none)) E fun aM=>ap aM E)):O y0 l0 [V] Z ac:=aE Tryz.func12 rfl (by kernel_rfl) (by kernel_rfl) h
theorem l1.enter (h:I y0 (U .eql eC false true V (.pointer none)) Z fun t9=>Split t9 (ac (.int .i64 2) Z) (O y0 ma [V,ao,bk] Z fun af E=>I y0 (U .lss J false true af (.int .i64 0)) E fun ag=>Split ag (ac (.int .i64 1) E) (I y0 (am V) E fun ah=>I y0 (x2 aR ah 2) E fun ai=>I y0 (x1 ab ai) E fun aj=>I y0 (x7 ab aj ao) E fun ak=>I y0 (x1 J ak) E fun ap=>I y0 (U .add J false true ap (.int .i64 1)) E fun t22=>aQ E fun W=>I y0 (am V) W fun Y=>I y0 (x2 aR Y 1) W fun t25=>I y0 (x1 ep t25) W fun aa=>I y0 (am V) W fun aq=>I y0 (x2 aR aq 1) W fun au=>I y0 (x1 ep au) W fun av=>I y0 (U .shl ae true false (.int .i64 1) bk) W fun ad=>O y0 hr [av,t22] W fun aw X=>(Ext W X∨al y0 (U .shl ae true false (.int .i64 1) bk) ad X∧al y0 (x1 ep t25) aa X∧al y0 (x2 aR Y 1) t25 X∧al y0 (am V) Y X∧True)∧I y0 (U .or ae false false aw ad) X fun ax=>O y0 iE [aa,t22,ax] X fun ay az=>ac ay az))):O y0 l1 [V,ao,bk] Z ac:=aE Tryz.func13 rfl (by kernel_rfl) (by kernel_rfl) h
theorem kL.enter (h:aa y0 (n9 bl true (.tuple #[])) Z fun t4 ak=>O y0 kQ [V,ao] ak fun al X=>I y0 (Z5 .not al) X fun ap=>Split ap (I y0 (Z0 bl #[]) X fun aq=>aa y0 (x8 bl t4 aq) X fun _ ad=>I y0 (do loadVar bl (←asAddr t4)) ad fun r=>ac r ad) (I y0 (am V) X fun au=>I y0 (x2 aR au 0) X fun av=>I y0 (x1 fN av) X fun aw=>O y0 mb [aw,ao] X fun ax ay=>O y0 nX [ax] ay fun af Y=>I y0 (u5 af 0) Y fun t22=>I y0 (u5 af 1) Y fun _=>aa y0 (n9 bl true (.tuple #[])) Y fun d az=>aa y0 (x8 bl d t22) az fun _ aA=>aQ aA fun E=>I y0 (am V) E fun t25=>I y0 (x2 aR t25 1) E fun aC=>I y0 (x1 ep aC) E fun aD=>I y0 (am V) E fun aF=>I y0 (x2 aR aF 2) E fun aG=>I y0 (x1 ab aG) E fun aH=>I y0 (x7 ab aH ao) E fun aI=>I y0 (x1 J aI) E fun aJ=>I y0 (U .add J false true aJ (.int .i64 1)) E fun aK=>O y0 hr [aD,aK] E fun aL ag=>I y0 (x1 bl d) ag fun aM=>O y0 nP [aM] ag fun aN aO=>bc (.int .i64 0) aO fun t39 W k=>I y0 (U .lss J false false t39 aN) W fun aP=>Split aP (@aB dL (fun ah=>I y0 (U .add J false true t39 (.int .i64 1)) ah fun t50=>k t50 ah) fun ai=>I y0 (U .shr ae false false aL t39) W fun aS=>I y0 (U .and ae false true aS (.int .i64 1)) W fun t45=>I y0 (U .eql ae false true t45 (.int .i64 1)) W fun t46=>Split t46 (I y0 (x1 bl d) W fun aT=>O y0 nY [aT,t39] W fun aU aV=>aa y0 (x8 bl d aU) aV fun _ aW=>ai aW) (ai W)) (I y0 (x1 bl d) W fun aX=>aa y0 (x8 bl t4 aX) W fun _ aj=>I y0 (do loadVar bl (←asAddr t4)) aj fun aY=>ac aY aj))):O y0 kL [V,ao] Z ac:=aE Tryz.func14 rfl (by kernel_rfl) (by kernel_rfl) h
theorem kM.enter (h:aa y0 (Z2 bl V) Z fun J W=>@aB aS (fun t4 Y=>ac t4 Y) fun X=>I y0 (x1 bl J) W fun t5=>O y0 mc [t5,ao] W fun ab E=>Split ab (I y0 (x2 bl J 0) E fun t9=>I y0 (x1 bD t9) E fun ad=>I y0 (U .shr bD false false ad ao) E fun ae=>I y0 (U .and bD false true ae (.int .u64 1)) E fun af=>I y0 (U .eql bD false true af (.int .u64 1)) E fun ag=>X ag E) (X (.bool false) E)):O y0 kM [V,ao] Z ac:=aE Tryz.func15 rfl (by kernel_rfl) (by kernel_rfl) h
theorem kN.enter (h:I y0 (U .eql eC false true V (.pointer none)) Z fun aN=>Split aN (ac (.tuple #[(.int .i64 0),(.int .i64 2)]) Z) (I y0 (u6 #[ab] J #[ao]) Z fun t22=>O y0 l8 [V] Z fun aO ai=>I y0 (U .neq J false false t22 aO) ai fun t25=>Split t25 (ac (.tuple #[(.int .i64 0),(.int .i64 3)]) ai) (O y0 nO [V] ai fun aP au=>I y0 (u6 #[ab] J #[ao]) au fun aQ=>jj (.int .i64 0) (.int .i64 0) aP (.bool true) (.int .i64 0) au fun t4 t5 aj left X E k=>I y0 (U .lss J false false X aQ) E fun aT=>Split aT (aB (α:=x4→x4→x4→x4→x5→Prop) (fun(aU aV aW aX:x4) (av:x5)=>I y0 (U .add J false true X (.int .i64 1)) av fun aY=>k aU aV aW aX aY av) fun aw=>I y0 (x7 ab ao X) E fun aZ=>I y0 (x1 J aZ) E fun ax=>O y0 nQ [V,X] E fun a1 ay=>Split a1 (aw t4 t5 aj left ay) (O y0 nM [V,X,ax] ay fun az Y=>I y0 (u5 az 0) Y fun a2=>I y0 (u5 az 1) Y fun a6=>I y0 (U .neq cb false true a6 (.int .i64 0)) Y fun t46=>Split t46 (ac (.tuple #[(.int .i64 0),(.int .i64 3)]) Y) (@aB aS (fun a7 ba=>O y0 jS [V] ba fun bb bd=>O y0 jn [aj,a2,bb] bd fun aA ak=>I y0 (u5 aA 0) ak fun be=>I y0 (u5 aA 1) ak fun _=>aw t4 t5 be a7 ak) fun aC=>Split left (O y0 kL [V,X] Y fun bf bg=>O y0 kM [bf,ax] bg fun t53 bh=>aC t53 bh) (aC (.bool false) Y)))) (I y0 (Z5 .not left) E fun bi=>Split bi (O y0 jS [V] E fun bk bl=>ac (.tuple #[bk,(.int .i64 0)]) bl) (I y0 (am V) E fun bm=>I y0 (x2 aR bm 3) E fun t70=>I y0 (x1 bj t70) E fun aD=>I y0 (u6 #[bj] J #[aD]) E fun bn=>a8 aj (.int .i64 0) E fun al ad ae bo=>I y0 (U .lss J false false ad bn) ae fun bp=>Split bp (@aB aS (fun bq aF=>I y0 (U .add J false true ad (.int .i64 1)) aF fun br=>bo bq br aF) fun aG=>I y0 (x7 bj aD ad) ae fun t76=>I y0 (x1 cz t76) ae fun t77=>aa y0 (n9 cz true (.tuple #[])) ae fun f bt=>aa y0 (x8 cz f t77) bt fun _ bu=>O y0 jm [V,ad] bu fun bw af=>Split bw (I y0 (x2 cz f 0) af fun bx=>I y0 (x1 ab bx) af fun bz=>I y0 (u6 #[ab] J #[bz]) af fun aH=>aa y0 (V8 ab aH aH) af fun aI ag=>I y0 (x2 cz f 0) ag fun bA=>I y0 (x1 ab bA) ag fun aJ=>I y0 (u6 #[ab] J #[aJ]) ag fun bB=>bc (.int .i64 0) ag fun ah W bC=>I y0 (U .lss J false false ah bB) W fun bD=>Split bD (I y0 (x7 ab aJ ah) W fun bE=>I y0 (x1 J bE) W fun bF=>I y0 (x7 ab ao bF) W fun bG=>I y0 (x1 J bG) W fun bH=>I y0 (x7 ab aI ah) W fun bI=>aa y0 (x8 J bI bH) W fun _ aK=>I y0 (U .add J false true ah (.int .i64 1)) aK fun bJ=>bC bJ aK) (O y0 nN [V,ad,aI] W fun aL ap=>I y0 (u5 aL 0) ap fun bK=>I y0 (u5 aL 1) ap fun _=>O y0 jS [V] ap fun bL bM=>O y0 jn [al,bK,bL] bM fun aM aq=>I y0 (u5 aM 0) aq fun bN=>I y0 (u5 aM 1) aq fun _=>aG bN aq)) (aG al af)) (ac (.tuple #[al,(.int .i64 0)]) ae)))))):O y0 kN [V,ao] Z ac:=aE Tryz.func16 rfl (by kernel_rfl) (by kernel_rfl) h
theorem l2.enter (h:aa y0 (Z2 aX V) Z fun W ai=>I y0 (x2 aX W 2) ai fun aC=>I y0 (x1 ae aC) ai fun aF=>I y0 (u6 #[ab] J #[ao]) ai fun aG=>hV (.int .i64 0) aF (.int .i64 0) ai fun t4 am Y E k=>I y0 (U .lss J false false Y aG) E fun aH=>Split aH (aB (α:=x4→x4→x5→Prop) (fun(aI aJ:x4) (au:x5)=>I y0 (U .add J false true Y (.int .i64 1)) au fun t46=>k aI aJ t46 au) fun av=>I y0 (x7 ab ao Y) E fun aK=>I y0 (x1 J aK) E fun aw=>I y0 (x2 aX W 4) E fun aL=>I y0 (x1 fa aL) E fun aM=>I y0 (x7 fa aM Y) E fun t22=>I y0 (x1 ga t22) E fun aN=>Split aN (av t4 am E) (I y0 (x2 aX W 3) E fun aO=>I y0 (x1 cq aO) E fun t25=>I y0 (x7 cq t25 Y) E fun aP=>I y0 (x1 ab aP) E fun aR=>O y0 nL [aR,aw] E fun aT ag=>I y0 (Z5 .not aT) ag fun aU=>Split aU (I y0 (x2 aX W 0) ag fun aV=>I y0 (x1 ae aV) ag fun aW=>ac aW ag) (aQ ag fun X=>I y0 (x2 aX W 5) X fun aY=>I y0 (x1 bZ aY) X fun aZ=>I y0 (x7 bZ aZ Y) X fun a1=>I y0 (x1 af a1) X fun t39=>I y0 (x7 af t39 aw) X fun a2=>I y0 (x1 ae a2) X fun a6=>I y0 (x2 aX W 0) X fun a7=>I y0 (x1 ae a7) X fun ba=>O y0 kR [am,a6,ba] X fun t45 bb=>av t4 t45 bb))) (I y0 (x2 aX W 6) E fun bc=>I y0 (x1 ee bc) E fun ax=>I y0 (u6 #[ee] J #[ax]) E fun bd=>a8 am (.int .i64 0) E fun ap t50 ah be=>I y0 (U .lss J false false t50 bd) ah fun bf=>Split bf (@aB aS (fun bg ay=>I y0 (U .add J false true t50 (.int .i64 1)) ay fun bh=>be bg bh ay) fun az=>I y0 (x7 ee ax t50) ah fun bi=>I y0 (x1 eo bi) ah fun t53=>aa y0 (n9 eo true (.tuple #[])) ah fun f bj=>aa y0 (x8 eo f t53) bj fun _ aj=>I y0 (x2 eo f 1) aj fun bk=>I y0 (x1 ga bk) aj fun t55=>Split t55 (aQ aj fun ad=>I y0 (x2 eo f 0) ad fun bl=>I y0 (x1 aD bl) ad fun bm=>I y0 (x2 aX W 0) ad fun aq=>I y0 (x1 ae aq) ad fun aA=>O y0 nZ [bm,ao] ad fun bn ak=>(Ext ad ak∨al y0 (x1 ae aq) aA ak∧al y0 (x2 aX W 0) aq ak∧True)∧O y0 kR [ap,bn,aA] ak fun bo bp=>az bo bp) (az ap aj)) (ac ap ah))):O y0 l2 [V,ao] Z ac:=aE Tryz.func17 rfl (by kernel_rfl) (by kernel_rfl) h
theorem jm.enter (h:@aB aS (fun t4 aa=>ac t4 aa) fun W=>aQ Z fun X=>I y0 (U .geq J false true ao (.int .i64 0)) X fun ab=>Split ab (O y0 kO [V] X fun ad E=>I y0 (U .lss J false false ao ad) E fun af=>Split af (I y0 (am V) E fun ag=>I y0 (x2 aR ag 1) E fun ah=>I y0 (x1 ep ah) E fun ai=>I y0 (am V) E fun aj=>I y0 (x2 aR aj 3) E fun ak=>I y0 (x1 bj ak) E fun al=>I y0 (x7 bj al ao) E fun ap=>I y0 (x2 cz ap 2) E fun aq=>I y0 (x1 J aq) E fun t25=>O y0 hr [ai,t25] E fun au Y=>I y0 (U .neq ae false true au (.int .i64 0)) Y fun av=>W av Y) (W (.bool false) E)) (W (.bool false) X)):O y0 jm [V,ao] Z ac:=aE Tryz.func18 rfl (by kernel_rfl) (by kernel_rfl) h
theorem kO.enter (h:I y0 (U .eql eC false true V (.pointer none)) Z fun t4=>Split t4 (ac (.int .i64 0) Z) (I y0 (am V) Z fun E=>I y0 (x2 aR E 3) Z fun W=>I y0 (x1 bj W) Z fun X=>I y0 (u6 #[bj] J #[X]) Z fun t9=>ac t9 Z)):O y0 kO [V] Z ac:=aE Tryz.func19 rfl (by kernel_rfl) (by kernel_rfl) h
theorem nK.enter (h:I y0 (U .eql eC false true V (.pointer none)) Z fun X=>Split X (ac (.int .i64 2) Z) (O y0 jm [V,ao] Z fun Y W=>I y0 (Z5 .not Y) W fun aa=>Split aa (ac (.int .i64 1) W) (aQ W fun E=>I y0 (am V) E fun ab=>I y0 (x2 aR ab 1) E fun ad=>I y0 (x1 ep ad) E fun ae=>I y0 (am V) E fun af=>I y0 (x2 aR af 3) E fun ag=>I y0 (x1 bj ag) E fun ah=>I y0 (x7 bj ah ao) E fun t22=>I y0 (x2 cz t22 2) E fun ai=>I y0 (x1 J ai) E fun aj=>O y0 iE [ae,aj,(.int .i64 0)] E fun t25 ak=>ac t25 ak))):O y0 nK [V,ao] Z ac:=aE Tryz.func20 rfl (by kernel_rfl) (by kernel_rfl) h
end
section
variable {Z:x5} {ac:aS} {V ao bk fO jr k6 k7 k8 k9 la lb ld:x4}
theorem gX.enter (h:I y0 (U .eql ab false true V (.slice none 0 0)) Z fun t4=>Split t4 (ac (.slice none 0 0) Z) (aa y0 (u9 ab 0 #[]) Z fun t5 E=>aa y0 (r9 #[ab,ab] ab #[t5,V]) E fun J W=>ac J W)):O y0 gX [V] Z ac:=aE Tryz.func22 rfl (by kernel_rfl) (by kernel_rfl) h
theorem nL.enter (h:I y0 (u6 #[ab] J #[V]) Z fun W=>a8 (.bool false) (.int .i64 0) Z fun t4 t9 E k=>I y0 (U .lss J false false t9 W) E fun X=>Split X (I y0 (x7 ab V t9) E fun Y=>I y0 (x1 J Y) E fun aa=>I y0 (U .eql J false false aa ao) E fun ad=>Split ad (ac (.bool true) E) (I y0 (U .add J false true t9 (.int .i64 1)) E fun ae=>k t4 ae E)) (ac (.bool false) E)):O y0 nL [V,ao] Z ac:=aE Tryz.func32 rfl (by kernel_rfl) (by kernel_rfl) h
theorem l3.enter (h:I y0 (u6 #[af] J #[V]) Z fun Y=>I y0 (u6 #[af] J #[ao]) Z fun t9=>I y0 (U .neq J false false Y t9) Z fun aa=>Split aa (ac (.bool false) Z) (I y0 (u6 #[af] J #[V]) Z fun ab=>a8 (.bool false) (.int .i64 0) Z fun t4 W X k=>I y0 (U .lss J false false W ab) X fun ad=>Split ad (aQ X fun E=>I y0 (x7 af V W) E fun ag=>I y0 (x1 ae ag) E fun ah=>I y0 (x7 af ao W) E fun t22=>I y0 (x1 ae t22) E fun ai=>I y0 (U .neq ae false false ah ai) E fun aj=>Split aj (ac (.bool false) E) (I y0 (U .add J false true W (.int .i64 1)) E fun t25=>k t4 t25 E)) (ac (.bool true) X))):O y0 l3 [V,ao] Z ac:=aE Tryz.func42 rfl (by kernel_rfl) (by kernel_rfl) h
end
section
variable {Z:x5} {ac:aS} {V ao bk fO jr k6 k7 k8 k9 la lb ld:x4}
theorem kP.enter (h:I y0 (U .eql fN false true V (.pointer none)) Z fun aA=>Split aA (ac (.pointer none) Z) (O y0 n5 [(.int .i64 3)] Z fun aB aw=>I y0 (Z0 aR #[(0,V),(1,aB)]) aw fun aC=>aa y0 (Z2 aR aC) aw fun E aD=>aQ aD fun ad=>I y0 (am E) ad fun ao=>I y0 (x2 aR ao 1) ad fun ap=>I y0 (x1 ep ap) ad fun ax=>O y0 n7 [V] ad fun aF ae=>(Ext ad ae∨al y0 (x1 ep ap) ax ae∧al y0 (x2 aR ao 1) ap ae∧al y0 (am E) ao ae∧True)∧O y0 iE [ax,(.int .i64 0),aF] ae fun _ aG=>O y0 kV [V] aG fun aH aI=>bc (.int .i64 0) aI fun t22 aq k=>I y0 (U .lss J false false t22 aH) aq fun aJ=>Split aJ (O y0 mf [V,t22] aq fun aK aL=>aQ aL fun Y=>I y0 (am E) Y fun W=>I y0 (x2 aR W 2) Y fun X=>I y0 (x1 ab X) Y fun ag=>aa y0 (u9 af 2 #[(0,(.int .i64 0)),(1,(.int .i64 0))]) Y fun aM ah=>(Ext Y ah∨al y0 (x1 ab X) ag ah∧al y0 (x2 aR W 2) X ah∧al y0 (am E) W ah∧True)∧aa y0 (r9 #[af,af] af #[aM,aK]) ah fun aN ai=>(Ext Y ai∨al y0 (x1 ab X) ag ai∧al y0 (x2 aR W 2) X ai∧al y0 (am E) W ai∧True)∧O y0 iF [E,aN] ai fun aO aj=>(Ext Y aj∨al y0 (x1 ab X) ag aj∧al y0 (x2 aR W 2) X aj∧al y0 (am E) W aj∧True)∧aa y0 (u9 ab 1 #[(0,aO)]) aj fun aP ak=>(Ext Y ak∨al y0 (x1 ab X) ag ak∧al y0 (x2 aR W 2) X ak∧al y0 (am E) W ak∧True)∧aa y0 (r9 #[ab,ab] ab #[ag,aP]) ak fun t39 au=>I y0 (am E) au fun aS=>I y0 (x2 aR aS 2) au fun aT=>aa y0 (x8 ab aT t39) au fun _ ay=>I y0 (U .add J false true t22 (.int .i64 1)) ay fun aU=>k aU ay) (O y0 jT [V] aq fun aV aW=>bc (.int .i64 0) aW fun t45 av aX=>I y0 (U .lss J false false t45 aV) av fun t46=>Split t46 (O y0 oa [V,t45] av fun aY aZ=>O y0 ob [V,t45] aZ fun a1 a2=>O y0 n8 [E,aY,a1] a2 fun _ az=>I y0 (U .add J false true t45 (.int .i64 1)) az fun a6=>aX a6 az) (ac E av)))):O y0 kP [V] Z ac:=aE Tryz.func48 rfl (by kernel_rfl) (by kernel_rfl) h
theorem l4.enter (h:I y0 (U .eql eC false true V (.pointer none)) Z fun t4=>Split t4 (ac (.pointer none) Z) (I y0 (am V) Z fun E=>I y0 (x2 aR E 0) Z fun J=>I y0 (x1 fN J) Z fun W=>ac W Z)):O y0 l4 [V] Z ac:=aE Tryz.func49 rfl (by kernel_rfl) (by kernel_rfl) h
theorem nM.enter (h:I y0 (U .eql eC false true V (.pointer none)) Z fun X=>Split X (ac (.tuple #[(.int .i64 0),(.int .i64 2)]) Z) (O y0 ma [V,ao,bk] Z fun W E=>I y0 (U .lss J false true W (.int .i64 0)) E fun Y=>Split Y (ac (.tuple #[(.int .i64 0),(.int .i64 1)]) E) (I y0 (am V) E fun aa=>I y0 (x2 aR aa 1) E fun ab=>I y0 (x1 ep ab) E fun ad=>O y0 hr [ad,W] E fun t22 ae=>ac (.tuple #[t22,(.int .i64 0)]) ae))):O y0 nM [V,ao,bk] Z ac:=aE Tryz.func52 rfl (by kernel_rfl) (by kernel_rfl) h
theorem nN.enter (h:I y0 (U .eql eC false true V (.pointer none)) Z fun X=>Split X (ac (.tuple #[(.int .i64 0),(.int .i64 2)]) Z) (O y0 oc [V,ao,bk] Z fun W E=>I y0 (U .lss J false true W (.int .i64 0)) E fun Y=>Split Y (ac (.tuple #[(.int .i64 0),(.int .i64 1)]) E) (I y0 (am V) E fun aa=>I y0 (x2 aR aa 1) E fun ab=>I y0 (x1 ep ab) E fun ad=>O y0 hr [ad,W] E fun t22 ae=>ac (.tuple #[t22,(.int .i64 0)]) ae))):O y0 nN [V,ao,bk] Z ac:=aE Tryz.func53 rfl (by kernel_rfl) (by kernel_rfl) h
theorem jS.enter (h:O y0 l4 [V] Z fun t4 E=>O y0 od [t4] E fun t5 I=>ac t5 I):O y0 jS [V] Z ac:=aE Tryz.func59 rfl (by kernel_rfl) (by kernel_rfl) h
theorem l8.enter (h:O y0 l4 [V] Z fun t4 E=>O y0 kV [t4] E fun t5 I=>ac t5 I):O y0 l8 [V] Z ac:=aE Tryz.func60 rfl (by kernel_rfl) (by kernel_rfl) h
theorem nO.enter (h:I y0 (U .eql eC false true V (.pointer none)) Z fun t4=>Split t4 (ac (.int .i64 0) Z) (I y0 (am V) Z fun E=>I y0 (x2 aR E 1) Z fun J=>I y0 (x1 ep J) Z fun W=>O y0 hr [W,(.int .i64 0)] Z fun t9 X=>ac t9 X)):O y0 nO [V] Z ac:=aE Tryz.func61 rfl (by kernel_rfl) (by kernel_rfl) h
theorem nP.enter (h:aa y0 (Z2 bl V) Z fun U E=>I y0 (x2 bl U 1) E fun t3=>I y0 (x1 J t3) E fun t4=>ac t4 E):O y0 nP [V] Z ac:=aE Tryz.func62 rfl (by kernel_rfl) (by kernel_rfl) h
theorem nQ.enter (h:@aB aS (fun t4 Y=>ac t4 Y) fun W=>aQ Z fun aa=>O y0 kQ [V,ao] aa fun ad E=>Split ad (I y0 (am V) E fun af=>I y0 (x2 aR af 1) E fun ag=>I y0 (x1 ep ag) E fun ah=>I y0 (am V) E fun ai=>I y0 (x2 aR ai 2) E fun aj=>I y0 (x1 ab aj) E fun ak=>I y0 (x7 ab ak ao) E fun al=>I y0 (x1 J al) E fun ap=>O y0 hr [ah,ap] E fun aq X=>I y0 (U .neq ae false true aq (.int .i64 0)) X fun au=>W au X) (W (.bool false) E)):O y0 nQ [V,ao] Z ac:=aE Tryz.func63 rfl (by kernel_rfl) (by kernel_rfl) h
theorem nR.enter (h:I y0 (U .eql aV false true V (.slice none 0 0)) Z fun t4=>Split t4 (ac (.slice none 0 0) Z) (aa y0 (u9 aV 0 #[]) Z fun t5 E=>aa y0 (r9 #[aV,aV] aV #[t5,V]) E fun J W=>ac J W)):O y0 nR [V] Z ac:=aE Tryz.func66 rfl (by kernel_rfl) (by kernel_rfl) h
theorem nS.enter (h:I y0 (u6 #[aV] J #[V]) Z fun bd=>I y0 (U .gtr J false true bd (.int .i64 65536)) Z fun bg=>Split bg (ac (.tuple #[(.pointer none),(.int .i64 0),(.int .i64 5)]) Z) (O y0 jV [V] Z fun bh aJ=>I y0 (Z0 bi #[(0,bh)]) aJ fun bj=>aa y0 (Z2 bi bj) aJ fun E bk=>O y0 jW [E] bk fun aK ai=>I y0 (u5 aK 0) ai fun aL=>I y0 (u5 aK 1) ai fun bl=>I y0 (u6 #[a1] J #[aL]) ai fun t39=>I y0 (U .gtr J false true t39 (.int .i64 64)) ai fun bm=>O y0 fx [E,bm,bl] ai fun _ bn=>O y0 eB [E,(.int .i64 1),(.int .i64 4611686018427387904)] bn fun t45 au=>I y0 (u5 t45 0) au fun t46=>I y0 (u5 t45 1) au fun bo=>I y0 (U .gtr ae false true t46 (.int .i64 64)) au fun t50=>O y0 fx [E,t50,bo] au fun _ bp=>O y0 eB [E,(.int .i64 1),(.int .i64 4611686018427387904)] bp fun t55 az=>I y0 (u5 t55 0) az fun bq=>I y0 (u5 t55 1) az fun _=>O y0 eB [E,(.int .i64 0),(.int .i64 4611686018427387904)] az fun aM av=>I y0 (u5 aM 0) av fun aN=>I y0 (u5 aM 1) av fun br=>I y0 (U .gtr ae false true aN (.int .i64 256)) av fun bt=>O y0 fx [E,bt,br] av fun _ bu=>O y0 eB [E,(.int .i64 1),(.int .i64 4611686018427387904)] bu fun t70 aw=>I y0 (u5 t70 0) aw fun aO=>I y0 (u5 t70 1) aw fun bw=>I y0 (U .gtr ae false true aO (.int .i64 2147483648)) aw fun bx=>O y0 fx [E,bx,bw] aw fun _ bz=>a8 (.slice none 0 0) (.int .i64 0) bz fun sizes i aA k=>@aB aS (fun bA aP=>Split bA (O y0 eB [E,(.int .i64 1),bq] aP fun aR ax=>I y0 (u5 aR 0) ax fun aT=>I y0 (u5 aR 1) ax fun bB=>I y0 (U .gtr ae false true aT (.int .i64 32)) ax fun bC=>O y0 fx [E,bC,bB] ax fun _ bD=>aa y0 (u9 af 1 #[(0,aT)]) bD fun bE bF=>aa y0 (r9 #[af,af] af #[sizes,bE]) bF fun bG aU=>I y0 (U .add ae false true i (.int .i64 1)) aU fun bH=>k bG bH aU) (a8 (.slice none 0 0) (.int .i64 0) aP fun funs aW aC bI=>@aB aS (fun bK aX=>Split bK (O y0 mg [E,sizes] aX fun bL bM=>aa y0 (u9 fb 1 #[(0,bL)]) bM fun bN bO=>aa y0 (r9 #[fb,fb] fb #[funs,bN]) bO fun bP aY=>I y0 (U .add ae false true aW (.int .i64 1)) aY fun bQ=>bI bP bQ aY) (@aB dL (fun W=>I y0 (am E) W fun bR=>I y0 (x2 bi bR 1) W fun bS=>I y0 (x2 cQ bS 0) W fun bT=>I y0 (x1 cb bT) W fun bU=>I y0 (U .neq cb false true bU (.int .i64 0)) W fun bV=>Split bV (aQ W fun X=>I y0 (am E) X fun bW=>I y0 (x2 bi bW 1) X fun bX=>I y0 (x2 cQ bX 2) X fun bY=>I y0 (x1 J bY) X fun bZ=>I y0 (am E) X fun b1=>I y0 (x2 bi b1 1) X fun b2=>I y0 (x2 cQ b2 0) X fun b3=>I y0 (x1 cb b3) X fun b4=>ac (.tuple #[(.pointer none),bZ,b4]) X) (I y0 (am E) W fun b5=>I y0 (x2 bi b5 1) W fun b6=>I y0 (x2 cQ b6 1) W fun b7=>I y0 (x1 cb b7) W fun b8=>I y0 (U .neq cb false true b8 (.int .i64 0)) W fun b9=>Split b9 (aQ W fun Y=>I y0 (am E) Y fun ca=>I y0 (x2 bi ca 1) Y fun cc=>I y0 (x2 cQ cc 3) Y fun cd=>I y0 (x1 J cd) Y fun ce=>I y0 (am E) Y fun cg=>I y0 (x2 bi cg 1) Y fun ch=>I y0 (x2 cQ ch 1) Y fun ci=>I y0 (x1 cb ci) Y fun cj=>ac (.tuple #[(.pointer none),ce,cj]) Y) (O y0 jo [sizes] W fun ck aZ=>I y0 (Z0 bf #[(0,aL),(1,aO),(2,ck)]) aZ fun cl=>aa y0 (Z2 bf cl) aZ fun ag a2=>I y0 (u6 #[fb] J #[funs]) a2 fun cm=>bc (.int .i64 0) a2 fun aD ah cn=>I y0 (U .lss J false false aD cm) ah fun cp=>Split cp (I y0 (x7 fb funs aD) ah fun cq=>I y0 (x1 be cq) ah fun cr=>aa y0 (n9 be true (.tuple #[])) ah fun x ct=>aa y0 (x8 be x cr) ct fun _ cu=>aQ cu fun ad=>I y0 (am ag) ad fun aj=>I y0 (x2 bf aj 3) ad fun ak=>I y0 (x1 bJ ak) ad fun aF=>I y0 (x1 be x) ad fun cw=>O y0 kW [ag,cw] ad fun cz ao=>(Ext ad ao∨al y0 (x1 bJ ak) aF ao∧al y0 (x2 bf aj 3) ak ao∧al y0 (am ag) aj ao∧True)∧aa y0 (u9 bJ 1 #[(0,cz)]) ao fun cA ap=>(Ext ad ap∨al y0 (x1 bJ ak) aF ap∧al y0 (x2 bf aj 3) ak ap∧al y0 (am ag) aj ap∧True)∧aa y0 (r9 #[bJ,bJ] bJ #[aF,cA]) ap fun cB aG=>I y0 (am ag) aG fun cC=>I y0 (x2 bf cC 3) aG fun cD=>aa y0 (x8 bJ cD cB) aG fun _ a6=>I y0 (U .add J false true aD (.int .i64 1)) a6 fun cE=>cn cE a6) (I y0 (u6 #[aV] J #[V]) ah fun cF=>ac (.tuple #[ag,cF,(.int .i64 0)]) ah)))) fun ay=>O y0 ed [E] aX fun cG aq=>Split cG (I y0 (am E) aq fun cH=>I y0 (x2 bi cH 0) aq fun cI=>I y0 (x1 k5 cI) aq fun cJ=>O y0 iI [cJ] aq fun aH ab=>I y0 (u5 aH 0) ab fun _=>I y0 (u5 aH 1) ab fun a7=>I y0 (u5 aH 2) ab fun aI=>I y0 (U .eql cb false true aI (.int .i64 0)) ab fun cK=>Split cK (O y0 fk [E,(.int .i64 4),a7] ab fun _ cL=>ay cL) (I y0 (U .eql cb false true aI (.int .i64 11)) ab fun cM=>Split cM (O y0 fk [E,aI,a7] ab fun _ cN=>ay cN) (ay ab))) (ay aq))) fun ba=>I y0 (U .lss ae false false aW aN) aC fun cO=>Split cO (O y0 ed [E] aC fun cP cR=>ba cP cR) (ba (.bool false) aC))) fun bb=>I y0 (U .lss ae false false i t46) aA fun cS=>Split cS (O y0 ed [E] aA fun cT cU=>bb cT cU) (bb (.bool false) aA))):O y0 nS [V] Z ac:=aE Tryz.func67 rfl (by kernel_rfl) (by kernel_rfl) h
theorem nT.enter (h:I y0 (u6 #[aV] J #[V]) Z fun bj=>I y0 (U .gtr J false true bj (.int .i64 65536)) Z fun t22=>Split t22 (ac (.tuple #[(.pointer none),(.int .i64 0),(.int .i64 5)]) Z) (O y0 oe [V] Z fun t25 ap=>I y0 (u5 t25 0) ap fun bk=>I y0 (u5 t25 1) ap fun az=>I y0 (u6 #[aV] J #[V]) ap fun bl=>I y0 (Z0 aN #[(0,bk),(1,bl),(2,(.int .i64 4))]) ap fun bm=>aa y0 (Z2 aN bm) ap fun E aq=>@aB dL (fun aP=>I y0 (Z0 b2 #[]) aP fun bn=>aa y0 (Z2 b2 bn) aP fun Y bp=>O y0 mh [E] bp fun t45 bq=>aa y0 (n9 bo true (.tuple #[])) bq fun aA br=>aa y0 (x8 bo aA t45) br fun _ au=>I y0 (x2 bo aA 0) au fun bt=>I y0 (x1 a1 bt) au fun bu=>I y0 (am Y) au fun bw=>I y0 (x2 b2 bw 0) au fun t50=>aa y0 (x8 a1 t50 bu) au fun _ ag=>I y0 (x2 bo aA 0) ag fun bx=>I y0 (x1 a1 bx) ag fun t53=>I y0 (u6 #[a1] J #[t53]) ag fun bz=>I y0 (U .gtr J false true bz (.int .i64 64)) ag fun t55=>I y0 (x2 bo aA 1) ag fun bA=>I y0 (x1 J bA) ag fun bB=>O y0 fZ [E,t55,bB] ag fun _ bC=>O y0 en [E,(.int .i64 1),(.int .i64 4611686018427387904)] bC fun aR aC=>I y0 (u5 aR 0) aC fun aT=>I y0 (u5 aR 1) aC fun bD=>I y0 (U .gtr ae false true aT (.int .i64 64)) aC fun t66=>O y0 fZ [E,t66,bD] aC fun _ bE=>O y0 en [E,(.int .i64 1),(.int .i64 4611686018427387904)] bE fun aU aI=>I y0 (u5 aU 0) aI fun bF=>I y0 (u5 aU 1) aI fun _=>O y0 en [E,(.int .i64 0),(.int .i64 4611686018427387904)] aI fun t76 aD=>I y0 (u5 t76 0) aD fun t77=>I y0 (u5 t76 1) aD fun bG=>I y0 (U .gtr ae false true t77 (.int .i64 256)) aD fun bH=>O y0 fZ [E,bH,bG] aD fun _ bI=>O y0 en [E,(.int .i64 1),(.int .i64 4611686018427387904)] bI fun aW aF=>I y0 (u5 aW 0) aF fun aX=>I y0 (u5 aW 1) aF fun bJ=>I y0 (U .gtr ae false true aX (.int .i64 2147483648)) aF fun bK=>O y0 fZ [E,bK,bJ] aF fun _ aJ=>I y0 (am Y) aJ fun bL=>I y0 (x2 b2 bL 1) aJ fun bM=>aa y0 (x8 ae bM aX) aJ fun _ bN=>bc (.int .i64 0) bN fun i ah k=>@aB aS (fun bO aY=>Split bO (O y0 en [E,(.int .i64 1),bF] aY fun aZ aG=>I y0 (u5 aZ 0) aG fun a2=>I y0 (u5 aZ 1) aG fun bP=>I y0 (U .gtr ae false true a2 (.int .i64 32)) aG fun bQ=>O y0 fZ [E,bQ,bP] aG fun _ aH=>I y0 (am Y) aH fun bR=>I y0 (x2 b2 bR 2) aH fun bS=>I y0 (x1 af bS) aH fun bT=>aa y0 (u9 af 1 #[(0,a2)]) aH fun bV bW=>aa y0 (r9 #[af,af] af #[bT,bV]) bW fun bX aK=>I y0 (am Y) aK fun bY=>I y0 (x2 b2 bY 2) aK fun bZ=>aa y0 (x8 af bZ bX) aK fun _ a6=>I y0 (U .add ae false true i (.int .i64 1)) a6 fun b1=>k b1 a6) (bc (.int .i64 0) aY fun a7 ai b3=>@aB aS (fun b4 W=>Split b4 (aQ W fun ab=>I y0 (am Y) ab fun av=>I y0 (x2 b2 av 3) ab fun aw=>I y0 (x1 bU aw) ab fun aL=>I y0 (am Y) ab fun b5=>I y0 (x2 b2 b5 2) ab fun b6=>I y0 (x1 af b6) ab fun b7=>O y0 mi [E,b7] ab fun b8 ax=>(Ext ab ax∨al y0 (x1 bU aw) aL ax∧al y0 (x2 b2 av 3) aw ax∧al y0 (am Y) av ax∧True)∧aa y0 (u9 bU 1 #[(0,b8)]) ax fun b9 ay=>(Ext ab ay∨al y0 (x1 bU aw) aL ay∧al y0 (x2 b2 av 3) aw ay∧al y0 (am Y) av ay∧True)∧aa y0 (r9 #[bU,bU] bU #[aL,b9]) ay fun ca aM=>I y0 (am Y) aM fun cb=>I y0 (x2 b2 cb 3) aM fun cc=>aa y0 (x8 bU cc ca) aM fun _ a8=>I y0 (U .add ae false true a7 (.int .i64 1)) a8 fun cd=>b3 cd a8) (@aB dL (fun aj=>@aB dL (fun X=>I y0 (am E) X fun ce=>I y0 (x2 aN ce 3) X fun cg=>I y0 (x1 J cg) X fun ch=>I y0 (U .neq J false true ch (.int .i64 0)) X fun ci=>Split ci (aQ X fun ak=>I y0 (am E) ak fun cj=>I y0 (x2 aN cj 4) ak fun ck=>I y0 (x1 J ck) ak fun cl=>I y0 (am E) ak fun cm=>I y0 (x2 aN cm 3) ak fun cn=>I y0 (x1 J cn) ak fun cp=>ac (.tuple #[(.pointer none),cl,cp]) ak) (I y0 (am E) X fun cq=>I y0 (x2 aN cq 5) X fun cr=>I y0 (x1 J cr) X fun ct=>I y0 (U .neq J false true ct (.int .i64 0)) X fun cu=>Split cu (aQ X fun ao=>I y0 (am E) ao fun cw=>I y0 (x2 aN cw 6) ao fun cz=>I y0 (x1 J cz) ao fun cB=>I y0 (am E) ao fun cC=>I y0 (x2 aN cC 5) ao fun cD=>I y0 (x1 J cD) ao fun cE=>ac (.tuple #[(.pointer none),cB,cE]) ao) (I y0 (u6 #[aV] J #[V]) X fun cF=>ac (.tuple #[Y,cF,(.int .i64 0)]) X))) fun ba=>@aB aS (fun cG bb=>Split cG (O y0 fy [E,(.int .i64 11),az] bb fun _ cH=>ba cH) (ba bb)) fun bd=>I y0 (am E) aj fun cI=>I y0 (x2 aN cI 3) aj fun cJ=>I y0 (x1 J cJ) aj fun cK=>I y0 (U .eql J false true cK (.int .i64 0)) aj fun cL=>Split cL (I y0 (U .geq J false true az (.int .i64 0)) aj fun cM=>bd cM aj) (bd (.bool false) aj)) fun be=>@aB aS (fun cN ad=>Split cN (I y0 (am E) ad fun cO=>I y0 (x2 aN cO 0) ad fun cP=>I y0 (x1 cA cP) ad fun cQ=>I y0 (x7 cA cQ (.int .i64 0)) ad fun cR=>I y0 (x2 bo cR 1) ad fun cS=>I y0 (x1 J cS) ad fun cT=>O y0 fy [E,(.int .i64 4),cT] ad fun _ cU=>be cU) (be ad)) fun bf=>I y0 (am E) W fun cV=>I y0 (x2 aN cV 3) W fun cW=>I y0 (x1 J cW) W fun cX=>I y0 (U .eql J false true cX (.int .i64 0)) W fun cY=>Split cY (I y0 (am E) W fun cZ=>I y0 (x2 aN cZ 0) W fun c0=>I y0 (x1 cA c0) W fun c1=>I y0 (u6 #[cA] J #[c1]) W fun c2=>I y0 (U .gtr J false true c2 (.int .i64 0)) W fun c3=>bf c3 W) (bf (.bool false) W))) fun bg=>I y0 (U .lss ae false false a7 t77) ai fun c4=>Split c4 (I y0 (am E) ai fun c5=>I y0 (x2 aN c5 3) ai fun c6=>I y0 (x1 J c6) ai fun c7=>I y0 (U .eql J false true c7 (.int .i64 0)) ai fun c8=>bg c8 ai) (bg (.bool false) ai))) fun bh=>I y0 (U .lss ae false false i aT) ah fun c9=>Split c9 (I y0 (am E) ah fun da=>I y0 (x2 aN da 3) ah fun db=>I y0 (x1 J db) ah fun dc=>I y0 (U .eql J false true dc (.int .i64 0)) ah fun dd=>bh dd ah) (bh (.bool false) ah)) fun bi=>I y0 (U .geq J false true az (.int .i64 0)) aq fun de=>Split de (I y0 (am E) aq fun df=>I y0 (x2 aN df 1) aq fun t39=>aa y0 (x8 J t39 az) aq fun _ aO=>I y0 (am E) aO fun dg=>I y0 (x2 aN dg 2) aO fun dh=>aa y0 (x8 J dh (.int .i64 11)) aO fun _ di=>bi di) (bi aq))):O y0 nT [V] Z ac:=aE Tryz.func68 rfl (by kernel_rfl) (by kernel_rfl) h
theorem nU.enter (h:O y0 og [V] Z fun aL ah=>I y0 (u5 aL 0) ah fun ax=>I y0 (u5 aL 1) ah fun aM=>I y0 (U .neq cb false true aM (.int .i64 0)) ah fun a1=>Split a1 (ac (.tuple #[(.pointer none),aM]) ah) (I y0 (Z0 cK #[(0,ax)]) ah fun t22=>aa y0 (Z2 cK t22) ah fun E aj=>I y0 (am ax) aj fun t25=>I y0 (x2 bf t25 2) aj fun a2=>I y0 (x1 ab a2) aj fun aN=>I y0 (u6 #[ab] J #[aN]) aj fun a6=>bc (.int .i64 0) aj fun ay X k=>I y0 (U .lss J false false ay a6) X fun a7=>Split a7 (I y0 (x7 ab aN ay) X fun a8=>I y0 (x1 J a8) X fun aO=>aQ X fun ai=>I y0 (am E) ai fun ak=>I y0 (x2 cK ak 2) ai fun ao=>I y0 (x1 bZ ao) ai fun az=>aa y0 (V8 af aO aO) ai fun t39 ap=>(Ext ai ap∨al y0 (x1 bZ ao) az ap∧al y0 (x2 cK ak 2) ao ap∧al y0 (am E) ak ap∧True)∧aa y0 (u9 bZ 1 #[(0,t39)]) ap fun ba aq=>(Ext ai aq∨al y0 (x1 bZ ao) az aq∧al y0 (x2 cK ak 2) ao aq∧al y0 (am E) ak aq∧True)∧aa y0 (r9 #[bZ,bZ] bZ #[az,ba]) aq fun bb aA=>I y0 (am E) aA fun bd=>I y0 (x2 cK bd 2) aA fun be=>aa y0 (x8 bZ be bb) aA fun _ aP=>I y0 (U .add J false true ay (.int .i64 1)) aP fun bh=>k bh aP) (I y0 (am ax) X fun t46=>I y0 (x2 bf t46 3) X fun bi=>I y0 (x1 bJ bi) X fun aR=>I y0 (u6 #[bJ] J #[aR]) X fun bj=>bc (.int .i64 0) X fun t50 au bk=>I y0 (U .lss J false false t50 bj) au fun bl=>Split bl (@aB dL (fun aS=>I y0 (U .add J false true t50 (.int .i64 1)) aS fun bm=>bk bm aS) fun aC=>I y0 (x7 bJ aR t50) au fun bn=>I y0 (x1 bg bn) au fun t53=>aa y0 (n9 bg true (.tuple #[])) au fun x bo=>aa y0 (x8 bg x t53) bo fun _ aD=>I y0 (x2 bg x 1) aD fun t55=>I y0 (x1 b5 t55) aD fun bp=>O y0 mj [bp] aD fun aT W=>I y0 (u5 aT 0) W fun aF=>I y0 (u5 aT 1) W fun _=>I y0 (x2 bg x 0) W fun bq=>I y0 (x1 ab bq) W fun br=>I y0 (u6 #[ab] J #[br]) W fun aU=>I y0 (U .eql J false true aU (.int .i64 0)) W fun t77=>Split t77 (O y0 hs [aF] W fun bt av=>I y0 (x7 af bt (.int .i64 0)) av fun bu=>I y0 (x1 ae bu) av fun bw=>I y0 (am E) av fun bx=>I y0 (x2 cK bx 1) av fun bz=>aa y0 (x8 ae bz bw) av fun _ bA=>aC bA) (I y0 (U .eql J false true aU (.int .i64 1)) W fun bB=>Split bB (aQ W fun Y=>I y0 (am E) Y fun aG=>I y0 (x2 cK aG 2) Y fun aH=>I y0 (x1 bZ aH) Y fun aV=>I y0 (x2 bg x 0) Y fun aI=>I y0 (x1 ab aI) Y fun aW=>I y0 (x7 ab aW (.int .i64 0)) Y fun aX=>I y0 (x1 J aX) Y fun aY=>O y0 hs [aF] Y fun bC ad=>(Ext Y ad∨al y0 (x1 J aX) aY ad∧al y0 (x1 ab aI) aW ad∧al y0 (x2 bg x 0) aI ad∧al y0 (x1 bZ aH) aV ad∧al y0 (x2 cK aG 2) aH ad∧al y0 (am E) aG ad∧True)∧I y0 (x7 bZ aV aY) ad fun bD=>aa y0 (x8 af bD bC) ad fun _ bE=>aC bE) (aQ W fun ag=>I y0 (am E) ag fun aJ=>I y0 (x2 cK aJ 3) ag fun t66=>I y0 (x1 er t66) ag fun aZ=>I y0 (x2 bg x 0) ag fun bF=>I y0 (x1 ab bF) ag fun bG=>I y0 (Z0 fl #[(0,bG),(1,aF)]) ag fun bH=>aa y0 (u9 er 1 #[(0,bH)]) ag fun bI aw=>(Ext ag aw∨al y0 (x1 er t66) aZ aw∧al y0 (x2 cK aJ 3) t66 aw∧al y0 (am E) aJ aw∧True)∧aa y0 (r9 #[er,er] er #[aZ,bI]) aw fun bK aK=>I y0 (am E) aK fun bL=>I y0 (x2 cK bL 3) aK fun bM=>aa y0 (x8 er bM bK) aK fun _ bN=>aC bN))) (ac (.tuple #[E,(.int .i64 0)]) au)))):O y0 nU [V] Z ac:=aE Tryz.func69 rfl (by kernel_rfl) (by kernel_rfl) h
theorem nV.enter (h:aa y0 (Z2 bT V) Z fun ah aV=>aa y0 (n9 aX true (.tuple #[])) aV fun aF ad=>I y0 (x2 bT ah 0) ad fun aW=>I y0 (x1 ae aW) ad fun aY=>I y0 (x2 bT ah 1) ad fun aZ=>I y0 (x1 ab aZ) ad fun a1=>I y0 (x2 bT ah 2) ad fun a2=>I y0 (x1 ae a2) ad fun a6=>I y0 (Z0 aX #[(0,aY),(1,a1),(2,a6)]) ad fun a7=>aa y0 (n9 aX true (.tuple #[])) ad fun s ba=>aa y0 (x8 aX s a7) ba fun _ aq=>I y0 (x2 bT ah 1) aq fun bb=>I y0 (x1 ab bb) aq fun aG=>I y0 (u6 #[ab] J #[aG]) aq fun bd=>bc (.int .i64 0) aq fun au ag k=>I y0 (U .lss J false false au bd) ag fun be=>Split be (I y0 (x7 ab aG au) ag fun bf=>I y0 (x1 J bf) ag fun bg=>a8 (.slice none 0 0) (.int .i64 0) ag fun d v am bh=>I y0 (U .lss J false false v bg) am fun bi=>Split bi (aa y0 (u9 ab 1 #[(0,v)]) am fun bj bk=>aa y0 (r9 #[ab,ab] ab #[d,bj]) bk fun bl aH=>I y0 (U .add J false true v (.int .i64 1)) aH fun bm=>bh bl bm aH) (I y0 (x2 aX s 3) am fun bo=>I y0 (x1 cq bo) am fun bp=>aa y0 (u9 cq 1 #[(0,d)]) am fun bq br=>aa y0 (r9 #[cq,cq] cq #[bp,bq]) br fun bt aI=>I y0 (x2 aX s 3) aI fun t39=>aa y0 (x8 cq t39 bt) aI fun _ ay=>I y0 (x2 aX s 4) ay fun bu=>I y0 (x1 fa bu) ay fun bw=>aa y0 (u9 fa 1 #[(0,(.bool false))]) ay fun bx bz=>aa y0 (r9 #[fa,fa] fa #[bw,bx]) bz fun bA aJ=>I y0 (x2 aX s 4) aJ fun bB=>aa y0 (x8 fa bB bA) aJ fun _ bC=>aQ bC fun W=>I y0 (x2 aX s 5) W fun t45=>I y0 (x1 bZ t45) W fun t46=>I y0 (x2 bT ah 3) W fun az=>I y0 (x1 bZ az) W fun aK=>I y0 (x7 bZ aK au) W fun aL=>I y0 (x1 af aL) W fun aM=>aa y0 (u9 af 0 #[]) W fun bD ai=>(Ext W ai∨al y0 (x1 af aL) aM ai∧al y0 (x1 bZ az) aK ai∧al y0 (x2 bT ah 3) az ai∧al y0 (x1 bZ t45) t46 ai∧al y0 (x2 aX s 5) t45 ai∧True)∧aa y0 (r9 #[af,af] af #[bD,aM]) ai fun t53 av=>(Ext W av∨al y0 (x1 bZ t45) t46 av∧al y0 (x2 aX s 5) t45 av∧True)∧aa y0 (u9 bZ 1 #[(0,t53)]) av fun bE aw=>(Ext W aw∨al y0 (x1 bZ t45) t46 aw∧al y0 (x2 aX s 5) t45 aw∧True)∧aa y0 (r9 #[bZ,bZ] bZ #[t46,bE]) aw fun t55 aN=>I y0 (x2 aX s 5) aN fun bF=>aa y0 (x8 bZ bF t55) aN fun _ aO=>I y0 (U .add J false true au (.int .i64 1)) aO fun bG=>k bG aO)) (I y0 (x2 bT ah 4) ag fun bH=>I y0 (x1 bn bH) ag fun aP=>I y0 (u6 #[bn] J #[aP]) ag fun bI=>bc (.int .i64 0) ag fun aA ak bJ=>I y0 (U .lss J false false aA bI) ak fun bK=>Split bK (I y0 (x7 bn aP aA) ak fun bL=>I y0 (x1 aD bL) ak fun bM=>aa y0 (n9 aD true (.tuple #[])) ak fun f bN=>aa y0 (x8 aD f bM) bN fun _ bO=>aQ bO fun E=>I y0 (x2 aX s 6) E fun aj=>I y0 (x1 ee aj) E fun t66=>I y0 (x2 aD f 0) E fun ao=>I y0 (x1 ab ao) E fun aB=>I y0 (x2 aD f 1) E fun ap=>I y0 (x1 ab ap) E fun t70=>I y0 (x2 aD f 2) E fun aC=>I y0 (x1 af aC) E fun aR=>aa y0 (u9 af 0 #[]) E fun bP X=>(Ext E X∨al y0 (x1 af aC) aR X∧al y0 (x2 aD f 2) aC X∧al y0 (x1 ab ap) t70 X∧al y0 (x2 aD f 1) ap X∧al y0 (x1 ab ao) aB X∧al y0 (x2 aD f 0) ao X∧al y0 (x1 ee aj) t66 X∧al y0 (x2 aX s 6) aj X∧True)∧aa y0 (r9 #[af,af] af #[bP,aR]) X fun bQ Y=>(Ext E Y∨al y0 (x1 ab ap) t70 Y∧al y0 (x2 aD f 1) ap Y∧al y0 (x1 ab ao) aB Y∧al y0 (x2 aD f 0) ao Y∧al y0 (x1 ee aj) t66 Y∧al y0 (x2 aX s 6) aj Y∧True)∧I y0 (Z0 aD #[(0,aB),(1,t70),(2,bQ)]) Y fun bR=>I y0 (Z0 eo #[(0,bR),(1,(.bool true))]) Y fun t76=>aa y0 (u9 ee 1 #[(0,t76)]) Y fun t77 ax=>(Ext E ax∨al y0 (x1 ee aj) t66 ax∧al y0 (x2 aX s 6) aj ax∧True)∧aa y0 (r9 #[ee,ee] ee #[t66,t77]) ax fun bS aS=>I y0 (x2 aX s 6) aS fun bU=>aa y0 (x8 ee bU bS) aS fun _ aT=>I y0 (U .add J false true aA (.int .i64 1)) aT fun bV=>bJ bV aT) (I y0 (x1 aX s) ak fun bW=>aa y0 (x8 aX aF bW) ak fun _ aU=>I y0 (do loadVar aX (←asAddr aF)) aU fun r=>ac r aU))):O y0 nV [V] Z ac:=aE Tryz.func70 rfl (by kernel_rfl) (by kernel_rfl) h
theorem nW.enter (h:aa y0 (n9 bT true (.tuple #[])) Z fun av ad=>I y0 (am V) ad fun t9=>I y0 (x2 b2 t9 1) ad fun aI=>I y0 (x1 ae aI) ad fun aJ=>I y0 (Z0 bT #[(0,aJ)]) ad fun aK=>aa y0 (n9 bT true (.tuple #[])) ad fun n aL=>aa y0 (x8 bT n aK) aL fun _ ag=>I y0 (am V) ag fun aM=>I y0 (x2 b2 aM 2) ag fun aN=>I y0 (x1 af aN) ag fun aw=>I y0 (u6 #[af] J #[aw]) ag fun aO=>bc (.int .i64 0) ag fun ao X k=>I y0 (U .lss J false false ao aO) X fun aP=>Split aP (I y0 (x7 af aw ao) X fun aR=>I y0 (x1 ae aR) X fun ap=>I y0 (x2 bT n 1) X fun t22=>I y0 (x1 ab t22) X fun aS=>aa y0 (u9 ab 1 #[(0,ap)]) X fun t25 aT=>aa y0 (r9 #[ab,ab] ab #[aS,t25]) aT fun aU ax=>I y0 (x2 bT n 1) ax fun aV=>aa y0 (x8 ab aV aU) ax fun _ aW=>aQ aW fun ah=>I y0 (x2 bT n 3) ah fun ai=>I y0 (x1 bZ ai) ah fun aq=>aa y0 (V8 af ap ap) ah fun aX aj=>(Ext ah aj∨al y0 (x1 bZ ai) aq aj∧al y0 (x2 bT n 3) ai aj∧True)∧aa y0 (u9 bZ 1 #[(0,aX)]) aj fun aY ak=>(Ext ah ak∨al y0 (x1 bZ ai) aq ak∧al y0 (x2 bT n 3) ai ak∧True)∧aa y0 (r9 #[bZ,bZ] bZ #[aq,aY]) ak fun aZ ay=>I y0 (x2 bT n 3) ay fun a1=>aa y0 (x8 bZ a1 aZ) ay fun _ az=>I y0 (U .add J false true ao (.int .i64 1)) az fun a2=>k a2 az) (O y0 oh [V] X fun aA aC=>I y0 (u6 #[bn] J #[aA]) aC fun a6=>bc (.int .i64 0) aC fun t39 Y a7=>I y0 (U .lss J false false t39 a6) Y fun a8=>Split a8 (@aB dL (fun aF=>I y0 (U .add J false true t39 (.int .i64 1)) aF fun t70=>a7 t70 aF) fun au=>I y0 (x7 bn aA t39) Y fun ba=>I y0 (x1 aD ba) Y fun bb=>aa y0 (n9 aD true (.tuple #[])) Y fun g bd=>aa y0 (x8 aD g bb) bd fun _ E=>I y0 (x2 aD g 0) E fun be=>I y0 (x1 ab be) E fun bf=>I y0 (u6 #[ab] J #[bf]) E fun t45=>I y0 (U .eql J false true t45 (.int .i64 0)) E fun t53=>Split t53 (I y0 (x2 aD g 2) E fun bg=>I y0 (x1 af bg) E fun t55=>I y0 (x7 af t55 (.int .i64 0)) E fun bh=>I y0 (x1 ae bh) E fun bi=>I y0 (x2 bT n 2) E fun bj=>aa y0 (x8 ae bj bi) E fun _ bk=>au bk) (I y0 (U .eql J false true t45 (.int .i64 1)) E fun bl=>Split bl (aQ E fun W=>I y0 (x2 bT n 3) W fun bm=>I y0 (x1 bZ bm) W fun bo=>I y0 (x2 aD g 0) W fun bp=>I y0 (x1 ab bp) W fun bq=>I y0 (x7 ab bq (.int .i64 0)) W fun br=>I y0 (x1 J br) W fun t66=>I y0 (x2 aD g 2) W fun bt=>I y0 (x1 af bt) W fun bu=>I y0 (x7 bZ bo t66) W fun bw=>aa y0 (x8 af bw bu) W fun _ bx=>au bx) (I y0 (x2 bT n 4) E fun t46=>I y0 (x1 bn t46) E fun bz=>I y0 (x1 aD g) E fun bA=>aa y0 (u9 bn 1 #[(0,bA)]) E fun bB bC=>aa y0 (r9 #[bn,bn] bn #[bz,bB]) bC fun t50 aG=>I y0 (x2 bT n 4) aG fun bD=>aa y0 (x8 bn bD t50) aG fun _ bE=>au bE))) (I y0 (x1 bT n) Y fun bF=>aa y0 (x8 bT av bF) Y fun _ aH=>I y0 (do loadVar bT (←asAddr av)) aH fun r=>ac r aH))):O y0 nW [V] Z ac:=aE Tryz.func71 rfl (by kernel_rfl) (by kernel_rfl) h
theorem ma.enter (h:@aB aS (fun aa E=>Split aa (ac (.int .i64 (-1)) E) (I y0 (am V) E fun ad=>I y0 (x2 aR ad 2) E fun ae=>I y0 (x1 ab ae) E fun af=>I y0 (x7 ab af ao) E fun ag=>I y0 (x1 J ag) E fun ah=>I y0 (U .add J false true ah (.int .i64 2)) E fun ai=>I y0 (U .add J false false ai bk) E fun aj=>ac aj E)) fun X=>O y0 kQ [V,ao] Z fun t9 W=>I y0 (Z5 .not t9) W fun ak=>Split ak (X (.bool true) W) (I y0 (U .lss J false true bk (.int .i64 0)) W fun al=>Split al (X (.bool true) W) (I y0 (am V) W fun ap=>I y0 (x2 aR ap 0) W fun aq=>I y0 (x1 fN aq) W fun au=>O y0 mb [au,ao] W fun t22 Y=>I y0 (U .geq J false false bk t22) Y fun av=>X av Y))):O y0 ma [V,ao,bk] Z ac:=aE Tryz.func72 rfl (by kernel_rfl) (by kernel_rfl) h
theorem iE.enter (h:I y0 (U .eql ep false true V (.pointer none)) Z fun aq=>Split aq (ac (.int .i64 2) Z) (O y0 ml [V,ao] Z fun au E=>I y0 (Z5 .not au) E fun av=>Split av (ac (.int .i64 3) E) (@aB dL (fun ab=>I y0 (am V) ab fun t77=>I y0 (x2 cR t77 0) ab fun aw=>I y0 (x1 dm aw) ab fun ax=>I y0 (x7 dm ax ao) ab fun ay=>I y0 (x2 dc ay 0) ab fun az=>aa y0 (x8 ae az bk) ab fun _ aA=>ac (.int .i64 0) aA) fun af=>I y0 (am V) E fun aC=>I y0 (x2 cR aC 2) E fun aD=>I y0 (x1 j8 aD) E fun aF=>I y0 (u6 #[j8] J #[aF]) E fun aj=>I y0 (U .gtr J false true aj (.int .i64 0)) E fun aG=>Split aG (I y0 (am V) E fun t25=>I y0 (x2 cR t25 2) E fun aH=>I y0 (x1 j8 aH) E fun aI=>I y0 (U .sub J false true aj (.int .i64 1)) E fun aJ=>I y0 (x7 j8 aI aJ) E fun aK=>I y0 (x1 dE aK) E fun aL=>aa y0 (n9 dE true (.tuple #[])) E fun m aM=>aa y0 (x8 dE m aL) aM fun _ aN=>@aB aS (fun aO ak=>Split aO (aQ ak fun X=>I y0 (am V) X fun ag=>I y0 (x2 cR ag 1) X fun ah=>I y0 (x1 gx ah) X fun t53=>I y0 (am V) X fun aP=>I y0 (x2 cR aP 0) X fun aR=>I y0 (x1 dm aR) X fun aT=>I y0 (x7 dm aT ao) X fun aU=>I y0 (x1 dc aU) X fun aV=>I y0 (Z0 gY #[(0,ao),(1,aV)]) X fun aW=>aa y0 (u9 gx 1 #[(0,aW)]) X fun aX ad=>(Ext X ad∨al y0 (x1 gx ah) t53 ad∧al y0 (x2 cR ag 1) ah ad∧al y0 (am V) ag ad∧True)∧aa y0 (r9 #[gx,gx] gx #[t53,aX]) ad fun aY ai=>I y0 (am V) ai fun aZ=>I y0 (x2 cR aZ 1) ai fun t66=>aa y0 (x8 gx t66 aY) ai fun _ a1=>aQ a1 fun Y=>I y0 (am V) Y fun a2=>I y0 (x2 cR a2 0) Y fun a6=>I y0 (x1 dm a6) Y fun t70=>I y0 (x2 dE m 2) Y fun a7=>I y0 (x1 bD a7) Y fun a8=>I y0 (x7 dm t70 ao) Y fun ba=>I y0 (x2 dc ba 1) Y fun bb=>aa y0 (x8 bD bb a8) Y fun _ bc=>af bc) (af ak)) fun ap=>aQ aN fun W=>I y0 (am V) W fun bd=>I y0 (x2 cR bd 0) W fun be=>I y0 (x1 dm be) W fun bf=>I y0 (x7 dm bf ao) W fun bg=>I y0 (x2 dc bg 1) W fun bh=>I y0 (x1 bD bh) W fun t39=>I y0 (x2 dE m 2) W fun bi=>I y0 (x1 bD bi) W fun bj=>I y0 (U .lss bD false false t39 bj) W fun bl=>Split bl (I y0 (x2 dE m 1) W fun t45=>I y0 (x1 J t45) W fun t46=>I y0 (U .lss J false false ao t46) W fun bm=>ap bm W) (ap (.bool false) W)) (af E)))):O y0 iE [V,ao,bk] Z ac:=aE Tryz.func73 rfl (by kernel_rfl) (by kernel_rfl) h
theorem hr.enter (h:O y0 ml [V,ao] Z fun J E=>I y0 (Z5 .not J) E fun U=>Split U (ac (.int .i64 0) E) (I y0 (am V) E fun W=>I y0 (x2 cR W 0) E fun X=>I y0 (x1 dm X) E fun Y=>I y0 (x7 dm Y ao) E fun aa=>I y0 (x2 dc aa 0) E fun ab=>I y0 (x1 ae ab) E fun ad=>ac ad E)):O y0 hr [V,ao] Z ac:=aE Tryz.func74 rfl (by kernel_rfl) (by kernel_rfl) h
theorem kQ.enter (h:@aB aS (fun t4 X=>ac t4 X) fun E=>I y0 (U .geq J false true ao (.int .i64 0)) Z fun Y=>Split Y (O y0 l8 [V] Z fun aa W=>I y0 (U .lss J false false ao aa) W fun ab=>E ab W) (E (.bool false) Z)):O y0 kQ [V,ao] Z ac:=aE Tryz.func75 rfl (by kernel_rfl) (by kernel_rfl) h
theorem nX.enter (h:aa y0 (n9 bl true (.tuple #[])) Z fun W X=>@aB aS (fun t9 E=>Split t9 (I y0 (Z0 bl #[]) E fun ae=>aa y0 (x8 bl W ae) E fun _ Y=>I y0 (do loadVar bl (←asAddr W)) Y fun r=>ac (.tuple #[r,(.int .i64 1)]) Y) (I y0 (U .shl bD true false (.int .u64 1) V) E fun af=>I y0 (U .sub bD false true af (.int .u64 1)) E fun ag=>I y0 (Z0 bl #[(0,ag),(1,V)]) E fun ah=>aa y0 (x8 bl W ah) E fun _ ab=>I y0 (do loadVar bl (←asAddr W)) ab fun ai=>ac (.tuple #[ai,(.int .i64 0)]) ab)) fun ad=>I y0 (U .lss J false true V (.int .i64 1)) X fun t5=>Split t5 (ad (.bool true) X) (I y0 (U .gtr J false true V (.int .i64 32)) X fun aj=>ad aj X)):O y0 nX [V] Z ac:=aE Tryz.func76 rfl (by kernel_rfl) (by kernel_rfl) h
theorem mb.enter (h:O y0 mf [V,ao] Z fun U E=>I y0 (u6 #[af] J #[U]) E fun W=>ac W E):O y0 mb [V,ao] Z ac:=aE Tryz.func77 rfl (by kernel_rfl) (by kernel_rfl) h
theorem nY.enter (h:aa y0 (Z2 bl V) Z fun J ae=>aa y0 (n9 bl true (.tuple #[])) ae fun t4 W=>@aB dL (fun X=>I y0 (x1 bl J) X fun af=>aa y0 (x8 bl t4 af) X fun _ Y=>I y0 (do loadVar bl (←asAddr t4)) Y fun r=>ac r Y) fun ab=>I y0 (x1 bl J) W fun t5=>O y0 mc [t5,ao] W fun ag ad=>Split ag (aQ ad fun E=>I y0 (x2 bl J 0) E fun ah=>I y0 (x1 bD ah) E fun t9=>I y0 (U .shl bD true false (.int .u64 1) ao) E fun ai=>I y0 (U .andNot bD false false t9 ai) E fun aj=>I y0 (x2 bl J 0) E fun ak=>aa y0 (x8 bD ak aj) E fun _ al=>ab al) (ab ad)):O y0 nY [V,ao] Z ac:=aE Tryz.func78 rfl (by kernel_rfl) (by kernel_rfl) h
theorem mc.enter (h:aa y0 (Z2 bl V) Z fun X E=>@aB aS (fun t4 Y=>ac t4 Y) fun W=>I y0 (U .geq J false true ao (.int .i64 0)) E fun ab=>Split ab (I y0 (x2 bl X 1) E fun t9=>I y0 (x1 J t9) E fun ad=>I y0 (U .lss J false false ao ad) E fun ae=>W ae E) (W (.bool false) E)):O y0 mc [V,ao] Z ac:=aE Tryz.func79 rfl (by kernel_rfl) (by kernel_rfl) h
theorem jn.enter (h:@aB aS (fun Y E=>Split Y (ac (.tuple #[(.int .i64 0),(.int .i64 3)]) E) (I y0 (U .add ae false false V ao) E fun aa=>I y0 (u7.min_ #[ae,ae] ae #[aa,bk]) E fun t22=>ac (.tuple #[t22,(.int .i64 0)]) E)) fun W=>O y0 iJ [V,bk] Z fun ab J=>I y0 (Z5 .not ab) J fun ad=>Split ad (W (.bool true) J) (O y0 iJ [ao,bk] J fun af X=>I y0 (Z5 .not af) X fun ag=>W ag X)):O y0 jn [V,ao,bk] Z ac:=aE Tryz.func80 rfl (by kernel_rfl) (by kernel_rfl) h
theorem kR.enter (h:I y0 (U .add ae false false V ao) Z fun t9=>I y0 (U .gtr ae false false t9 bk) Z fun E=>Split E (ac bk Z) (I y0 (U .add ae false false V ao) Z fun J=>ac J Z)):O y0 kR [V,ao,bk] Z ac:=aE Tryz.func81 rfl (by kernel_rfl) (by kernel_rfl) h
theorem nZ.enter (h:aa y0 (Z2 aD V) Z fun ad X=>I y0 (x2 aD ad 0) X fun ag=>I y0 (x1 ab ag) X fun t9=>I y0 (u6 #[ab] J #[t9]) X fun ah=>a8 (.int .i64 0) (.int .i64 0) X fun i Y W k=>I y0 (U .lss J false false Y ah) W fun ai=>Split ai (I y0 (x7 ab t9 Y) W fun aj=>I y0 (x1 J aj) W fun ak=>aQ W fun E=>I y0 (x2 aD ad 1) E fun al=>I y0 (x1 ab al) E fun am=>I y0 (x7 ab am Y) E fun ap=>I y0 (x1 J ap) E fun aq=>I y0 (U .mul J false false i aq) E fun t22=>I y0 (x7 ab ao ak) E fun t25=>I y0 (x1 J t25) E fun au=>I y0 (U .add J false false t22 au) E fun av=>I y0 (U .add J false true Y (.int .i64 1)) E fun aw=>k av aw E) (I y0 (x2 aD ad 2) W fun ax=>I y0 (x1 af ax) W fun ay=>I y0 (x7 af ay i) W fun az=>I y0 (x1 ae az) W fun aA=>ac aA W)):O y0 nZ [V,ao] Z ac:=aE Tryz.func82 rfl (by kernel_rfl) (by kernel_rfl) h
theorem kS.enter (h:O y0 oi [V] Z fun ak ae=>I y0 (u5 ak 0) ae fun aq=>I y0 (u5 ak 1) ae fun am=>aa y0 (n9 aJ true (.tuple #[])) ae fun s au=>aa y0 (x8 aJ s aq) au fun _ ag=>I y0 (U .neq cb false true am (.int .i64 0)) ag fun av=>Split av (ac (.tuple #[(.pointer none),am]) ag) (O y0 iJ [bk,ao] ag fun t22 ah=>I y0 (Z5 .not t22) ah fun aw=>Split aw (ac (.tuple #[(.pointer none),(.int .i64 3)]) ah) (aB (α:=x4→x4→x5→Prop) (fun(ax ay:x4) (az:x5)=>ac (.tuple #[ax,ay]) az) fun ap=>aQ ah fun E=>I y0 (x1 aJ s) E fun J=>I y0 (x1 aJ s) E fun W=>(aa y0 (u9 af 1 #[(0,bk)]) E fun aA X=>(Ext E X∨al y0 (x1 aJ s) W X∧al y0 (x1 aJ s) J X∧True)∧O y0 iK [W] X fun aC ai=>(Ext E ai∨al y0 (x1 aJ s) J ai∧True)∧O y0 mm [aA,aC] ai fun aD Y=>(Ext E Y∨al y0 (x1 aJ s) J Y∧True)∧I y0 (Z0 bq #[(0,J),(1,ao),(2,aD)]) Y fun aF=>aa y0 (Z2 bq aF) Y fun aG aH=>ap aG (.int .i64 0) aH)∧(O y0 iK [W] E fun aI aj=>(Ext E aj∨al y0 (x1 aJ s) J aj∧True)∧aa y0 (u9 af 1 #[(0,bk)]) aj fun aK ab=>(Ext E ab∨al y0 (x1 aJ s) W ab∧al y0 (x1 aJ s) J ab∧True)∧O y0 mm [aK,aI] ab fun aL ad=>(Ext E ad∨al y0 (x1 aJ s) J ad∧True)∧I y0 (Z0 bq #[(0,J),(1,ao),(2,aL)]) ad fun aM=>aa y0 (Z2 bq aM) ad fun aN aO=>ap aN (.int .i64 0) aO)))):O y0 kS [V,ao,bk] Z ac:=aE Tryz.func89 rfl (by kernel_rfl) (by kernel_rfl) h
theorem kT.enter (h:I y0 (u6 #[ab] J #[V]) Z fun t9=>I y0 (U .eql J false true t9 (.int .i64 0)) Z fun af=>Split af (aa y0 (u9 cq 1 #[(0,(.slice none 0 0))]) Z fun ag ah=>ac ag ah) (I y0 (c7 ab V (some (.int .i64 1)) none none) Z fun ai=>O y0 kT [ai] Z fun Y aj=>a8 (.slice none 0 0) (.int .i64 0) aj fun out v E k=>I y0 (x7 ab V (.int .i64 0)) E fun ak=>I y0 (x1 J ak) E fun al=>I y0 (U .lss J false false v al) E fun am=>Split am (I y0 (u6 #[cq] J #[Y]) E fun ao=>a8 out (.int .i64 0) E fun ad X W ap=>I y0 (U .lss J false false X ao) W fun t25=>Split t25 (I y0 (x7 cq Y X) W fun aq=>I y0 (x1 ab aq) W fun au=>aa y0 (u9 ab 1 #[(0,v)]) W fun av aw=>aa y0 (r9 #[ab,ab] ab #[av,au]) aw fun ax ay=>aa y0 (u9 cq 1 #[(0,ax)]) ay fun az aA=>aa y0 (r9 #[cq,cq] cq #[ad,az]) aA fun aB ae=>I y0 (U .add J false true X (.int .i64 1)) ae fun aC=>ap aB aC ae) (I y0 (U .add J false true v (.int .i64 1)) W fun aD=>k ad aD W)) (ac out E))):O y0 kT [V] Z ac:=aE Tryz.func90 rfl (by kernel_rfl) (by kernel_rfl) h
theorem n1.enter (h:O y0 mn [V,ao] Z fun W E=>I y0 (u5 W 0) E fun Y=>I y0 (u5 W 1) E fun X=>I y0 (U .neq cb false true X (.int .i64 0)) E fun ab=>Split ab (ac X E) (I y0 (am V) E fun t22=>I y0 (x2 bq t22 1) E fun ad=>I y0 (x1 ae ad) E fun ag=>O y0 iJ [bk,ag] E fun t25 J=>I y0 (Z5 .not t25) J fun ah=>Split ah (ac (.int .i64 3) J) (I y0 (am V) J fun ai=>I y0 (x2 bq ai 2) J fun aj=>I y0 (x1 af aj) J fun ak=>I y0 (x7 af ak Y) J fun al=>aa y0 (x8 ae al bk) J fun _ ap=>ac (.int .i64 0) ap))):O y0 n1 [V,ao,bk] Z ac:=aE Tryz.func91 rfl (by kernel_rfl) (by kernel_rfl) h
theorem hZ.enter (h:I y0 (u6 #[ab] J #[V]) Z fun X=>a8 (.int .i64 0) (.int .i64 0) Z fun t4 W E k=>I y0 (U .lss J false false W X) E fun t9=>Split t9 (I y0 (x7 ab V W) E fun Y=>I y0 (x1 J Y) E fun aa=>I y0 (U .eql J false false ao aa) E fun ad=>Split ad (ac W E) (I y0 (U .add J false true W (.int .i64 1)) E fun ae=>k t4 ae E)) (ac (.int .i64 (-1)) E)):O y0 hZ [V,ao] Z ac:=aE Tryz.func103 rfl (by kernel_rfl) (by kernel_rfl) h
end
section
variable {Z:x5} {ac:aS} {V ao bk fO jr k6 k7 k8 k9 la lb ld:x4}
theorem n2.enter (h:I y0 (u6 #[ab] J #[V]) Z fun Y=>a8 (.int .i64 0) (.int .i64 0) Z fun aa W E k=>I y0 (U .lss J false false W Y) E fun t9=>Split t9 (I y0 (x7 ab V W) E fun ad=>I y0 (x1 J ad) E fun X=>I y0 (U .neq J false false X (.int .i64 0)) E fun ae=>Split ae (ac X E) (I y0 (U .add J false true W (.int .i64 1)) E fun af=>k aa af E)) (ac (.int .i64 0) E)):O y0 n2 [V] Z ac:=aE Tryz.func113 rfl (by kernel_rfl) (by kernel_rfl) h
theorem md.enter (h:O y0 cmp_isNaN_int [V] Z fun X Y=>O y0 cmp_isNaN_int [ao] Y fun W E=>Split X (Split W (ac (.int .i64 0) E) (ac (.int .i64 (-1)) E)) (Split W (ac (.int .i64 1) E) (I y0 (U .lss J false false V ao) E fun aa=>Split aa (ac (.int .i64 (-1)) E) (I y0 (U .gtr J false false V ao) E fun ab=>Split ab (ac (.int .i64 1) E) (ac (.int .i64 0) E))))):O y0 md [V,ao] Z ac:=aE Tryz.func114 rfl (by kernel_rfl) (by kernel_rfl) h
theorem me.enter (h:I y0 (u6 #[ab] J #[V]) Z fun Y=>I y0 (u6 #[ab] J #[ao]) Z fun t9=>I y0 (U .neq J false false Y t9) Z fun aa=>Split aa (ac (.bool false) Z) (I y0 (u6 #[ab] J #[V]) Z fun ad=>a8 (.bool false) (.int .i64 0) Z fun t4 W X k=>I y0 (U .lss J false false W ad) X fun ae=>Split ae (aQ X fun E=>I y0 (x7 ab V W) E fun af=>I y0 (x1 J af) E fun ag=>I y0 (x7 ab ao W) E fun t22=>I y0 (x1 J t22) E fun ah=>I y0 (U .neq J false false ag ah) E fun ai=>Split ai (ac (.bool false) E) (I y0 (U .add J false true W (.int .i64 1)) E fun t25=>k t4 t25 E)) (ac (.bool true) X))):O y0 me [V,ao] Z ac:=aE Tryz.func116 rfl (by kernel_rfl) (by kernel_rfl) h
theorem n3.enter (h:O y0 mo [(.slice none 0 0),V] Z fun t4 E=>ac t4 E):O y0 n3 [V] Z ac:=aE Tryz.func117 rfl (by kernel_rfl) (by kernel_rfl) h
theorem kU.enter (h:aa y0 (Z2 aJ V) Z fun J E=>I y0 (Instr.makeFunc (.func gv) #[] #[J]) E fun t3=>ac t3 E):O y0 kU [V] Z ac:=aE Tryz.func121 rfl (by kernel_rfl) (by kernel_rfl) h
theorem n4.enter (h:I y0 (u6 #[ab] J #[V]) Z fun Y=>I y0 (u6 #[ab] J #[ao]) Z fun t9=>I y0 (U .neq J false false Y t9) Z fun aa=>Split aa (ac (.bool false) Z) (I y0 (u6 #[ab] J #[V]) Z fun ad=>a8 (.bool false) (.int .i64 0) Z fun t4 W X k=>I y0 (U .lss J false false W ad) X fun ae=>Split ae (aQ X fun E=>I y0 (x7 ab V W) E fun af=>I y0 (x1 J af) E fun ag=>I y0 (x7 ab ao W) E fun t22=>I y0 (x1 J t22) E fun ah=>I y0 (U .neq J false false ag ah) E fun ai=>Split ai (ac (.bool false) E) (I y0 (U .add J false true W (.int .i64 1)) E fun t25=>k t4 t25 E)) (ac (.bool true) X))):O y0 n4 [V,ao] Z ac:=aE Tryz.func124 rfl (by kernel_rfl) (by kernel_rfl) h
theorem n5.enter (h:I y0 (u7.max_ #[J,J] J #[V,(.int .i64 0)]) Z fun t4=>aa y0 (V8 dm t4 t4) Z fun t5 E=>I y0 (Z0 cR #[(0,t5)]) E fun U=>aa y0 (Z2 cR U) E fun W X=>ac W X):O y0 n5 [V] Z ac:=aE Tryz.func127 rfl (by kernel_rfl) (by kernel_rfl) h
theorem n7.enter (h:I y0 (U .eql fN false true V (.pointer none)) Z fun t4=>Split t4 (ac (.int .i64 0) Z) (I y0 (am V) Z fun E=>I y0 (x2 cK E 1) Z fun J=>I y0 (x1 ae J) Z fun W=>ac W Z)):O y0 n7 [V] Z ac:=aE Tryz.func128 rfl (by kernel_rfl) (by kernel_rfl) h
theorem kV.enter (h:I y0 (U .eql fN false true V (.pointer none)) Z fun t4=>Split t4 (ac (.int .i64 0) Z) (I y0 (am V) Z fun E=>I y0 (x2 cK E 0) Z fun W=>I y0 (x1 mO W) Z fun X=>I y0 (am X) Z fun t9=>I y0 (x2 bf t9 2) Z fun Y=>I y0 (x1 ab Y) Z fun aa=>I y0 (u6 #[ab] J #[aa]) Z fun ad=>ac ad Z)):O y0 kV [V] Z ac:=aE Tryz.func129 rfl (by kernel_rfl) (by kernel_rfl) h
theorem mf.enter (h:@aB aS (fun Y E=>Split Y (ac (.slice none 0 0) E) (I y0 (am V) E fun aa=>I y0 (x2 cK aa 2) E fun ab=>I y0 (x1 bZ ab) E fun ad=>I y0 (x7 bZ ad ao) E fun ae=>I y0 (x1 af ae) E fun ag=>O y0 jY [ag] E fun ah ai=>ac ah ai)) fun W=>I y0 (U .lss J false true ao (.int .i64 0)) Z fun aj=>Split aj (W (.bool true) Z) (O y0 kV [V] Z fun ak X=>I y0 (U .geq J false false ao ak) X fun al=>W al X)):O y0 mf [V,ao] Z ac:=aE Tryz.func130 rfl (by kernel_rfl) (by kernel_rfl) h
theorem iF.enter (h:I y0 (am V) Z fun t9=>I y0 (x2 aR t9 1) Z fun ab=>I y0 (x1 ep ab) Z fun ad=>I y0 (u6 #[af] J #[ao]) Z fun ag=>O y0 om [ad,ag] Z fun X Y=>I y0 (u6 #[af] J #[ao]) Y fun ah=>bc (.int .i64 0) Y fun W E k=>I y0 (U .lss J false false W ah) E fun ai=>Split ai (I y0 (x7 af ao W) E fun aj=>I y0 (x1 ae aj) E fun ak=>I y0 (am V) E fun al=>I y0 (x2 aR al 1) E fun ap=>I y0 (x1 ep ap) E fun t25=>I y0 (U .add J false false X W) E fun aq=>O y0 iE [t25,aq,ak] E fun _ aa=>I y0 (U .add J false true W (.int .i64 1)) aa fun au=>k au aa) (ac X E)):O y0 iF [V,ao] Z ac:=aE Tryz.func131 rfl (by kernel_rfl) (by kernel_rfl) h
theorem jT.enter (h:I y0 (U .eql fN false true V (.pointer none)) Z fun t4=>Split t4 (ac (.int .i64 0) Z) (I y0 (am V) Z fun E=>I y0 (x2 cK E 3) Z fun W=>I y0 (x1 er W) Z fun X=>I y0 (u6 #[er] J #[X]) Z fun t9=>ac t9 Z)):O y0 jT [V] Z ac:=aE Tryz.func132 rfl (by kernel_rfl) (by kernel_rfl) h
theorem n8.enter (h:@aB dL (fun aV=>aQ aV fun Y=>I y0 (am V) Y fun aW=>I y0 (x2 aR aW 1) Y fun aX=>I y0 (x1 ep aX) Y fun aY=>I y0 (am V) Y fun aZ=>I y0 (x2 aR aZ 3) Y fun a1=>I y0 (x1 bj a1) Y fun a2=>I y0 (u6 #[bj] J #[a2]) Y fun a6=>O y0 iE [aY,(.int .i64 1),a6] Y fun _ ab=>I y0 (am V) ab fun a7=>I y0 (x2 aR a7 3) ab fun t39=>I y0 (x1 bj t39) ab fun a8=>I y0 (u6 #[bj] J #[a8]) ab fun ba=>I y0 (U .sub J false true ba (.int .i64 1)) ab fun bb=>ac bb ab) fun aM=>aQ Z fun W=>I y0 (am V) W fun t9=>I y0 (x2 aR t9 3) W fun E=>I y0 (x1 bj E) W fun X=>(O y0 gX [ao] W fun aN ad=>(Ext W ad∨al y0 (x1 bj E) X ad∧al y0 (x2 aR t9 3) E ad∧al y0 (am V) t9 ad∧True)∧(O y0 iH [bk] ad fun aU ae=>(Ext W ae∨al y0 (x1 bj E) X ae∧al y0 (x2 aR t9 3) E ae∧al y0 (am V) t9 ae∧True)∧(aa y0 (u9 af 1 #[(0,(.int .i64 1))]) ae fun bc ak=>(Ext W ak∨al y0 (x1 bj E) X ak∧al y0 (x2 aR t9 3) E ak∧al y0 (am V) t9 ak∧True)∧O y0 hs [bk] ak fun bd ap=>(Ext W ap∨al y0 (x1 bj E) X ap∧al y0 (x2 aR t9 3) E ap∧al y0 (am V) t9 ap∧True)∧aa y0 (r9 #[af,af] af #[bc,bd]) ap fun be aq=>(Ext W aq∨al y0 (x1 bj E) X aq∧al y0 (x2 aR t9 3) E aq∧al y0 (am V) t9 aq∧True)∧O y0 iF [V,be] aq fun bf ag=>(Ext W ag∨al y0 (x1 bj E) X ag∧al y0 (x2 aR t9 3) E ag∧al y0 (am V) t9 ag∧True)∧I y0 (Z0 cz #[(0,aN),(1,aU),(2,bf)]) ag fun t22=>aa y0 (u9 bj 1 #[(0,t22)]) ag fun bg au=>(Ext W au∨al y0 (x1 bj E) X au∧al y0 (x2 aR t9 3) E au∧al y0 (am V) t9 au∧True)∧aa y0 (r9 #[bj,bj] bj #[X,bg]) au fun bh aO=>I y0 (am V) aO fun t25=>I y0 (x2 aR t25 3) aO fun bi=>aa y0 (x8 bj bi bh) aO fun _ bl=>aM bl)∧(O y0 hs [bk] ae fun bm av=>(Ext W av∨al y0 (x1 bj E) X av∧al y0 (x2 aR t9 3) E av∧al y0 (am V) t9 av∧True)∧aa y0 (u9 af 1 #[(0,(.int .i64 1))]) av fun bn aw=>(Ext W aw∨al y0 (x1 bj E) X aw∧al y0 (x2 aR t9 3) E aw∧al y0 (am V) t9 aw∧True)∧aa y0 (r9 #[af,af] af #[bn,bm]) aw fun bo ax=>(Ext W ax∨al y0 (x1 bj E) X ax∧al y0 (x2 aR t9 3) E ax∧al y0 (am V) t9 ax∧True)∧O y0 iF [V,bo] ax fun bp ah=>(Ext W ah∨al y0 (x1 bj E) X ah∧al y0 (x2 aR t9 3) E ah∧al y0 (am V) t9 ah∧True)∧I y0 (Z0 cz #[(0,aN),(1,aU),(2,bp)]) ah fun bq=>aa y0 (u9 bj 1 #[(0,bq)]) ah fun br ay=>(Ext W ay∨al y0 (x1 bj E) X ay∧al y0 (x2 aR t9 3) E ay∧al y0 (am V) t9 ay∧True)∧aa y0 (r9 #[bj,bj] bj #[X,br]) ay fun bt aP=>I y0 (am V) aP fun bu=>I y0 (x2 aR bu 3) aP fun bw=>aa y0 (x8 bj bw bt) aP fun _ bx=>aM bx))∧(aa y0 (u9 af 1 #[(0,(.int .i64 1))]) ad fun bz az=>(Ext W az∨al y0 (x1 bj E) X az∧al y0 (x2 aR t9 3) E az∧al y0 (am V) t9 az∧True)∧O y0 iH [bk] az fun bA aA=>(Ext W aA∨al y0 (x1 bj E) X aA∧al y0 (x2 aR t9 3) E aA∧al y0 (am V) t9 aA∧True)∧O y0 hs [bk] aA fun bB aC=>(Ext W aC∨al y0 (x1 bj E) X aC∧al y0 (x2 aR t9 3) E aC∧al y0 (am V) t9 aC∧True)∧aa y0 (r9 #[af,af] af #[bz,bB]) aC fun bC aD=>(Ext W aD∨al y0 (x1 bj E) X aD∧al y0 (x2 aR t9 3) E aD∧al y0 (am V) t9 aD∧True)∧O y0 iF [V,bC] aD fun bD ai=>(Ext W ai∨al y0 (x1 bj E) X ai∧al y0 (x2 aR t9 3) E ai∧al y0 (am V) t9 ai∧True)∧I y0 (Z0 cz #[(0,aN),(1,bA),(2,bD)]) ai fun bE=>aa y0 (u9 bj 1 #[(0,bE)]) ai fun bF aF=>(Ext W aF∨al y0 (x1 bj E) X aF∧al y0 (x2 aR t9 3) E aF∧al y0 (am V) t9 aF∧True)∧aa y0 (r9 #[bj,bj] bj #[X,bF]) aF fun bG aS=>I y0 (am V) aS fun bH=>I y0 (x2 aR bH 3) aS fun bI=>aa y0 (x8 bj bI bG) aS fun _ bJ=>aM bJ))∧(aa y0 (u9 af 1 #[(0,(.int .i64 1))]) W fun bK aG=>(Ext W aG∨al y0 (x1 bj E) X aG∧al y0 (x2 aR t9 3) E aG∧al y0 (am V) t9 aG∧True)∧O y0 gX [ao] aG fun bL aH=>(Ext W aH∨al y0 (x1 bj E) X aH∧al y0 (x2 aR t9 3) E aH∧al y0 (am V) t9 aH∧True)∧O y0 iH [bk] aH fun bM aI=>(Ext W aI∨al y0 (x1 bj E) X aI∧al y0 (x2 aR t9 3) E aI∧al y0 (am V) t9 aI∧True)∧O y0 hs [bk] aI fun bN aJ=>(Ext W aJ∨al y0 (x1 bj E) X aJ∧al y0 (x2 aR t9 3) E aJ∧al y0 (am V) t9 aJ∧True)∧aa y0 (r9 #[af,af] af #[bK,bN]) aJ fun bO aK=>(Ext W aK∨al y0 (x1 bj E) X aK∧al y0 (x2 aR t9 3) E aK∧al y0 (am V) t9 aK∧True)∧O y0 iF [V,bO] aK fun bP aj=>(Ext W aj∨al y0 (x1 bj E) X aj∧al y0 (x2 aR t9 3) E aj∧al y0 (am V) t9 aj∧True)∧I y0 (Z0 cz #[(0,bL),(1,bM),(2,bP)]) aj fun bQ=>aa y0 (u9 bj 1 #[(0,bQ)]) aj fun bR aL=>(Ext W aL∨al y0 (x1 bj E) X aL∧al y0 (x2 aR t9 3) E aL∧al y0 (am V) t9 aL∧True)∧aa y0 (r9 #[bj,bj] bj #[X,bR]) aL fun bS aT=>I y0 (am V) aT fun bT=>I y0 (x2 aR bT 3) aT fun bU=>aa y0 (x8 bj bU bS) aT fun _ bV=>aM bV)):O y0 n8 [V,ao,bk] Z ac:=aE Tryz.func133 rfl (by kernel_rfl) (by kernel_rfl) h
theorem oa.enter (h:@aB aS (fun Y E=>Split Y (ac (.slice none 0 0) E) (I y0 (am V) E fun aa=>I y0 (x2 cK aa 3) E fun ad=>I y0 (x1 er ad) E fun ae=>I y0 (x7 er ae ao) E fun af=>I y0 (x2 fl af 0) E fun ag=>I y0 (x1 ab ag) E fun ah=>O y0 gX [ah] E fun ai aj=>ac ai aj)) fun W=>I y0 (U .lss J false true ao (.int .i64 0)) Z fun ak=>Split ak (W (.bool true) Z) (O y0 jT [V] Z fun al X=>I y0 (U .geq J false false ao al) X fun ap=>W ap X)):O y0 oa [V,ao] Z ac:=aE Tryz.func134 rfl (by kernel_rfl) (by kernel_rfl) h
theorem ob.enter (h:@aB aS (fun Y E=>Split Y (ac (.pointer none) E) (I y0 (am V) E fun aa=>I y0 (x2 cK aa 3) E fun ab=>I y0 (x1 er ab) E fun ad=>I y0 (x7 er ad ao) E fun ae=>I y0 (x2 fl ae 1) E fun af=>I y0 (x1 bA af) E fun ag=>O y0 oo [ag] E fun ah ai=>ac ah ai)) fun W=>I y0 (U .lss J false true ao (.int .i64 0)) Z fun aj=>Split aj (W (.bool true) Z) (O y0 jT [V] Z fun ak X=>I y0 (U .geq J false false ao ak) X fun al=>W al X)):O y0 ob [V,ao] Z ac:=aE Tryz.func135 rfl (by kernel_rfl) (by kernel_rfl) h
theorem oc.enter (h:O y0 jm [V,ao] Z fun Y W=>I y0 (Z5 .not Y) W fun aa=>Split aa (ac (.int .i64 (-1)) W) (I y0 (am V) W fun ab=>I y0 (x2 aR ab 3) W fun ad=>I y0 (x1 bj ad) W fun ae=>I y0 (x7 bj ae ao) W fun af=>I y0 (x2 cz af 1) W fun ag=>I y0 (x1 aJ ag) W fun ah=>O y0 mq [ah,bk] W fun X E=>I y0 (u5 X 0) E fun ai=>I y0 (u5 X 1) E fun t25=>I y0 (U .neq cb false true t25 (.int .i64 0)) E fun aj=>Split aj (ac (.int .i64 (-1)) E) (I y0 (am V) E fun ak=>I y0 (x2 aR ak 3) E fun al=>I y0 (x1 bj al) E fun ap=>I y0 (x7 bj ap ao) E fun aq=>I y0 (x2 cz aq 2) E fun au=>I y0 (x1 J au) E fun av=>I y0 (U .add J false true av (.int .i64 1)) E fun aw=>I y0 (U .add J false false aw ai) E fun ax=>ac ax E))):O y0 oc [V,ao,bk] Z ac:=aE Tryz.func137 rfl (by kernel_rfl) (by kernel_rfl) h
theorem iG.enter (h:I y0 (U .eql bA false true V (.pointer none)) Z fun t4=>Split t4 (ac (.int .i64 0) Z) (I y0 (am V) Z fun E=>I y0 (x2 bq E 1) Z fun J=>I y0 (x1 ae J) Z fun W=>ac W Z)):O y0 iG [V] Z ac:=aE Tryz.func139 rfl (by kernel_rfl) (by kernel_rfl) h
theorem iH.enter (h:aa y0 (n9 aJ true (.tuple #[])) Z fun J E=>I y0 (U .eql bA false true V (.pointer none)) E fun t4=>Split t4 (I y0 (Z0 aJ #[]) E fun t5=>aa y0 (x8 aJ J t5) E fun _ W=>I y0 (do loadVar aJ (←asAddr J)) W fun r=>ac r W) (I y0 (am V) E fun Y=>I y0 (x2 bq Y 0) E fun ab=>I y0 (x1 aJ ab) E fun t9=>aa y0 (x8 aJ J t9) E fun _ X=>I y0 (do loadVar aJ (←asAddr J)) X fun ad=>ac ad X)):O y0 iH [V] Z ac:=aE Tryz.func140 rfl (by kernel_rfl) (by kernel_rfl) h
theorem jU.enter (h:aa y0 (Z2 aJ V) Z fun J E=>I y0 (x2 aJ J 0) E fun t3=>I y0 (x1 ab t3) E fun t4=>O y0 gX [t4] E fun t5 U=>ac t5 U):O y0 jU [V] Z ac:=aE Tryz.func141 rfl (by kernel_rfl) (by kernel_rfl) h
theorem od.enter (h:I y0 (U .eql fN false true V (.pointer none)) Z fun t4=>Split t4 (ac (.int .i64 0) Z) (I y0 (am V) Z fun E=>I y0 (x2 cK E 0) Z fun J=>I y0 (x1 mO J) Z fun W=>I y0 (am W) Z fun t9=>I y0 (x2 bf t9 1) Z fun X=>I y0 (x1 ae X) Z fun Y=>ac Y Z)):O y0 od [V] Z ac:=aE Tryz.func145 rfl (by kernel_rfl) (by kernel_rfl) h
theorem jV.enter (h:O y0 oq [V] Z fun t4 E=>I y0 (Z0 du #[(0,t4),(2,(.int .i64 (-1)))]) E fun t5=>aa y0 (Z2 du t5) E fun J U=>ac J U):O y0 jV [V] Z ac:=aE Tryz.func146 rfl (by kernel_rfl) (by kernel_rfl) h
theorem jW.enter (h:O y0 ed [V] Z fun ae E=>I y0 (Z5 .not ae) E fun t9=>Split t9 (ac (.tuple #[(.string ⟨#[]⟩),(.int .i64 0)]) E) (I y0 (am V) E fun af=>I y0 (x2 bi af 0) E fun ag=>I y0 (x1 k5 ag) E fun ah=>O y0 iI [ah] E fun W J=>I y0 (u5 W 0) J fun ai=>I y0 (u5 W 1) J fun Y=>I y0 (u5 W 2) J fun aa=>@aB aS (fun e X=>@aB dL (fun aj=>ac (.tuple #[ai,Y]) aj) fun ab=>I y0 (U .neq cb false true e (.int .i64 0)) X fun t22=>Split t22 (O y0 fk [V,e,Y] X fun _ ak=>ab ak) (ab X)) fun ad=>I y0 (U .eql cb false true aa (.int .i64 2)) J fun al=>Split al (ad (.int .i64 4) J) (ad aa J))):O y0 jW [V] Z ac:=aE Tryz.func147 rfl (by kernel_rfl) (by kernel_rfl) h
theorem fx.enter (h:@aB aS (fun t22 E=>Split t22 (I y0 (am V) E fun Y=>I y0 (x2 bi Y 1) E fun ab=>I y0 (x2 cQ ab 1) E fun ad=>aa y0 (x8 cb ad (.int .i64 5)) E fun _ W=>I y0 (am V) W fun ae=>I y0 (x2 bi ae 1) W fun af=>I y0 (x2 cQ af 3) W fun ag=>aa y0 (x8 J ag bk) W fun _ ah=>ac (.tuple #[]) ah) (ac (.tuple #[]) E)) fun X=>Split ao (I y0 (am V) Z fun t9=>I y0 (x2 bi t9 1) Z fun ai=>I y0 (x2 cQ ai 1) Z fun aj=>I y0 (x1 cb aj) Z fun ak=>I y0 (U .eql cb false true ak (.int .i64 0)) Z fun al=>Split al (I y0 (am V) Z fun ap=>I y0 (x2 bi ap 1) Z fun aq=>I y0 (x2 cQ aq 0) Z fun au=>I y0 (x1 cb au) Z fun av=>I y0 (U .eql cb false true av (.int .i64 0)) Z fun aw=>X aw Z) (X (.bool false) Z)) (X (.bool false) Z)):O y0 fx [V,ao,bk] Z ac:=aE Tryz.func148 rfl (by kernel_rfl) (by kernel_rfl) h
theorem eB.enter (h:O y0 jW [V] Z fun ab W=>I y0 (u5 ab 0) W fun ag=>I y0 (u5 ab 1) W fun J=>O y0 ed [V] W fun ah X=>I y0 (Z5 .not ah) X fun ai=>Split ai (ac (.tuple #[(.int .i64 0),J]) X) (O y0 ot [ag] X fun ad E=>I y0 (u5 ad 0) E fun Y=>I y0 (u5 ad 1) E fun t25=>@aB aS (fun aj af=>Split aj (O y0 fk [V,(.int .i64 4),J] af fun _ ak=>ac (.tuple #[(.int .i64 0),J]) ak) (ac (.tuple #[Y,J]) af)) fun aa=>I y0 (U .neq cb false true t25 (.int .i64 0)) E fun al=>Split al (aa (.bool true) E) (I y0 (U .lss ae false false Y ao) E fun am=>Split am (aa (.bool true) E) (I y0 (U .gtr ae false false Y bk) E fun ap=>aa ap E)))):O y0 eB [V,ao,bk] Z ac:=aE Tryz.func149 rfl (by kernel_rfl) (by kernel_rfl) h
theorem ed.enter (h:I y0 (am V) Z fun t4=>I y0 (x2 bi t4 1) Z fun t5=>I y0 (x2 cQ t5 0) Z fun E=>I y0 (x1 cb E) Z fun J=>I y0 (U .eql cb false true J (.int .i64 0)) Z fun W=>ac W Z):O y0 ed [V] Z ac:=aE Tryz.func150 rfl (by kernel_rfl) (by kernel_rfl) h
theorem mg.enter (h:aa y0 (n9 be true (.tuple #[])) Z fun t4 aO=>O y0 eB [V,(.int .i64 (-4611686018427387904)),(.int .i64 4611686018427387904)] aO fun av X=>I y0 (u5 av 0) X fun ai=>I y0 (u5 av 1) X fun aw=>I y0 (U .lss ae false true ai (.int .i64 0)) X fun aP=>I y0 (Z5 .neg ai) X fun aR=>I y0 (u7.max_ #[ae,ae] ae #[ai,aR]) X fun ax=>I y0 (u6 #[af] J #[ao]) X fun t25=>O y0 kX [V,ax,t25] X fun aS ay=>I y0 (Z0 be #[(0,aS)]) ay fun aT=>aa y0 (n9 be true (.tuple #[])) ay fun f aU=>aa y0 (x8 be f aT) aU fun _ aV=>O y0 ed [V] aV fun aW Y=>I y0 (Z5 .not aW) Y fun aX=>Split aX (I y0 (x1 be f) Y fun aY=>aa y0 (x8 be t4 aY) Y fun _ az=>I y0 (do loadVar be (←asAddr t4)) az fun aZ=>ac aZ az) (I y0 (x2 be f 0) Y fun a1=>I y0 (x1 af a1) Y fun aA=>I y0 (u6 #[af] J #[aA]) Y fun a2=>bc (.int .i64 0) Y fun aj W k=>I y0 (U .lss J false false aj a2) W fun a6=>Split a6 (I y0 (x7 af aA aj) W fun a7=>I y0 (x1 ae a7) W fun a8=>aQ W fun ab=>I y0 (x2 be f 1) ab fun t39=>I y0 (x1 af t39) ab fun aC=>I y0 (x7 af ao a8) ab fun ba=>I y0 (x1 ae ba) ab fun bb=>aa y0 (u9 af 1 #[(0,bb)]) ab fun t45 ag=>(Ext ab ag∨al y0 (x1 af t39) aC ag∧al y0 (x2 be f 1) t39 ag∧True)∧aa y0 (r9 #[af,af] af #[aC,t45]) ag fun t46 aD=>I y0 (x2 be f 1) aD fun bd=>aa y0 (x8 af bd t46) aD fun _ aF=>I y0 (U .add J false true aj (.int .i64 1)) aF fun bf=>k bf aF) (@aB dL (fun bg=>O y0 eB [V,(.int .i64 0),(.int .i64 4611686018427387904)] bg fun aG ah=>I y0 (u5 aG 0) ah fun bh=>I y0 (u5 aG 1) ah fun _=>I y0 (x2 be f 2) ah fun bj=>aa y0 (x8 ae bj bh) ah fun _ ak=>I y0 (x2 be f 1) ak fun t66=>I y0 (x1 af t66) ak fun bk=>O y0 ou [V,bk] ak fun bl aH=>I y0 (x2 be f 3) aH fun bm=>aa y0 (x8 ef bm bl) aH fun _ aI=>@aB dL (fun aJ=>I y0 (x1 be f) aJ fun bn=>aa y0 (x8 be t4 bn) aJ fun _ aK=>I y0 (do loadVar be (←asAddr t4)) aK fun bo=>ac bo aK) fun aL=>Split aP (aQ aI fun E=>I y0 (am V) E fun ap=>I y0 (x2 bi ap 3) E fun aq=>I y0 (x1 dy aq) E fun aM=>I y0 (x2 be f 1) E fun t76=>I y0 (x1 af t76) E fun t77=>I y0 (x2 be f 3) E fun bp=>I y0 (x1 ef bp) E fun bq=>I y0 (Z0 gb #[(0,t77),(1,bq)]) E fun br=>aa y0 (u9 dy 1 #[(0,br)]) E fun bt ad=>(Ext E ad∨al y0 (x1 dy aq) aM ad∧al y0 (x2 bi ap 3) aq ad∧al y0 (am V) ap ad∧True)∧aa y0 (r9 #[dy,dy] dy #[aM,bt]) ad fun bu au=>I y0 (am V) au fun bw=>I y0 (x2 bi bw 3) au fun bx=>aa y0 (x8 dy bx bu) au fun _ bz=>aL bz) (aL aI)) fun aN=>I y0 (U .gtr ae false true ax (.int .i64 6)) W fun bA=>Split bA (O y0 fx [V,(.bool true),aw] W fun _ bB=>aN bB) (I y0 (x2 be f 1) W fun t53=>I y0 (x1 af t53) W fun bC=>O y0 mr [bC] W fun t55 bD=>O y0 fx [V,t55,aw] bD fun _ bE=>aN bE)))):O y0 mg [V,ao] Z ac:=aE Tryz.func151 rfl (by kernel_rfl) (by kernel_rfl) h
theorem iI.enter (h:I y0 (U .eql k5 false true V (.pointer none)) Z fun ai=>Split ai (ac (.tuple #[(.string ⟨#[]⟩),(.int .i64 0),(.int .i64 2)]) Z) (I y0 (am V) Z fun aj=>I y0 (x2 du aj 2) Z fun ak=>I y0 (x1 J ak) Z fun al=>I y0 (U .geq J false true al (.int .i64 0)) Z fun ao=>Split ao (aQ Z fun ad=>I y0 (am V) ad fun ap=>I y0 (x2 du ap 2) ad fun aq=>I y0 (x1 J aq) ad fun au=>ac (.tuple #[(.string ⟨#[]⟩),au,(.int .i64 11)]) ad) (O y0 ov [V] Z fun ae av=>bc ae av fun to W k=>@aB aS (fun aw E=>Split aw (I y0 (U .add J false true to (.int .i64 1)) E fun t39=>k t39 E) (@aB aS (fun ax X=>Split ax (I y0 (am V) X fun ay=>I y0 (x2 du ay 2) X fun az=>aa y0 (x8 J az to) X fun _ aA=>ac (.tuple #[(.string ⟨#[]⟩),to,(.int .i64 11)]) aA) (I y0 (U .eql J false false ae to) X fun aC=>Split aC (aQ X fun ab=>I y0 (am V) ab fun aD=>I y0 (x2 du aD 0) ab fun t70=>I y0 (x1 aV t70) ab fun aF=>I y0 (u6 #[aV] J #[aF]) ab fun aG=>ac (.tuple #[(.string ⟨#[]⟩),aG,(.int .i64 2)]) ab) (I y0 (am V) X fun aH=>I y0 (x2 du aH 1) X fun t76=>aa y0 (x8 J t76 to) X fun _ Y=>I y0 (am V) Y fun aI=>I y0 (x2 du aI 0) Y fun aJ=>I y0 (x1 aV aJ) Y fun aK=>I y0 (c7 aV aK (some ae) (some to) none) Y fun aL=>I y0 (convert aV a1 aL) Y fun aM=>ac (.tuple #[aM,ae,(.int .i64 0)]) Y))) fun af=>I y0 (am V) E fun aN=>I y0 (x2 du aN 0) E fun aO=>I y0 (x1 aV aO) E fun t45=>I y0 (u6 #[aV] J #[t45]) E fun t46=>I y0 (U .lss J false false to t46) E fun aP=>Split aP (I y0 (am V) E fun t50=>I y0 (x2 du t50 0) E fun aR=>I y0 (x1 aV aR) E fun aT=>I y0 (x7 aV aT to) E fun aU=>I y0 (x1 bb aU) E fun t55=>O y0 mu [t55] E fun aW ag=>I y0 (Z5 .not aW) ag fun aX=>af aX ag) (af (.bool false) E))) fun ah=>I y0 (am V) W fun aY=>I y0 (x2 du aY 0) W fun aZ=>I y0 (x1 aV aZ) W fun t25=>I y0 (u6 #[aV] J #[t25]) W fun a2=>I y0 (U .lss J false false to a2) W fun a6=>Split a6 (I y0 (am V) W fun a7=>I y0 (x2 du a7 0) W fun a8=>I y0 (x1 aV a8) W fun ba=>I y0 (x7 aV ba to) W fun bd=>I y0 (x1 bb bd) W fun be=>O y0 ow [be] W fun bf bg=>ah bf bg) (ah (.bool false) W)))):O y0 iI [V] Z ac:=aE Tryz.func152 rfl (by kernel_rfl) (by kernel_rfl) h
theorem fk.enter (h:I y0 (am V) Z fun W=>I y0 (x2 bi W 1) Z fun X=>I y0 (x2 cQ X 0) Z fun t9=>I y0 (x1 cb t9) Z fun Y=>I y0 (U .eql cb false true Y (.int .i64 0)) Z fun ab=>Split ab (I y0 (am V) Z fun ad=>I y0 (x2 bi ad 1) Z fun ae=>I y0 (x2 cQ ae 0) Z fun af=>aa y0 (x8 cb af ao) Z fun _ E=>I y0 (am V) E fun ag=>I y0 (x2 bi ag 1) E fun ah=>I y0 (x2 cQ ah 2) E fun ai=>aa y0 (x8 J ai bk) E fun _ aj=>ac (.tuple #[]) aj) (ac (.tuple #[]) Z)):O y0 fk [V,ao,bk] Z ac:=aE Tryz.func153 rfl (by kernel_rfl) (by kernel_rfl) h
theorem jo.enter (h:I y0 (u6 #[af] J #[V]) Z fun X=>aa y0 (V8 ab X X) Z fun Y ad=>I y0 (u6 #[af] J #[V]) ad fun ah=>bc (.int .i64 0) ad fun W E k=>I y0 (U .lss J false false W ah) E fun ai=>Split ai (I y0 (x7 af V W) E fun aj=>I y0 (x1 ae aj) E fun ak=>I y0 (x7 ab Y W) E fun al=>aa y0 (x8 J al ak) E fun _ ag=>I y0 (U .add J false true W (.int .i64 1)) ag fun am=>k am ag) (ac Y E)):O y0 jo [V] Z ac:=aE Tryz.func154 rfl (by kernel_rfl) (by kernel_rfl) h
theorem kW.enter (h:aa y0 (Z2 be ao) Z fun ag aI=>aa y0 (n9 bg true (.tuple #[])) aI fun t4 aJ=>aQ aJ fun E=>I y0 (x2 be ag 1) E fun aK=>I y0 (x1 af aK) E fun aL=>I y0 (am V) E fun ah=>I y0 (x2 bf ah 1) E fun ai=>I y0 (x1 ae ai) E fun az=>I y0 (x2 be ag 2) E fun aj=>I y0 (x1 ae aj) E fun ak=>I y0 (am V) E fun ap=>I y0 (x2 bf ap 1) E fun aq=>I y0 (x1 ae aq) E fun t22=>I y0 (u7.min_ #[ae,ae] ae #[ak,t22]) E fun aA=>O y0 jo [aL] E fun aM W=>(Ext E W∨al y0 (u7.min_ #[ae,ae] ae #[ak,t22]) aA W∧al y0 (x1 ae aq) t22 W∧al y0 (x2 bf ap 1) aq W∧al y0 (am V) ap W∧al y0 (x1 ae aj) ak W∧al y0 (x2 be ag 2) aj W∧al y0 (x1 ae ai) az W∧al y0 (x2 bf ah 1) ai W∧al y0 (am V) ah W∧True)∧O y0 fz [aM,az,aA] W fun aB ad=>I y0 (u5 aB 0) ad fun t25=>I y0 (u5 aB 1) ad fun _=>I y0 (x2 be ag 3) ad fun aN=>I y0 (x1 ef aN) ad fun aC=>I y0 (u6 #[ef] J #[aC]) ad fun aO=>bc (.int .i64 0) ad fun au ab k=>I y0 (U .lss J false false au aO) ab fun aP=>Split aP (I y0 (x7 ef aC au) ab fun aR=>I y0 (x1 cB aR) ab fun aS=>aa y0 (n9 cB true (.tuple #[])) ab fun l aT=>aa y0 (x8 cB l aS) aT fun _ aU=>aQ aU fun X=>I y0 (x2 cB l 0) X fun aV=>I y0 (x1 af aV) X fun aW=>I y0 (x2 cB l 1) X fun av=>I y0 (x1 ae av) X fun t39=>I y0 (am V) X fun aw=>I y0 (x2 bf aw 1) X fun ax=>I y0 (x1 ae ax) X fun ay=>I y0 (u7.min_ #[ae,ae] ae #[t39,ay]) X fun aD=>O y0 jo [aW] X fun aX Y=>(Ext X Y∨al y0 (u7.min_ #[ae,ae] ae #[t39,ay]) aD Y∧al y0 (x1 ae ax) ay Y∧al y0 (x2 bf aw 1) ax Y∧al y0 (am V) aw Y∧al y0 (x1 ae av) t39 Y∧al y0 (x2 cB l 1) av Y∧True)∧O y0 mv [t25,aX,aD] Y fun _ aF=>I y0 (U .add J false true au (.int .i64 1)) aF fun t46=>k t46 aF) (I y0 (x2 be ag 0) ab fun aY=>I y0 (x1 af aY) ab fun aZ=>O y0 jo [aZ] ab fun a1 aG=>I y0 (Z0 bg #[(0,a1),(1,t25)]) aG fun a2=>aa y0 (x8 bg t4 a2) aG fun _ aH=>I y0 (do loadVar bg (←asAddr t4)) aH fun r=>ac r aH)):O y0 kW [V,ao] Z ac:=aE Tryz.func155 rfl (by kernel_rfl) (by kernel_rfl) h
theorem oe.enter (h:I y0 (u6 #[aV] J #[V]) Z fun t9=>jj (.slice none 0 0) (.int .i64 0) (.slice none 0 0) (.bool false) (.int .i64 0) Z fun ag t3 out ah Y E k=>I y0 (U .lss J false false Y t9) E fun ao=>Split ao (aB (α:=x4→x4→x4→x4→x5→Prop) (fun(ap aq au av:x4) (ai:x5)=>I y0 (U .add J false true Y (.int .i64 1)) ai fun t66=>k ap aq au av t66 ai) fun aj=>I y0 (x7 aV V Y) E fun aw=>I y0 (x1 bb aw) E fun ab=>@aB aS (fun ax ad=>Split ax (aj ag t3 out (.bool false) ad) (@aB aS (fun ay X=>Split ay (@aB aS (fun az aA=>ac (.tuple #[az,Y]) aA) fun ak=>Split ah (I y0 (u6 #[cA] J #[out]) X fun aC=>I y0 (U .sub J false true aC (.int .i64 1)) X fun t39=>I y0 (c7 cA out none (some t39) none) X fun aD=>ak aD X) (ak out X)) (@aB aS (fun ae aF=>aQ aF fun W=>I y0 (u6 #[cA] J #[ae]) W fun aG=>I y0 (U .sub J false true aG (.int .i64 1)) W fun t53=>I y0 (x7 cA ae t53) W fun aH=>I y0 (x2 bo aH 0) W fun t55=>I y0 (x1 a1 t55) W fun aI=>I y0 (U .add J false true Y (.int .i64 1)) W fun aJ=>I y0 (c7 aV V (some Y) (some aJ) none) W fun aK=>I y0 (convert aV a1 aK) W fun aL=>I y0 (U .add a1 false false aI aL) W fun aM=>I y0 (x7 cA ae t53) W fun aN=>I y0 (x2 bo aN 0) W fun aO=>aa y0 (x8 a1 aO aM) W fun _ aP=>aj ag t3 ae (.bool true) aP) fun al=>I y0 (Z5 .not ah) X fun aR=>Split aR (I y0 (Z0 bo #[(0,(.string ⟨#[]⟩)),(1,Y)]) X fun aT=>aa y0 (u9 cA 1 #[(0,aT)]) X fun aU aW=>aa y0 (r9 #[cA,cA] cA #[out,aU]) aW fun aX aY=>al aX aY) (al out X))) fun am=>I y0 (U .lss bb false true ab (.int .u8 33)) ad fun aZ=>Split aZ (am (.bool true) ad) (I y0 (U .gtr bb false true ab (.int .u8 126)) ad fun a2=>am a2 ad))) fun af=>I y0 (U .eql bb false true ab (.int .u8 32)) E fun a6=>Split a6 (af (.bool true) E) (I y0 (U .eql bb false true ab (.int .u8 9)) E fun a7=>Split a7 (af (.bool true) E) (I y0 (U .eql bb false true ab (.int .u8 10)) E fun a8=>Split a8 (af (.bool true) E) (I y0 (U .eql bb false true ab (.int .u8 13)) E fun ba=>af ba E)))) (ac (.tuple #[out,(.int .i64 (-1))]) E)):O y0 oe [V] Z ac:=aE Tryz.func156 rfl (by kernel_rfl) (by kernel_rfl) h
theorem mh.enter (h:aa y0 (n9 bo true (.tuple #[])) Z fun Y E=>I y0 (am V) E fun t5=>I y0 (x2 aN t5 3) E fun ai=>I y0 (x1 J ai) E fun aj=>I y0 (U .neq J false true aj (.int .i64 0)) E fun ak=>Split ak (I y0 (Z0 bo #[]) E fun t9=>aa y0 (x8 bo Y t9) E fun _ ab=>I y0 (do loadVar bo (←asAddr Y)) ab fun al=>ac al ab) (I y0 (am V) E fun ao=>I y0 (x2 aN ao 0) E fun ap=>I y0 (x1 cA ap) E fun aq=>I y0 (u6 #[cA] J #[aq]) E fun au=>I y0 (U .eql J false true au (.int .i64 0)) E fun av=>Split av (aQ E fun W=>I y0 (am V) W fun aw=>I y0 (x2 aN aw 2) W fun ax=>I y0 (x1 J ax) W fun ay=>I y0 (am V) W fun t22=>I y0 (x2 aN t22 1) W fun az=>I y0 (x1 J az) W fun aA=>O y0 fy [V,ay,aA] W fun _ ad=>I y0 (Z0 bo #[]) ad fun aB=>aa y0 (x8 bo Y aB) ad fun _ ae=>I y0 (do loadVar bo (←asAddr Y)) ae fun aC=>ac aC ae) (I y0 (am V) E fun aD=>I y0 (x2 aN aD 0) E fun aF=>I y0 (x1 cA aF) E fun aG=>I y0 (x7 cA aG (.int .i64 0)) E fun aH=>I y0 (x1 bo aH) E fun aI=>aa y0 (n9 bo true (.tuple #[])) E fun af aJ=>aa y0 (x8 bo af aI) aJ fun _ X=>I y0 (am V) X fun aK=>I y0 (x2 aN aK 0) X fun aL=>I y0 (x1 cA aL) X fun aM=>I y0 (c7 cA aM (some (.int .i64 1)) none none) X fun aO=>I y0 (am V) X fun t39=>I y0 (x2 aN t39 0) X fun aP=>aa y0 (x8 cA aP aO) X fun _ ag=>I y0 (x1 bo af) ag fun aR=>aa y0 (x8 bo Y aR) ag fun _ ah=>I y0 (do loadVar bo (←asAddr Y)) ah fun aS=>ac aS ah))):O y0 mh [V] Z ac:=aE Tryz.func157 rfl (by kernel_rfl) (by kernel_rfl) h
theorem fZ.enter (h:@aB aS (fun Y E=>Split Y (I y0 (am V) E fun ab=>I y0 (x2 aN ab 5) E fun t25=>aa y0 (x8 J t25 (.int .i64 5)) E fun _ W=>I y0 (am V) W fun ad=>I y0 (x2 aN ad 6) W fun ae=>aa y0 (x8 J ae bk) W fun _ af=>ac (.tuple #[]) af) (ac (.tuple #[]) E)) fun X=>Split ao (I y0 (am V) Z fun t9=>I y0 (x2 aN t9 5) Z fun ag=>I y0 (x1 J ag) Z fun ah=>I y0 (U .eql J false true ah (.int .i64 0)) Z fun ai=>Split ai (I y0 (am V) Z fun aj=>I y0 (x2 aN aj 3) Z fun ak=>I y0 (x1 J ak) Z fun al=>I y0 (U .eql J false true al (.int .i64 0)) Z fun ap=>X ap Z) (X (.bool false) Z)) (X (.bool false) Z)):O y0 fZ [V,ao,bk] Z ac:=aE Tryz.func158 rfl (by kernel_rfl) (by kernel_rfl) h
theorem en.enter (h:O y0 mh [V] Z fun aj ak=>aa y0 (n9 bo true (.tuple #[])) ak fun X al=>aa y0 (x8 bo X aj) al fun _ ad=>I y0 (x2 bo X 0) ad fun ap=>I y0 (x1 a1 ap) ad fun aq=>O y0 ox [aq] ad fun ah E=>I y0 (u5 ah 0) E fun af=>I y0 (u5 ah 1) E fun au=>@aB dL (fun W=>I y0 (am V) W fun av=>I y0 (x2 aN av 3) W fun aw=>I y0 (x1 J aw) W fun t45=>I y0 (U .neq J false true t45 (.int .i64 0)) W fun t46=>Split t46 (ac (.tuple #[(.int .i64 0),(.int .i64 0)]) W) (aQ W fun ag=>I y0 (x2 bo X 1) ag fun ax=>I y0 (x1 J ax) ag fun ay=>ac (.tuple #[af,ay]) ag)) fun ai=>@aB aS (fun az Y=>Split az (I y0 (x2 bo X 1) Y fun t39=>I y0 (x1 J t39) Y fun aA=>O y0 fy [V,(.int .i64 4),aA] Y fun _ aC=>ai aC) (ai Y)) fun ab=>I y0 (am V) E fun aD=>I y0 (x2 aN aD 3) E fun aF=>I y0 (x1 J aF) E fun t22=>I y0 (U .eql J false true t22 (.int .i64 0)) E fun aG=>Split aG (I y0 (U .neq J false true au (.int .i64 0)) E fun aH=>Split aH (ab (.bool true) E) (I y0 (U .lss ae false false af ao) E fun aI=>Split aI (ab (.bool true) E) (I y0 (U .gtr ae false false af bk) E fun aJ=>ab aJ E))) (ab (.bool false) E)):O y0 en [V,ao,bk] Z ac:=aE Tryz.func159 rfl (by kernel_rfl) (by kernel_rfl) h
end
end Go.Proofs.YtgbkinibgjmodaaGreatDoor
