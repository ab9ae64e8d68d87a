/- own texts, made small by a tool (wip/ holds them as they were written): no statement of the seat. -/
import Derived.RangeFuncNested
import Derived.RangeFuncLeaves
import Derived.OrdersIn
import Derived.KernelRfl
import Derived.Deep.Upon
import Derived.RangeFuncBound
import Derived.Deep.MidRow
import Derived.Laws.Cover3
import Derived.Laws.Pointers
import Derived.Laws.StructEq
import Derived.Laws.Tables
import Derived.Below
import Derived.Laws.MakeOwn
import Derived.Lib.Overlaps
import Derived.Lib.AppendZerosOnto
import Derived.Lib.SliceRun
import Derived.OpenShut
import Derived.Lib.ConvBytes
import Derived.Laws.BytesArg
import Derived.Laws.Concat
import Derived.MapKept
import Derived.Carry
import Derived.WideKeyArr
import Derived.WideKeyMaps
import Derived.Laws.IdiomRangeMap
import Derived.Shelf.SlSortCmp.NoneTotal
import Derived.Shelf.SlSortCmp.WholeK
import Derived.Ground.SlsfProg
import Derived.WideKeyEntry
import Derived.WalkKit
import Derived.Test.YtgbkinibgjmodaaGreatDoorProg
import Derived.Test.YtgbkinibgjmodaaGreatDoorChecked
set_option linter.unusedVariables false
set_option linter.unusedSimpArgs false
set_option linter.unnecessarySimpa false
open Array renaming getElem?_eq_some_iff→l7,getElem?_toList→T5
open BitVec renaming ofInt→V6
open Bool renaming not_true→Y4,not_false→X4,eq_iff_iff→V1,and_eq_true→V5,or_eq_false_iff→T3
open Decidable renaming not_not→Y9
open Go renaming Value→x1,World→x2,TypeId→r8,IntKind→o4,Builtin→n0,Program→X5,Oper→U2,Operand→T0
open Go.Addr renaming add_mid→U4
open Go.Builtin renaming append_→l9,len_→Z5
open Go.Instr renaming loadAt→x6,fieldAt→x7,storeAt→o3,indexAt→o6,extract→j6,buildSlice→Z4,sliceAt→X6,alloc→T7
open Go.IntKind renaming i64→Y0,u64→U1
open Go.Proofs.Tryz renaming prog→x3
open Go.Result renaming andThen→X3
open Go.Sem renaming run_bind→X2,run_pure→X8
open Go.Sort renaming Holds→T2
open Go.Value renaming int→W5
open Int renaming toNat_natCast→Z3
open List renaming getElem?_eq_getElem→y0,getElem?_eq_some_iff→x4,mem_of_getElem?→x5,getElem?_map→x8,getD_eq_getElem?_getD→u4,length_map→u5,take_add_one→u9,replicate→r9,length_append→o5,length_take→o8,take_length→o9,mem_append→n9,take_of_length_le→l5,mem_singleton→j0,length_cons→j4,mem_map→j5,map_append→b6,eq_nil_of_length_eq_zero→b8,getElem?_take_of_lt→Z6,getElem?_append_left→Z7,getElem?_append_right→Z8,getElem?_eq_none→Z9,mem_iff_getElem?→Y2,getElem?_set→Y5,length_set→Y6,ext_getElem?→Y8,length_eq_one_iff→X1,range→X7,mem_or_eq_of_mem_set→X9,drop_eq_getElem_cons→W0,getElem?_set_ne→W3,getElem?_set_self→W8,flatMap_cons→W9,pairwise_iff_getElem→V3,append_assoc→V7,set_append_right→V8,append_nil→V9,map_set→U3,mem_cons→U5,length_singleton→U8,map_cons→T4,getElem_mem→T6,length→T9
open List.cons renaming inj→T8
open Nat renaming le_refl→o7,zero_le→Y7,mul_le_mul_right→X0,zero_add→W6,le_trans→W7,sub_self→V2,add_mul→V4,beq→U6,mul_one→T1
open Option renaming some→j9,toList_some→Z0,isNone_some→Z1,map_some→Z2,map_eq_some_iff→Y1,map→V0,getD_some→U7
open Option.some renaming inj→b9,injEq→Y3
open Prod.mk renaming injEq→U9
variable {a x y:Int}{J c h j m n o:Nat}{w w':x2}{aA sv v z:x1}{args cs vs xs:List x1}{K:x1→Prop}{D:List Nat}{k:o4}{l szs:List Int}{S:Nat→Prop}{e t:r8}{cx cy:Bool}
namespace Go.Vc
open Go Go.RowKit
def fK:Obj→Bool
 | .loop _=>false
 | .deferred _=>false
 | .mapIter ..=>false
 |_=>true
def book:Obj→Bool
 | .loop _=>true
 | .deferred _=>true
 |_=>false
theorem AM {o:Obj} (h:book o=true):fK o=false:=by cases o <;> first|rfl|cases h
def ra:Obj→Bool
 | .mapIter ..=>true
 |_=>false
theorem AN {o:Obj} (h:ra o=true):fK o=false:=by cases o <;> first|rfl|cases h
structure Ext (w w':x2):Prop where
 size:w.heap.size≤w'.heap.size
 ba:∀ (r:Nat) (o:Obj),w.heap[r]? =some o→fK o=true→w'.heap[r]? =some o
theorem Ext.refl (w:x2):Ext w w:=⟨o7 _,fun _ _ h _=>h⟩
theorem Ext.trans {a b c:x2} (h:Ext a b) (k:Ext b c):Ext a c:=
 ⟨W7 h.size k.size,fun r o J I=>k.ba r o (h.ba r o J I) I⟩
def iM (w w':x2):Prop:=w'.tape=w.tape∧w.drawn≤w'.drawn
theorem iM.iN (h:w'.tape=w.tape:=by rfl) (k:w'.drawn=w.drawn:=by rfl):iM w w':=⟨h,Nat.le_of_eq k.symm⟩
theorem iM.trans {a b c:x2} (k:iM b c) (h:iM a b):iM a c:=⟨k.1.trans h.1,W7 h.2 k.2⟩
structure cP (w w':x2):Prop where
 os:w'.os=w.os
 tape:iM w w'
 output:w'.output=w.output
 size:w.heap.size≤w'.heap.size
 ba:∀ (r:Nat) (o:Obj),w.heap[r]? =some o→fK o=false→w'.heap[r]? =some o
structure ci (n:Nat) (w w':x2):Prop where
 os:w'.os=w.os
 tape:iM w w'
 output:w'.output=w.output
 size:w.heap.size≤w'.heap.size
 ba:∀ (r:Nat) (o:Obj),w.heap[r]? =some o→book o=true→w'.heap[r]? =some o
 old:∀ (r:Nat) (o:Obj),r<n→w.heap[r]? =some o→fK o=false→w'.heap[r]? =some o
theorem cP.b (h:cP w w'):ci n w w':=⟨h.os,h.tape,h.output,h.size,fun r o I J=>h.ba r o I (AM J),fun r o _ I J=>h.ba r o I J⟩
theorem ci.refl (n:Nat) (w:x2):ci n w w:=⟨rfl,.iN,rfl,o7 _,fun _ _ h _=>h,fun _ _ _ h _=>h⟩
theorem ci.trans {a b c:x2} (h:ci n a b) (k:ci n b c):ci n a c:=
 ⟨k.os.trans h.os,k.tape.trans h.tape,k.output.trans h.output,W7 h.size k.size,fun r o J I=>k.ba r o (h.ba r o J I) I,fun r o O J I=>k.old r o O (h.old r o O J I) I⟩
theorem ci.step {a b c:x2} (h:ci n a b) (k:ci m b c) (hm:a.heap.size≤m):ci n a c:=
 ⟨k.os.trans h.os,k.tape.trans h.tape,k.output.trans h.output,W7 h.size k.size,fun r o J I=>k.ba r o (h.ba r o J I) I,
  fun r o O J I=>k.old r o (Nat.lt_of_lt_of_le (l7.1 J).1 hm) (h.old r o O J I) I⟩
theorem ci.dc (h:ci n w w') (J:w.heap.size≤n):cP w w':=
 ⟨h.os,h.tape,h.output,h.size,fun r o I O=>h.old r o (Nat.lt_of_lt_of_le (l7.1 I).1 J) I O⟩
def eX (w w':x2):Prop:=∀ (r:Nat) (o:Obj),w.heap[r]? =some o→ra o=true→w'.heap[r]? =some o
theorem eX.refl (w:x2):eX w w:=fun _ _ h _=>h
theorem eX.trans {a b c:x2} (h:eX a b) (k:eX b c):eX a c:=fun r o J I=>k r o (h r o J I) I
theorem cP.kY (h:cP w w'):eX w w':=fun r o I J=>h.ba r o I (AN J)
abbrev eJ:=Bool×Nat
theorem cP.refl (w:x2):cP w w:=⟨rfl,.iN,rfl,o7 _,fun _ _ h _=>h⟩
theorem cP.trans {a b c:x2} (h:cP a b) (k:cP b c):cP a c:=
 ⟨k.os.trans h.os,k.tape.trans h.tape,k.output.trans h.output,W7 h.size k.size,fun r o J I=>k.ba r o (h.ba r o J I) I⟩
theorem pb (w:x2) (n:Nat):Ext w {w with drawn:=n}:=⟨o7 _,fun _ _ h _=>h⟩
theorem ni (w:x2) (n:Nat) (h:w.drawn≤n):cP w {w with drawn:=n}:=⟨rfl,⟨rfl,h⟩,rfl,o7 _,fun _ _ h _=>h⟩
theorem nj (w:x2) (o:Obj):Ext w {w with heap:=w.heap.push o}:=
 ⟨by simp,fun r o' h _=>by
  have I:=(l7.1 h).1;simp only[Array.getElem?_push];rw[if_neg (by omega)];exact h⟩
theorem nk (w:x2) (o:Obj):cP w {w with heap:=w.heap.push o}:=
 ⟨rfl,.iN,rfl,by simp,fun r o' h _=>by
  have I:=(l7.1 h).1;simp only[Array.getElem?_push];rw[if_neg (by omega)];exact h⟩
inductive dE where
 |v (x:x1)
 |b (c:Bool)
 |u
def dE.val:dE→x1
 | .v x=>x
 | .b c=>.bool c
 | .u=>undef
def dE.ofConst:x1→dE
 | .bool c=>.b c
 |x=>.v x
theorem dE.AO (x:x1):(dE.ofConst x).val=x:=by cases x <;> rfl
abbrev Env:=List (Nat×dE)
def look:Env→Nat→Option dE
 |[],_=>none
 |(s,x)::r,t=>bif U6 s t then some x else look r t
def dK (e:Env):T0→Option dE
 | .tmp t=>look e t
 | .const x=>some (dE.ofConst x)
 | .global g=>some (.v (.pointer (some ⟨g,0,none⟩)))
 | .func f=>some (.v (.func (.func f) #[] #[]))
def cv (e:Env) (x:T0):x1:=
 match dK e x with
 |some y=>y.val
 |none=>undef
def known (e:Env):List T0→Bool
 |[]=>true
 |x::r=>(dK e x).isSome&&known e r
def T2 (N:Nat) (e:Env) (a:Act):Prop:=
 a.tmps.size=N∧ ∀ t x,look e t=some x→a.tmps.getD t undef=x.val
theorem T2.dK {N:Nat} {e:Env} {a:Act} (h:T2 N e a) {x:T0} {y:dE} (I:Vc.dK e x=some y):a.eval x=y.val:=by
 cases x with
 |tmp t=>exact h.2 t y I
 |const v=>simp[Vc.dK] at I;subst I;simp[Act.eval,dE.AO]
 |global g=>simp[Vc.dK] at I;subst I;rfl
 |func f=>simp[Vc.dK] at I;subst I;rfl
theorem T2.eval {N:Nat} {e:Env} {a:Act} (h:T2 N e a) {x:T0} (J:(Vc.dK e x).isSome=true):a.eval x=cv e x:=by
 obtain⟨y,I⟩:=Option.isSome_iff_exists.1 J;rw[h.dK I];simp[cv,I]
theorem rb {e:Env}:∀ {l:List T0},known e l=true→ ∀ x∈l,(dK e x).isSome=true
 |[],_,_,I=>by cases I
 |y::r,h,x,I=>by
  simp only[known,V5] at h;cases I with
  |head=>exact h.1
  |tail _ I=>exact rb h.2 x I
def dp (e:Env) (d:Option Tmp) (x:dE):Env:=
 match d with
 |some t=>(t,x)::e
 |none=>e
def hN (N:Nat) (d:Option Tmp):Bool:=
 match d with
 |some t=>Nat.blt t N
 |none=>true
theorem T2.put {N:Nat} {e:Env} {a:Act} (h:T2 N e a) {d:Option Tmp} (U:hN N d=true) {x:dE} (V:x.val=v):
  T2 N (dp e d x) (a.put d v):=by
 cases d with
 |none=>exact h
 |some t=>
  have W:t<N:=by simpa[hN,Nat.blt_eq] using U
  refine⟨by simp[Act.put,h.1],fun s y I=>?_⟩;simp only[dp,look] at I;cases J:U6 t s with
  |true=>
   have O:t=s:=Nat.eq_of_beq_eq_true J;subst O;simp only[J,cond_true,Y3] at I;subst I;simp[Act.put,h.1,W,V]
  |false=>
   have O:t≠s:=Nat.ne_of_beq_eq_false J;simp only[J,cond_false] at I;have:=h.2 s y I;simp only[Act.put,Array.getD_eq_getD_getElem?] at this ⊢;rw[Array.getElem?_setIfInBounds_ne O];exact this
def dB (r:Option Nat):Fence:={Fence.wide with round:=r}
theorem re (r:Option Nat) (n:Nat):(dB r).depth.isSome=true→1≤n:=fun h=>by simp[dB,Fence.wide] at h
theorem uk {r:Option Nat} {P:X5} {f:FuncId} {args:Array x1} {R:Ending→x2→Prop}
  (h:Calls P f args w R):CallsIn (dB r) n P f args w R:=by
 have:=(callsIn_wide (n:=n)).2 h;exact this
section
variable (P:X5)
def ax {α:Type} (s:Sem α) (w:x2) (K:α→x2→Prop):Prop:=∃ v w',s.run P w= .ok v w'∧cP w w'∧K v w'
def pc {α:Type} (free:eJ) (s:Sem α) (w:x2) (K:α→x2→Prop):Prop:=∃ v w',s.run P w= .ok v w'∧(free.1=false→ci free.2 w w')∧K v w'
def Split (x:x1) (A B:Prop):Prop:=∃ c,x= .bool c∧(c=true→A)∧(c=false→B)
def aG:Bool→T0
 |true=>.const (.bool true)
 |false=>.tmp 0
def l4:T0→Bool
 | .const _=>true
 |_=>false
theorem AP (op:BinOp) (t:r8) (x y:T0) (a b:x1):eqGuard op t x y a b=eqGuard op t (aG (l4 x)) (aG (l4 y)) a b:=by
 cases x <;> cases y <;> rfl
def av (op:BinOp) (t:r8) (cx cy:Bool) (a b:x1):Sem x1:=do eqGuard op t (aG cx) (aG cy) a b;binOp op t a b
def pd (s:Sem Next):Sem x1:=do
 match ←s with
 | .value v=>pure v
 |_=>stuck "no value"
def aX (x:x1):Sem x1:=pd (execOp (fun _=>x) {dst:=none,op:=.nilCheck (.tmp 0),type:=0,pos:= "",after:=#[],guard:=none})
def bW (I:T0→x1):List T0→List x1
 |[]=>[]
 |x::r=>I x::bW I r
theorem pe (I:T0→x1):∀ l,bW I l=l.map I
 |[]=>rfl
 |x::r=>by simp[bW,pe I r]
theorem rf (I:T0→x1) (l:Array T0):(bW I l.toList).toArray=l.map I:=by
 apply Array.toList_inj.1;simp[pe]
def partsOf (I:T0→x1):List (Nat×T0)→List (Nat×x1)
 |[]=>[]
 |x::r=>(x.1,I x.2)::partsOf I r
theorem ul (I:T0→x1):∀ l,partsOf I l=l.map fun(i,x)=>(i,I x)
 |[]=>rfl
 |x::r=>by simp[partsOf,ul I r]
theorem AQ (I:T0→x1) (l:Array (Nat×T0)):(partsOf I l.toList).toArray=l.map fun(i,x)=>(i,I x):=by
 apply Array.toList_inj.1;simp[ul]
def opsOf:Op→List T0
 | .alloc _| .ready _| .waits _=>[]
 | .move x| .assign x| .box _ x| .load _ x| .nilCheck x| .unOp _ _ x| .convert _ _ x| .sliceToArrayPointer _ x| .makeInterface _ x
 | .makeChan _ x| .fieldAddr _ x _| .field _ x _| .range _ x| .next x _| .entry x| .typeAssert x _ _ _| .extract x _| .panic x| .recv _ x _=>[x]
 | .pick c a b=>[c,a,b]
 | .build _ I| .buildSlice _ _ I=>I.toList.map (·.2)
 | .store _ a v| .binOp _ _ a v _| .makeSlice _ a v| .indexAddr _ a v| .index _ a v| .lookup _ a v _| .mapEntry _ a v| .send a v=>[a,v]
 | .makeFunc _ first J=>first.toList++J.toList
 | .makeMap _ r=>match r with
  |some x=>[x]
  |none=>[]
 | .slice _ x l h m=>x::((match l with
  |some y=>[y]
  |none=>[])++((match h with
  |some y=>[y]
  |none=>[])++(match m with
  |some y=>[y]
  |none=>[])))
 | .mapUpdate _ m k v| .entryStore _ m k v| .insert _ m k v=>[m,k,v]
 | .call c=>match c.callee with
  | .value f=>f::c.args.toList
  | .invoke r _=>r::c.args.toList
  | .builtin _=>c.args.toList
 | .go _| .defer _| .select ..=>[]
theorem AR {op:Op} (h1:∀ c,op≠ .go c) (J:∀ c,op≠ .defer c) (O:∀ cs b,op≠ .select cs b):∀ x∈op.operands,x∈opsOf op:=by
 intro x I;cases op <;> simp only[Op.operands,opsOf] at I ⊢ <;> try (first|(simp at I;done)|(simp at I ⊢;exact I))
 case go c=>exact absurd rfl (h1 c)
 case defer c=>exact absurd rfl (J c)
 case select cs b=>exact absurd rfl (O cs b)
 case makeMap t r=>cases r <;> simp at I ⊢ <;> exact I
 case slice t y l h m=>cases l <;> cases h <;> cases m <;> simpa[or_assoc] using I
 case call c=>cases U:c.callee <;> simpa[Call.operands,U] using I
def nl (I:T0→x1):Op→Option (Sem x1)
 | .pick c a b=>some (do pure (if ←asBool (I c) then I a else I b))
 | .alloc U=>some (T7 U true (.tuple #[]))
 | .box U x=>some (Instr.box U (I x))
 | .build t parts=>some (Instr.build t (partsOf I parts.toList).toArray)
 | .buildSlice t len parts=>some (Z4 t len (partsOf I parts.toList).toArray)
 | .load t a=>some (x6 t (I a))
 | .nilCheck x=>some (aX (I x))
 | .binOp op J x y _=>some (av op J (l4 x) (l4 y) (I x) (I y))
 | .unOp op _ x=>some (Op.unary op (I x))
 | .convert src dst x=>some (convert src dst (I x))
 | .makeInterface J x=>some (Instr.makeInterface J (I x))
 | .makeFunc fn first V=>some (Instr.makeFunc fn (bW I first.toList).toArray (bW I V.toList).toArray)
 | .makeMap t r=>some (Instr.makeMap t (r.map I))
 | .makeSlice t l c=>some (Instr.makeSlice t (I l) (I c))
 | .slice t x lo hi mx=>some (X6 t (I x) (lo.map I) (hi.map I) (mx.map I))
 | .fieldAddr s x f=>some (x7 s (I x) f)
 | .field J x f=>some (Instr.field J (I x) f)
 | .indexAddr t x O=>some (o6 t (I x) (I O))
 | .index J x O=>some (Instr.index J (I x) (I O))
 | .lookup J x O ok=>some (Instr.lookup J (I x) (I O) ok)
 | .mapEntry t m k=>some (Instr.mapEntry t (I m) (I k))
 | .range J x=>some (Instr.range J (I x))
 | .entry W=>some (Instr.entry (I W))
 | .typeAssert x J Y ok=>some (Instr.typeAssert (I x) J Y ok)
 | .extract t O=>some (j6 (I t) O)
 |_=>none
def rg (I:T0→x1):Op→Option (Sem Unit)
 | .store t a x=>some (o3 t (I a) (I x))
 | .mapUpdate t m k x=>some (Instr.mapUpdate t (I m) (I k) (I x))
 | .insert t m k x=>some (Instr.mapUpdate t (I m) (I k) (I x))
 | .entryStore t m s x=>some (Instr.entryStore t (I m) (I s) (I x))
 |_=>none
def l6 (b:n0) (ats:Array r8) (I:r8) (args:Array x1):Option (Sem x1):=
 match b with
 | .append=>some (l9 ats I args)
 | .cap=>some (n0.cap_ ats I args)
 | .clear=>some (n0.clear_ ats I args)
 | .copy=>some (n0.copy_ ats I args)
 | .delete=>some (n0.delete_ ats I args)
 | .len=>some (Z5 ats I args)
 | .max=>some (n0.max_ ats I args)
 | .min=>some (n0.min_ ats I args)
 |_=>none
theorem AS {s:Sem Next} (h:(pd s).run P w= .ok v w'):s.run P w= .ok (.value v) w':=by
 unfold pd at h;rw[X2] at h;cases I:s.run P w with
 |halt x J=>rw[I] at h;simp[X3] at h
 |ok x J=>
  rw[I] at h;cases x <;> simp_all [X3,stuck,X8]
theorem AT (x:x1) (b:Bool) (t:r8):Instr.next x b 0=Instr.next x b t:=rfl
theorem rh {U:T0→x1} {o:U2} {s:Sem x1} (h:nl U o.op=some s) (I:s.run P w= .ok v w'):
  (execOp U o).run P w= .ok (.value v) w':=by
 cases O:o.op with
 |nilCheck x=>
  rw[O] at h;cases h;have:=AS P I;unfold execOp at this ⊢;simpa[O] using this
 |pick c x y=>
  rw[O] at h;cases h;unfold execOp;simp only[O,X2,X8] at I ⊢;cases V:(asBool (U c)).run P w with
  |halt x J=>rw[V] at I;simp[X3] at I
  |ok x J=>rw[V] at I;simp only[X3,Result.ok.injEq] at I ⊢;simp[I]
 |binOp op W x y Y=>
  rw[O] at h;cases h;unfold execOp;simp only[O];unfold av at I;rw[←AP] at I;simp only[X2,X8] at I ⊢;rw[I];rfl
 |_=>
  rw[O] at h
  first
   |(cases h;done)
   |(cases h;simp only[rf,AQ] at I;unfold execOp;simp only[O,X2,I,X3,X8])
   |(cases h;unfold execOp;simp only[O,X2,I,X3,X8])
theorem AU {I:T0→x1} {o:U2} {s:Sem Unit} (h:rg I o.op=some s) {v:Unit} (O:s.run P w= .ok v w'):
  (execOp I o).run P w= .ok .skip w':=by
 cases J:o.op with
 |_=>
  rw[J] at h
  first
   |(cases h;done)
   |(cases h;unfold execOp;simp only[J,X2,O,X3,X8])
def Enters (f:FuncId):Prop:=∀ args w,(callFunc f args).run P w= .ok (.enter f args) w
inductive af (f:FuncId) (args:List x1) (w:x2) (K:x1→x2→Prop):Prop
 |code (h1:Enters P f) (h2:Calls P f args.toArray w fun e w'=>∃ v,e= .returned v∧cP w w'∧K v w')
 |ext (v:x1) (w':x2) (h1:(callFunc f args.toArray).run P w= .ok (.value v) w') (h2:cP w w') (h3:K v w')
inductive fL (f:FuncId) (args:List x1) (w:x2) (K:x1→x2→Prop):Prop
 |code (h1:Enters P f) (h2:Calls P f args.toArray w fun e w'=>∃ v,e= .returned v∧K v w')
 |ext (v:x1) (w':x2) (h1:(callFunc f args.toArray).run P w= .ok (.value v) w') (h3:K v w')
theorem fL.calls {f:FuncId} {K:x1→x2→Prop} (h:fL P f args w K) (I:Enters P f):Calls P f args.toArray w fun e w'=>∃ v,e= .returned v∧K v w':=by
 cases h with
 |code _ h=>exact h
 |ext v w' h1=>rw[I] at h1;cases h1
def l8 (l:Nat) (args:List x1) (w:x2) (K:x1→x2→Prop):Prop:=
 YieldAt Fence.wide 0 P l args.toArray w fun e w'=>∃ v,e= .returned v∧K v w'
def pf (free:Bool) (f:x1) (args:List x1) (w:x2) (K:x1→x2→Prop):Prop:=
 match f with
 | .func (.func g) first cap=>bif free then fL P g (first.toList++args++cap.toList) w K else af P g (first.toList++args++cap.toList) w K
 | .func (.yield l) first _=>free=true∧l8 P l (first.toList++args) w K
 |_=>False
def I (s:Sem x1) (w:x2) (K:x1→Prop):Prop:=∃ v,(∀ w',Ext w w'→s.run P w'= .ok v w')∧K v
def AV:List (Nat×Nat):=[(9,22),(22,22)]
def AW (s d:Nat):Bool:=AV.any fun p=>U6 p.1 s&&U6 p.2 d
def hv (o:U2):Bool:=
 match o.op with
 | .convert s d _=>!AW s d
 | .move _| .assign _| .pick .. | .load .. | .nilCheck _| .binOp .. | .unOp .. | .makeInterface .. | .makeFunc .. | .slice .. | .fieldAddr .. | .field ..
 | .indexAddr .. | .index .. | .lookup .. | .extract .. | .build .. | .typeAssert ..=>true
 | .call c=>
  match c.callee with
  | .builtin .len| .builtin .cap| .builtin .min| .builtin .max=>true
  |_=>false
 |_=>false
def bb (s:Sem x1) (v:x1) (w':x2):Prop:=∀ I,Ext w' I→s.run P I= .ok v I
def jA (o:U2) (e:Env) (w:x2) (K:Env→(x2→Prop)→Prop):Prop:=
 bif known e (opsOf o.op) then
  match o.op with
  | .move x| .assign x=>
   match dK e x with
   |some y=>K (dp e o.dst y) (fun _=>True)
   |none=>False
  | .pick c a b=>
   match dK e c with
   |some (.b true)=>(match dK e a with|some y=>K (dp e o.dst y) (fun _=>True)|none=>False)
   |some (.b false)=>(match dK e b with|some y=>K (dp e o.dst y) (fun _=>True)|none=>False)
   |some (.v x)=>Split x (K (dp e o.dst (.v (cv e a))) (fun _=>True)) (K (dp e o.dst (.v (cv e b))) (fun _=>True))
   |some .u=>False
   |none=>False
  | .call c=>
   match c.callee with
   | .builtin b=>
    match l6 b c.argTypes o.type (bW (cv e) c.args.toList).toArray with
    |some s=>I P s w fun v=>K (dp e o.dst (.v v)) (bb P s v)
    |none=>False
   |_=>False
  |op=>
   match nl (cv e) op with
   |some s=>I P s w fun v=>K (dp e o.dst (.v v)) (bb P s v)
   |none=>False
 else False
def ri (free:eJ) (o:U2) (e:Env) (w:x2) (K:Env→x2→Prop):Prop:=
 bif known e (opsOf o.op) then
  match o.op with
  | .call c=>
   match c.callee with
   | .builtin b=>
    match l6 b c.argTypes o.type (bW (cv e) c.args.toList).toArray with
    |some s=>ax P s w fun v w'=>K (dp e o.dst (.v v)) w'
    |none=>False
   | .value (.func f)=>
    bif free.1 then fL P f (bW (cv e) c.args.toList) w fun v w'=>K (dp e o.dst (.v v)) w'
    else af P f (bW (cv e) c.args.toList) w fun v w'=>K (dp e o.dst (.v v)) w'
   | .value x=>pf P free.1 (cv e x) (bW (cv e) c.args.toList) w fun v w'=>K (dp e o.dst (.v v)) w'
   | .invoke _ _=>False
  | .next x str=>pc P free (Instr.next (cv e x) str 0) w fun v w'=>K (dp e o.dst (.v v)) w'
  |op=>
   match nl (cv e) op with
   |some s=>ax P s w fun v w'=>K (dp e o.dst (.v v)) w'
   |none=>
    match rg (cv e) op with
    |some s=>ax P s w fun _ w'=>K (dp e o.dst (.v undef)) w'
    |none=>False
 else False
def ma (free:eJ) (o:U2) (e:Env) (w:x2) (K:Env→x2→Prop):Prop:=
 bif hv o then jA P o e w (fun I _=>K I w) else ri P free o e w K
theorem Enters.of {f:FuncId} {fn:Func} {c:Code} (I:P.funcs[f]? =some fn) (J:fn.body=some c) (O:(fn.name == "runtime.NumGoroutine")=false):Enters P f:=by
 intro args w;have U:fn.name≠ "runtime.NumGoroutine":=by simpa using O
 unfold callFunc;simp[X2,program,Sem.run,X3,I,U,J,X8]
variable {P}
variable {N:Nat} {r:Option Nat} {o:U2} {e:Env} {a:Act} {w:x2}
theorem ie (J:T2 N e a) (O:known e (opsOf o.op)=true) (I:∀ cs b,o.op≠ .select cs b) (U:∀ c,o.op≠ .go c:=by simp_all) (V:∀ c,o.op≠ .defer c:=by simp_all):
  execOp a.eval o=execOp (cv e) o:=
 execOp_congr o I fun x W=>J.eval (rb O x (AR U V I x W))
theorem nm {next:Act→x2→Prop} {Q:Exit→Act→x2→Prop} (J:T2 N e a) (O:known e (opsOf o.op)=true) (U:∀ cs b,o.op≠ .select cs b)
  (I:∀ c,o.op≠ .defer c) {v:x1} {w':x2} (V:(execOp (cv e) o).run P w= .ok (.value v) w') (h:next (a.put o.dst v) w') (W:∀ c,o.op≠ .go c:=by simp_all):o.wpIn (dB r) 0 P a w next Q:=by
 refine⟨fun _ _=>trivial,?_⟩;rw[U2.semAt_eq _ _ _ I,ie J O U W I,V,U2.uponIn_value];exact h
theorem AX {next:Act→x2→Prop} {Q:Exit→Act→x2→Prop} (J:T2 N e a) (O:known e (opsOf o.op)=true) (U:∀ cs b,o.op≠ .select cs b)
  (I:∀ c,o.op≠ .defer c) {w':x2} (V:(execOp (cv e) o).run P w= .ok .skip w') (h:next (a.put o.dst undef) w') (W:∀ c,o.op≠ .go c:=by simp_all):o.wpIn (dB r) 0 P a w next Q:=by
 refine⟨fun _ _=>trivial,?_⟩;rw[U2.semAt_eq _ _ _ I,ie J O U W I,V,U2.uponIn_skip];exact h
def ev (N:Nat) (free:eJ) (K:Env→x2→Prop) (o:U2) (a:Act) (w:x2) (a':Act) (w':x2):Prop:=
 ∃ I v,K I w'∧T2 N I a'∧a'=a.put o.dst v∧(free.1=false→ci free.2 w w')
theorem ev.of {free:eJ} {K:Env→x2→Prop} {x:dE} (I:K (dp e o.dst x) w') (J:T2 N e a) (O:hN N o.dst=true) (U:x.val=v)
  (V:free.1=false→ci free.2 w w'):ev N free K o a w (a.put o.dst v) w':=⟨_,v,I,J.put O U,rfl,V⟩
theorem um {free:eJ} {K:Env→x2→Prop} {Q:Exit→Act→x2→Prop} {f:FuncId} {args:Array x1} (J:T2 N e a) (O:hN N o.dst=true)
  (h:Calls P f args w fun I w'=>∃ v,I= .returned v∧(free.1=false→ci free.2 w w')∧K (dp e o.dst (.v v)) w'):
  o.uponIn (dB r) 0 P a (ev N free K o a w) Q (.ok (.enter f args) w):=by
 rw[U2.uponIn_enter];refine⟨re _ _,CallsIn.mono (uk h) ?_⟩;rintro I w' ⟨v,rfl,U,V⟩;exact ev.of V J O rfl U
theorem jB {x:T0} {y:dE} (h:dK e x=some y):cv e x=y.val:=by simp[cv,h]
theorem uo {l:List T0} {x:T0} (I:known e l=true) (J:x∈l):∃ y,dK e x=some y:=Option.isSome_iff_exists.1 (rb I x J)
theorem uq {K:Env→(x2→Prop)→Prop} (h:jA P o e w K) (Y:T2 N e a) (ai:hN N o.dst=true):
  ∃ v,∃ st:x2→Prop,(∀ w',Ext w w'→(execOp a.eval o).run P w'= .ok (.value v) w')∧(∃ aa,K aa st∧T2 N aa (a.put o.dst v))∧(∀ c,o.op≠ .defer c)∧
   (∀ w',st w'→ ∀ J,Ext w' J→(execOp a.eval o).run P J= .ok (.value v) J):=by
 unfold jA at h;cases W:known e (opsOf o.op) with
 |false=>rw[W] at h;exact h.elim
 |true=>
  rw[W] at h;simp only[cond_true] at h;have put:∀ {x:dE} {v:x1} {st:x2→Prop},K (dp e o.dst x) st→x.val=v→ ∃ aa,K aa st∧T2 N aa (a.put o.dst v):=fun h1 ab=>⟨_,h1,Y.put ai ab⟩;cases I:o.op with
  |move x=>
   rw[I] at h;simp only at h;cases U:dK e x with
   |none=>rw[U] at h;exact h.elim
   |some y=>
    rw[U] at h;have all:∀ w':x2,(execOp a.eval o).run P w'= .ok (.value y.val) w':=fun w'=>by
     rw[ie Y W (by simp[I])];unfold execOp;simp only[I,X8,jB U]
    exact⟨y.val,_,fun w' _=>all w',put h rfl,by simp,fun _ _ J _=>all J⟩
  |assign x=>
   rw[I] at h;simp only at h;cases U:dK e x with
   |none=>rw[U] at h;exact h.elim
   |some y=>
    rw[U] at h;have all:∀ w':x2,(execOp a.eval o).run P w'= .ok (.value y.val) w':=fun w'=>by
     rw[ie Y W (by simp[I])];unfold execOp;simp only[I,X8,jB U]
    exact⟨y.val,_,fun w' _=>all w',put h rfl,by simp,fun _ _ J _=>all J⟩
  |pick c x y=>
   rw[I] at h;simp only at h;have ae:=W;rw[I] at ae;obtain⟨am,U⟩:=uo ae (x:=x) (by simp[opsOf]);obtain⟨an,ah⟩:=uo ae (x:=y) (by simp[opsOf]);have ac:∀ (t:Bool) (w':x2),cv e c= .bool t→(execOp a.eval o).run P w'= .ok (.value (if t=true then cv e x else cv e y)) w':=by
    intro t w' af;rw[ie Y W (by simp[I])];unfold execOp;simp[I,af,asBool,X8]
   cases O:dK e c with
   |none=>rw[O] at h;exact h.elim
   |some aj=>
    rw[O] at h;cases aj with
    |b t=>
     cases t with
     |true=>
      simp only[U] at h;exact⟨_,_,fun w' _=>ac true w' (jB O),put h (by simp[jB U]),by simp,fun _ _ w' _=>ac true w' (jB O)⟩
     |false=>
      simp only[ah] at h;exact⟨_,_,fun w' _=>ac false w' (jB O),put h (by simp[jB ah]),by simp,fun _ _ w' _=>ac false w' (jB O)⟩
    |v z=>
     obtain⟨t,ak,af,al⟩:=h;have V:=fun w'=>ac t w' (by rw[jB O];exact ak);cases t with
     |true=>exact⟨_,_,fun w' _=>V w',put (af rfl) rfl,by simp,fun _ _ w' _=>V w'⟩
     |false=>exact⟨_,_,fun w' _=>V w',put (al rfl) rfl,by simp,fun _ _ w' _=>V w'⟩
    |u=>exact h.elim
  |call c=>
   rw[I] at h;simp only at h;cases O:c.callee with
   |builtin b=>
    rw[O] at h;simp only at h;rw[rf] at h;cases ad:l6 b c.argTypes o.type (c.args.map (cv e)) with
    |none=>rw[ad] at h;exact h.elim
    |some s=>
     rw[ad] at h;obtain⟨v,V,ag⟩:=h;have all:∀ w':x2,s.run P w'= .ok v w'→(execOp a.eval o).run P w'= .ok (.value v) w':=fun w' V=>by
      rw[ie Y W (by simp[I])];unfold execOp;cases b <;> simp only[l6] at ad <;> first|(cases ad;done)|(cases ad;simp[I,O,resolve,invoke,builtin,V,X3])
     exact⟨v,_,fun w' hw=>all w' (V w' hw),put ag rfl,by simp,fun w' h1 J ab=>all J (h1 J ab)⟩
   |value x=>rw[O] at h;exact h.elim
   |invoke x m=>rw[O] at h;exact h.elim
  |_=>
   rw[I] at h
   first
    |(simp only[nl] at h;done)
    |(obtain⟨v,V,ag⟩:=h
      refine⟨v,_,fun w' hw=>?_,put ag rfl,by simp,fun w' h1 J ab=>?_⟩
      ·rw[ie Y W (by simp[I])];exact rh P (by rw[I];rfl) (V w' hw)
      ·rw[ie Y W (by simp[I])];exact rh P (by rw[I];rfl) (h1 J ab))
theorem AY {free:eJ} {K:Env→x2→Prop} {Q:Exit→Act→x2→Prop} (h:ri P free o e w K) (J:T2 N e a) (aa:hN N o.dst=true):
  o.wpIn (dB r) 0 P a w (ev N free K o a w) Q:=by
 unfold ri at h;cases W:known e (opsOf o.op) with
 |false=>rw[W] at h;exact h.elim
 |true=>
  rw[W] at h;simp only[cond_true] at h;cases I:o.op with
  |call c=>
   rw[I] at h;simp only at h;cases ab:c.callee with
   |builtin b=>
    rw[ab] at h;simp only at h;rw[rf] at h;cases ac:l6 b c.argTypes o.type (c.args.map (cv e)) with
    |none=>rw[ac] at h;exact h.elim
    |some s=>
     rw[ac] at h;obtain⟨v,w',O,Y,V⟩:=h;refine nm J W (by simp[I]) (by simp[I]) (v:=v) (w':=w') ?_ (ev.of V J aa rfl fun _=>Y.b);unfold execOp;cases b <;> simp only[l6] at ac <;> first|(cases ac;done)|(cases ac;simp[I,ab,resolve,invoke,builtin,O,X3])
   |value x=>
    rw[ab] at h;have step:∀ (d:Deferred) (y:x1),cv e x=y→Deferred.ofValue y (c.args.map (cv e))=pure d→
      (invoke d.target d.args).run P w=(execOp (cv e) o).run P w:=by
     intro d y U am;unfold execOp;simp only[I,ab,resolve,U,am,X2,X8,X3]
    have ag:∀ (g:FuncId) (first cap:Array x1),cv e x= .func (.func g) first cap→
      (execOp (cv e) o).run P w=(callFunc g (first.toList++bW (cv e) c.args.toList++cap.toList).toArray).run P w:=by
     intro g first cap U
     rw[←step {target:=.fn (.func g) cap,args:=first++c.args.map (cv e)} _ U rfl];simp only[invoke];have ah:first++c.args.map (cv e)++cap=(first.toList++bW (cv e) c.args.toList++cap.toList).toArray:=by apply Array.toList_inj.1;simp[pe]
     rw[ah]
    have enter:∀ (g:FuncId) (first cap:Array x1),cv e x= .func (.func g) first cap→Enters P g→
      (execOp (cv e) o).run P w= .ok (.enter g (first.toList++bW (cv e) c.args.toList++cap.toList).toArray) w:=by
     intro g first cap U ad
     rw[ag g first cap U,ad]
    have go:∀ (g:FuncId) (first cap:Array x1),cv e x= .func (.func g) first cap→
      (bif free.1 then fL P g (first.toList++bW (cv e) c.args.toList++cap.toList) w fun v w'=>K (dp e o.dst (.v v)) w'
       else af P g (first.toList++bW (cv e) c.args.toList++cap.toList) w fun v w'=>K (dp e o.dst (.v v)) w')→
      o.wpIn (dB r) 0 P a w (ev N free K o a w) Q:=by
     intro g first cap U h
     obtain⟨fr,au⟩:=free;cases fr with
     |true=>
      rcases h with⟨ad,ai⟩|⟨v,w',O,V⟩
      ·refine⟨fun _ _=>trivial,?_⟩;rw[U2.semAt_eq _ _ _ (by simp[I]),ie J W (by simp[I])];rw[enter g first cap U ad];exact um J aa (ai.mono fun ae w' ⟨v,h1,aj⟩=>⟨v,h1,(fun h=>by cases h),aj⟩)
      ·rw[←ag g first cap U] at O;exact nm J W (by simp[I]) (by simp[I]) O (ev.of V J aa rfl fun h=>by cases h)
     |false=>
      rcases h with⟨ad,ai⟩|⟨v,w',O,Y,V⟩
      ·refine⟨fun _ _=>trivial,?_⟩;rw[U2.semAt_eq _ _ _ (by simp[I]),ie J W (by simp[I])];rw[enter g first cap U ad];exact um J aa (ai.mono fun ae w' ⟨v,h1,Y,aj⟩=>⟨v,h1,fun _=>Y.b,aj⟩)
      ·rw[←ag g first cap U] at O;exact nm J W (by simp[I]) (by simp[I]) O (ev.of V J aa rfl fun _=>Y.b)
    have ak:pf P free.1 (cv e x) (bW (cv e) c.args.toList) w (fun v w'=>K (dp e o.dst (.v v)) w')→
      o.wpIn (dB r) 0 P a w (ev N free K o a w) Q:=by
     intro h;unfold pf at h;split at h
     ·rename_i g first cap U
      exact go g first cap U h
     ·rename_i l first cap U
      obtain⟨an,fn,tmps,al,body,ao,ap⟩:=h;refine⟨fun _ _=>trivial,?_⟩;rw[U2.semAt_eq _ _ _ (by simp[I]),ie J W (by simp[I])];have:(execOp (cv e) o).run P w= .ok (.round l fn tmps al body) w:=by
       rw[←step {target:=.fn (.yield l) cap,args:=first++c.args.map (cv e)} _ U rfl,←ao];have ah:(first.toList++bW (cv e) c.args.toList).toArray=first++c.args.map (cv e):=by apply Array.toList_inj.1;simp[pe]
       rw[ah];rfl
      rw[this,U2.uponIn_round];refine⟨re _ _,?_⟩;have aq:RoundIn (dB r) (0-1) P l fn tmps al body w fun ae w'=>∃ v,ae= .returned v∧K (dp e o.dst (.v v)) w':=ap;refine RoundIn.mono aq ?_;rintro ae w' ⟨v,rfl,V⟩;exact ev.of V J aa rfl fun h=>by rw[an] at h;cases h
     ·exact h.elim
    cases x with
    |func f=>exact go f #[] #[] rfl (by simpa using h)
    |tmp t=>exact ak h
    |const v=>exact ak h
    |global g=>exact ak h
   |invoke x m=>rw[ab] at h;exact h.elim
  |next x str=>
   rw[I] at h;obtain⟨v,w',O,Y,V⟩:=h;refine nm J W (by simp[I]) (by simp[I]) (v:=v) (w':=w') ?_ (ev.of V J aa rfl Y);rw[AT _ _ o.type] at O;unfold execOp;simp only[I,X2,O,X3,X8]
  |_=>
   rw[I] at h
   first
    |(simp only[nl,rg] at h;done)
    |(obtain⟨v,w',O,Y,V⟩:=h
      exact nm J W (by simp[I]) (by simp[I]) (rh P (by rw[I];rfl) O) (ev.of V J aa rfl fun _=>Y.b))
    |(obtain⟨v,w',O,Y,V⟩:=h
      exact AX J W (by simp[I]) (by simp[I]) (AU P (by rw[I];rfl) O) (ev.of V J aa rfl fun _=>Y.b))
theorem pg {free:eJ} {K:Env→x2→Prop} {Q:Exit→Act→x2→Prop} (h:ma P free o e w K) (J:T2 N e a) (O:hN N o.dst=true):
  o.wpIn (dB r) 0 P a w (ev N free K o a w) Q:=by
 unfold ma at h;cases U:hv o with
 |false=>rw[U] at h;exact AY h J O
 |true=>
  rw[U] at h;have h:jA P o e w (fun I _=>K I w):=h;obtain⟨v,st,V,⟨I,W,Y⟩,aa,_⟩:=uq h J O;refine⟨fun _ _=>trivial,?_⟩;rw[U2.semAt_eq _ _ _ aa,V w (Ext.refl _),U2.uponIn_value];exact⟨I,v,W,Y,rfl,fun _=>ci.refl _ _⟩
end
section
variable {P:X5}
def Still {α:Type} (P:X5) (s:Sem α):Prop:=∀ w v J,s.run P w= .ok v J→J=w∧ ∀ w',s.run P w'= .ok v w'
theorem Still.pure {α:Type} (a:α):Still P (Pure.pure a:Sem α):=fun w v J h=>by
 rw[X8] at h;cases h;exact⟨rfl,fun w'=>by rw[X8]⟩
theorem Still.bind {α β:Type} {s:Sem α} {f:α→Sem β} (U:Still P s) (V:∀ a,Still P (f a)):Still P (s >>= f):=fun w v J h=>by
 rw[X2] at h;cases I:s.run P w with
 |halt x O=>rw[I] at h;simp[X3] at h
 |ok a O=>
  rw[I] at h;obtain⟨rfl,W⟩:=U w a O I;obtain⟨rfl,Y⟩:=V a _ v J h;exact⟨rfl,fun w'=>by rw[X2,W w'];exact Y w'⟩
theorem Still.never {α:Type} {s:Sem α} (h:∀ w v J,s.run P w≠ .ok v J):Still P s:=fun w v J h'=>absurd h' (h w v J)
theorem Still.stuck {α:Type} (m:String):Still P (stuck m:Sem α):=.never fun w v J h=>by simp[Go.stuck] at h
theorem Still.unsupported {α:Type} (m):Still P (unsupported m:Sem α):=.never fun w v J h=>by simp[Go.unsupported] at h
theorem Still.program:Still P program:=fun w v J h=>by cases h;exact⟨rfl,fun _=>rfl⟩
theorem Still.underlying (t:r8):Still P (underlying t):=Still.bind .program fun p=>by
 cases p.underlying t with
 |some d=>exact Still.pure d
 |none=>exact Still.stuck _
theorem Still.typeInfo (t:r8):Still P (typeInfo t):=Still.bind .program fun p=>by
 cases p.info? t with
 |some d=>exact Still.pure d
 |none=>exact Still.stuck _
theorem Still.sizeOf (t:r8):Still P (sizeOf t):=Still.bind (.typeInfo t) fun _=>Still.pure _
theorem Still.boundsPanic {α:Type} (k:o4) (x y:Int) (c:BoundsCode):Still P (boundsPanic k x y c:Sem α):=.never fun w v J h=>by
 have I:∀ (s:Sem Bool) (w:x2) (v:α) (J:x2),(s >>= fun b=>(runtimePanic (.bounds (Y0.wrap x) y b c):Sem α)).run P w≠ .ok v J:=by
  intro s w v J h;rw[X2] at h;cases O:s.run P w with
  |halt x U=>rw[O] at h;simp[X3] at h
  |ok a U=>rw[O] at h;simp[X3,Go.runtimePanic,Go.goPanic] at h
 unfold Go.boundsPanic at h;dsimp only at h;split at h
 ·exact I _ _ _ _ h
 ·exact I _ _ _ _ h
theorem Still.asIntOf (v:x1):Still P (asIntOf v):=by
 unfold Go.asIntOf;split
 ·exact Still.pure _
 ·exact Still.unsupported _
 ·exact Still.stuck _
theorem Still.sureAddr (v:x1):Still P (Instr.sureAddr v):=by
 unfold Instr.sureAddr;split
 ·exact Still.pure _
 ·exact Still.stuck _
theorem Still.extract (v:x1) (i:Nat):Still P (j6 v i):=by
 unfold j6;split
 ·split
  ·exact Still.pure _
  ·exact Still.stuck _
 ·exact Still.stuck _
theorem Still.indexAt (t:r8) (x i:x1):Still P (o6 t x i):=by
 have tail:∀ (t:r8) (k:o4) (i:Int) (base:Option Addr) (len:Nat) (I:r8),Still P (do
   let J:=len≤1&&(match ←Go.underlying t with| .array ..=>true|_=>false)
   match base with
   |some a=>
    if 0≤i∧i<len then Pure.pure (x1.pointer (some (a.add (i.toNat*(←Go.sizeOf I)))))
    else if J then Go.unsupported (.noEntry "op/indexAddr.an index out of range at an array of length 0 or 1 (ledger 616)")
    else Go.boundsPanic k i len .index
   |none=>Go.boundsPanic k i 0 .index):=by
  intro t k i base len I;refine .bind (.underlying t) fun d=>?_;cases base with
  |none=>exact Still.boundsPanic _ _ _ _
  |some a=>
   dsimp only;split
   ·exact .bind (.sizeOf I) fun _=>.pure _
   ·split <;> split <;> first|exact Still.unsupported _|exact Still.boundsPanic _ _ _ _
 unfold o6;refine .bind (.asIntOf i) fun O=>?_;refine .bind (.underlying t) fun d=>?_;split
 ·refine .bind (.sureAddr _) fun b=>?_;refine .bind (.pure _) fun y=>?_;exact tail _ _ _ _ _ _
 ·refine .bind (.pure _) fun y=>?_;exact tail _ _ _ _ _ _
 ·refine .bind (.stuck _) fun y=>?_;exact tail _ _ _ _ _ _
end
section
variable (P:X5)
def ph (free:eJ) (ops:Array U2) (o:U2) (e:Env) (w:x2) (K:Env→x2→Prop):Prop:=
 match o.guard with
 |none=>ma P free o e w K
 |some (j,b)=>
  match (ops[j]?).bind (·.dst) with
  |none=>False
  |some s=>
   match look e s with
   |some (.b c)=>bif xor c b then K (dp e o.dst .u) w else ma P free o e w K
   |some (.v x)=>
    Split x (bif b then ma P free o ((s,.b true)::e) w K else K (dp ((s,.b true)::e) o.dst .u) w)
     (bif b then K (dp ((s,.b false)::e) o.dst .u) w else ma P free o ((s,.b false)::e) w K)
   |some .u=>K (dp e o.dst .u) w
   |none=>False
def mb (free:eJ) (ops:Array U2):List U2→Env→x2→(Env→x2→Prop)→Prop
 |[],e,w,K=>K e w
 |o::l,e,w,K=>ph P free ops o e w fun I w'=>mb free ops l I w' K
def rj (ops:Array U2) (o:U2) (e:Env) (w:x2) (K:Env→(x2→Prop)→Prop):Prop:=
 match o.guard with
 |none=>jA P o e w K
 |some (j,b)=>
  match (ops[j]?).bind (·.dst) with
  |none=>False
  |some s=>
   match look e s with
   |some (.b c)=>bif xor c b then K (dp e o.dst .u) (fun _=>True) else jA P o e w K
   |some (.v x)=>
    Split x (bif b then jA P o ((s,.b true)::e) w K else K (dp ((s,.b true)::e) o.dst .u) (fun _=>True))
     (bif b then K (dp ((s,.b false)::e) o.dst .u) (fun _=>True) else jA P o ((s,.b false)::e) w K)
   |some .u=>K (dp e o.dst .u) (fun _=>True)
   |none=>False
def jC (o:U2):Bool:=
 match o.op with
 | .move _| .assign _| .extract .. | .indexAddr ..=>true
 |_=>false
def ko (ops:Array U2):List Nat→Option Nat
 |[]=>none
 |i::r=>match ops[i]? with
  |some o=>bif hv o then some i else ko ops r
  |none=>ko ops r
def rk (p:Nat→Prop):List Nat→Prop
 |[]=>True
 |[i]=>p i
 |i::r=>p i∧rk p r
def iO (bs:Array Nat) (j k:Nat):Bool:=!(U6 k j)&&(!((bs.getD j 0).testBit k)&& !((bs.getD k 0).testBit j))
def nn (same:Bool) (q:Nat) (w:x2) (st:x2→Prop) (I:List (x2×List (Nat×(x2→Prop)))):List (x2×List (Nat×(x2→Prop))):=
 match same,I with
 |true,g::r=>(g.1,(q,st)::g.2)::r
 |_,I=>(w,[(q,st)])::I
def np (bs:Array Nat) (j:Nat):List (Nat×(x2→Prop))→Bool
 |[]=>false
 |x::r=>iO bs j x.1||np bs j r
def mc (bs:Array Nat) (j:Nat) (w':x2):List (Nat×(x2→Prop))→Prop
 |[]=>True
 |x::r=>bif iO bs j x.1 then x.2 w'∧mc bs j w' r else mc bs j w' r
def kZ (bs:Array Nat) (j:Nat) (w':x2) (C:Prop):List (x2×List (Nat×(x2→Prop)))→Prop
 |[]=>C
 |g::r=>bif np bs j g.2 then (Ext g.1 w'∨mc bs j w' g.2)∧kZ bs j w' C r else kZ bs j w' C r
def kp (free:eJ) (ops:Array U2) (bs:Array Nat):Nat→Array Bool→Bool→List (x2×List (Nat×(x2→Prop)))→Env→x2→(Env→x2→Prop)→Prop
 |0,I,_,_,e,w,K=>match Region.ready .any ops I with|[]=>K e w|_=>False
 |fuel+1,I,same,J,e,w,K=>
  match Region.ready .any ops I with
  |[]=>K e w
  |i::r=>
   match ko ops (i::r) with
   |some q=>
    bif Region.free .any ops I q then
     match ops[q]? with
     |some o=>rj P ops o e w fun O st=>
       bif jC o then kp free ops bs fuel (I.setIfInBounds q true) same J O w K
       else kp free ops bs fuel (I.setIfInBounds q true) true (nn same q w st J) O w K
     |none=>False
    else False
   |none=>
    rk (fun j=>match ops[j]? with
     |some o=>ph P free ops o e w fun O w'=>kZ bs j w' (kp free ops bs fuel (I.setIfInBounds j true) false J O w' K) J
     |none=>False) (i::r)
def rl (free:eJ) (ops:Array U2) (e:Env) (w:x2) (K:Env→x2→Prop):Prop:=
 bif Region.noSelect ops then kp P free ops (Region.before ops) ops.size (Array.replicate ops.size false) false [] e w K else False
end
section
variable {P:X5} {N:Nat} {r:Option Nat} {free:eJ} {ops:Array U2}
theorem AZ {e:Env} {a:Act} (J:T2 N e a) {s:Nat} {c:Bool} (O:(ops[j]?).bind (·.dst)=some s) {x:dE} (U:look e s=some x) (V:x.val= .bool c):
  yielded ops a.tmps j=some c:=by
 have h:=J.2 s x U;rw[V] at h;have W:a.tmps[s]? =some (.bool c):=by
  rw[Array.getD_eq_getD_getElem?] at h;cases I:a.tmps[s]? with
  |none=>rw[I] at h;simp[undef] at h
  |some y=>rw[I] at h;simpa using h
 simp[yielded,O,W]
theorem pi {e:Env} {a:Act} (I:T2 N e a) {o:U2} {s:Nat} {b c:Bool} (J:o.guard=some (j,b)) (O:(ops[j]?).bind (·.dst)=some s) {x:dE}
  (U:look e s=some x) (V:x.val= .bool c):Region.wanted o (yielded ops a.tmps)= !(xor c b):=by
 simp only[Region.wanted,J,AZ I O U V];cases c <;> cases b <;> rfl
theorem ur {e:Env} {a:Act} (J:T2 N e a) {o:U2} {s:Nat} {b:Bool} (O:o.guard=some (j,b)) (U:(ops[j]?).bind (·.dst)=some s)
  (V:look e s=some .u):Region.wanted o (yielded ops a.tmps)=false:=by
 have h:=J.2 s .u V;have W:yielded ops a.tmps j=none:=by
  rw[Array.getD_eq_getD_getElem?] at h;unfold yielded;rw[U];cases I:a.tmps[s]? with
  |none=>simp[I]
  |some y=>
   rw[I] at h;simp only[U7,dE.val] at h;subst h;simp[I,undef]
 simp[Region.wanted,O,W]
theorem T2.lit {e:Env} {a:Act} (J:T2 N e a) {s:Nat} {x:dE} {c:Bool} (U:look e s=some x) (V:x.val= .bool c):T2 N ((s,.b c)::e) a:=by
 refine⟨J.1,fun t y I=>?_⟩;simp only[look] at I;cases O:U6 s t with
 |true=>
  have:s=t:=Nat.eq_of_beq_eq_true O;subst this;simp only[O,cond_true,Y3] at I;subst I;rw[J.2 s x U,V];rfl
 |false=>simp only[O,cond_false] at I;exact J.2 t y I
theorem ut {o:U2} {e:Env} {a:Act} {K:Env→x2→Prop} {Q:Exit→Act→x2→Prop} (h:ph P free ops o e w K) (I:T2 N e a) (J:hN N o.dst=true):
  (Region.wanted o (yielded ops a.tmps)=true∧o.wpIn (dB r) 0 P a w (ev N free K o a w) Q)∨
  (Region.wanted o (yielded ops a.tmps)=false∧ev N free K o a w (a.put o.dst undef) w):=by
 unfold ph at h;cases O:o.guard with
 |none=>rw[O] at h;exact .inl ⟨by simp[Region.wanted,O],pg h I J⟩
 |some ac=>
  obtain⟨j,b⟩:=ac;rw[O] at h;simp only at h;cases V:(ops[j]?).bind (·.dst) with
  |none=>rw[V] at h;exact h.elim
  |some s=>
   rw[V] at h;simp only at h;cases U:look e s with
   |none=>rw[U] at h;exact h.elim
   |some x=>
    rw[U] at h;cases x with
    |b c=>
     simp only at h;have hw:=pi I O V U (c:=c) rfl;cases ab:xor c b with
     |true=>
      rw[ab] at h hw;exact .inr ⟨hw,ev.of h I J rfl fun _=>ci.refl _ _⟩
     |false=>
      rw[ab] at h hw;exact .inl ⟨hw,pg h I J⟩
    |v y=>
     simp only at h;obtain⟨c,rfl,W,Y⟩:=h;have hw:=pi I O V U (c:=c) rfl;have aa:=I.lit U (c:=c) rfl;cases c with
     |true=>
      have W:=W rfl;cases b with
      |true=>exact .inl ⟨hw,pg W aa J⟩
      |false=>exact .inr ⟨hw,ev.of W aa J rfl fun _=>ci.refl _ _⟩
     |false=>
      have Y:=Y rfl;cases b with
      |true=>exact .inr ⟨hw,ev.of Y aa J rfl fun _=>ci.refl _ _⟩
      |false=>exact .inl ⟨hw,pg Y aa J⟩
    |u=>exact .inr ⟨ur I O V U,ev.of h I J rfl fun _=>ci.refl _ _⟩
def fp (D:List Nat) (a a':Act):Prop:=a'.defers=a.defers∧ ∀ t,t∉D→a'.tmps.getD t undef=a.tmps.getD t undef
theorem fp.refl (D:List Nat) (a:Act):fp D a a:=⟨rfl,fun _ _=>rfl⟩
theorem fp.trans {a b c:Act} (h:fp D a b) (k:fp D b c):fp D a c:=⟨k.1.trans h.1,fun t I=>(k.2 t I).trans (h.2 t I)⟩
theorem fp.put (a:Act) {d:Option Tmp} (v:x1) (I:∀ t,d=some t→t∈D):fp D a (a.put d v):=by
 cases d with
 |none=>exact fp.refl _ _
 |some s=>
  refine⟨rfl,fun t J=>?_⟩;have O:s≠t:=fun h=>J (h▸I s rfl);simp only[Act.put,Array.getD_eq_getD_getElem?];rw[Array.getElem?_setIfInBounds_ne O]
def kq (N:Nat) (free:eJ) (K:Env→x2→Prop) (D:List Nat) (a:Act) (w:x2) (a':Act) (w':x2):Prop:=
 ∃ I,K I w'∧T2 N I a'∧fp D a a'∧(free.1=false→ci free.2 w w')
theorem kq.step {K:Env→x2→Prop} {a I a':Act} {J:x2} (h:kq N free K D I J a' w') (U:fp D a I) (V:free.1=false→ci free.2 w J):
  kq N free K D a w a' w':=by
 obtain⟨W,h1,Y,aa,ab⟩:=h;exact⟨W,h1,Y,U.trans aa,fun O=>(V O).trans (ab O)⟩
def k0 (N:Nat) (l:List U2):Bool:=l.all fun o=>hN N o.dst
theorem A0 {K:Env→x2→Prop} {Q:Exit→Act→x2→Prop} (ac:∀ o∈ops.toList,∀ t,o.dst=some t→t∈D) (Y:k0 N ops.toList=true):
  ∀ (l:List U2) (k:Nat) (e:Env) (a:Act) (w:x2),(∀ j,l[j]? =ops[k+j]?)→mb P free ops l e w K→T2 N e a→
   (∀ a' w',kq N free K D a w a' w'→Q .normal a' w')→wpOpsIn (dB r) 0 P ops Q (List.range' k l.length) a w:=by
 intro l;induction l with
 |nil=>
  intro k e a w _ h I O;exact O a w ⟨e,h,I,fp.refl _ _,fun _=>ci.refl _ _⟩
 |cons o l ad=>
  intro k e a w aa h I O;have U:=aa 0;simp only[List.getElem?_cons_zero,Nat.add_zero] at U;have ab:o∈ops.toList:=by
   have:=U.symm;rw[←T5] at this;exact x5 this
  have ae:hN N o.dst=true:=by
   simp only[k0,List.all_eq_true] at Y;exact Y o ab
  have af:∀ j,l[j]? =ops[k+1+j]?:=fun j=>by
   have:=aa (j+1);rw[List.getElem?_cons_succ] at this;rw[this];congr 1;omega
  have next:∀ V J,ev N free (fun ag w'=>mb P free ops l ag w' K) o a w V J→wpOpsIn (dB r) 0 P ops Q (List.range' (k+1) l.length) V J:=by
   rintro V J ⟨ah,v,ai,aj,rfl,ak⟩;refine ad (k+1) ah _ J af ai aj fun a' w' al=>O a' w' (al.step (fp.put a v fun t am=>ac o ab t am) ak)
  simp only[mb] at h;show wpOpsIn (dB r) 0 P ops Q (k::List.range' (k+1) l.length) a w;unfold wpOpsIn;rw[←U];simp only;rcases ut (r:=r) (Q:=Q) h I ae with⟨hw,W⟩|⟨hw,W⟩
  ·rw[if_pos hw];exact U2.wpIn_mono next W
  ·rw[hw];exact⟨fun _ _=>trivial,next _ _ W⟩
theorem A1 {K:Env→x2→Prop} {Q:Exit→Act→x2→Prop} {id:Nat} {e:Env} {a:Act} (I:∀ o∈ops.toList,∀ t,o.dst=some t→t∈D)
  (J:k0 N ops.toList=true) (h:mb P free ops ops.toList e w K) (O:T2 N e a) (U:∀ a' w',kq N free K D a w a' w'→Q .normal a' w'):
  (Code.region id ops false).wpIn (dB r) 0 P Q a w:=by
 refine wpIn_region ?_;have:=A0 (r:=r) I J ops.toList 0 e a w (fun j=>by simp) h O U;rw[List.range_eq_range'];simpa using this
end
section
variable {P:X5} {N:Nat} {r:Option Nat} {free:eJ} {ops:Array U2} {Q:Exit→Act→x2→Prop}
theorem A2 (I:Option Nat) (o:U2) (J:∀ cs b,o.op≠ .select cs b) (a:Act) (d:Option Tmp) (v:x1) (h:∀ t,d=some t→t∉o.looksAt ops):
  o.semAt I (a.put d v).eval=o.semAt I a.eval:=by
 have he:=execOp_put o J a d v h;unfold U2.semAt;split
 ·rename_i l c O;have:resolve (a.put d v).eval c o.type=resolve a.eval c o.type:=resolve_congr c o.type fun x U=>Act.eval_put fun t V W=>h t V (by
   subst W;refine List.mem_append_left _ (List.mem_filterMap.2 ⟨.tmp t,?_,rfl⟩);rw[O];simpa[Op.operands] using U)
  rw[this]
 ·exact he
def kr (o:U2) (w0:x2) (st:x2→Prop) (w':x2):Prop:=jC o=true∨Ext w0 w'∨ ∃ J,st J∧Ext J w'
theorem kr.ext {o:U2} {w0:x2} {st:x2→Prop} (h:kr o w0 st w) (k:Ext w w'):kr o w0 st w':=by
 rcases h with h|h|⟨J,h1,I⟩
 ·exact .inl h
 ·exact .inr (.inl (h.trans k))
 ·exact .inr (.inr ⟨J,h1,I.trans k⟩)
theorem A3 {o:U2} (hm:jC o=true) {J:T0→x1} (h:(execOp J o).run P w= .ok (.value v) w):(execOp J o).run P w'= .ok (.value v) w':=by
 unfold jC at hm;split at hm
 ·rename_i x I;unfold execOp at h ⊢;simp only[I,X8,Result.ok.injEq,and_true] at h ⊢;exact h
 ·rename_i x I;unfold execOp at h ⊢;simp only[I,X8,Result.ok.injEq,and_true] at h ⊢;exact h
 ·rename_i x i I;unfold execOp at h ⊢;simp only[I] at h ⊢;exact ((Still.bind (Still.extract _ _) fun _=>Still.pure _) _ _ _ h).2 _
 ·rename_i t x i I;unfold execOp at h ⊢;simp only[I] at h ⊢;exact ((Still.bind (Still.indexAt _ _ _) fun _=>Still.pure _) _ _ _ h).2 _
 ·cases hm
def gB (P:X5) (ops:Array U2) (o:U2) (v:x1) (a:Act) (w0:x2→Prop):Prop:=
 (Region.wanted o (yielded ops a.tmps)=true∧(∀ c,o.op≠ .defer c)∧ ∀ w',w0 w'→(execOp a.eval o).run P w'= .ok (.value v) w')∨
 (Region.wanted o (yielded ops a.tmps)=false∧v=undef)
theorem gB.put {o I:U2} {a:Act} {w0:x2→Prop} (J:gB P ops o v a w0) (O:∀ cs b,o.op≠ .select cs b) (h:∀ t,I.dst=some t→t∉o.looksAt ops) (u:x1):
  gB P ops o v (a.put I.dst u) w0:=by
 unfold gB at*;rw[execOp_put o O a I.dst u h,wanted_put o a I.dst u h];exact J
theorem gB.go {i:Nat} {I:U2} {a:Act} {w0:x2→Prop} (hi:ops[i]? =some I) (J:gB P ops I v a w0) (hw:w0 w) {K:Act→x2→Prop} (h:K (a.put I.dst v) w):
  wpOpIn (dB r) 0 P ops Q i K a w:=by
 unfold wpOpIn;simp only[hi];rcases J with⟨h1,O,U⟩|⟨h1,rfl⟩
 ·rw[if_pos h1];refine⟨fun _ _=>trivial,?_⟩;rw[U2.semAt_eq _ _ _ O,U w hw,U2.uponIn_value];exact h
 ·rw[h1];exact⟨fun _ _=>trivial,h⟩
theorem A4 {I O:U2} (Y:ops[j]? =some O) (aa:I.apart ops O=true) (ab:∀ cs b,I.op≠ .select cs b) (ac:∀ cs b,O.op≠ .select cs b)
  (V:∀ c a w,¬Q (.panic c) a w) {K:Act→x2→Prop} {a:Act} {w:x2} {w0:x2→Prop} (J:gB P ops I v a w0) (h:wpOpIn (dB r) 0 P ops Q j K (a.put I.dst v) w):
  wpOpIn (dB r) 0 P ops Q j (fun a' w'=>gB P ops I v a' w0∧K (a'.put I.dst v) w') a w:=by
 obtain⟨h1,U,ad⟩:=U2.apart_spec aa;have ba:∀ (a:Act),gB P ops I v a w0→ ∀ u,gB P ops I v (a.put O.dst u) w0:=fun a J u=>J.put ab ad u;have ae:∀ d,gB P ops I v {a with defers:=d::a.defers} w0:=fun d=>J;unfold wpOpIn at*;simp only[Y] at*;rw[wanted_put O a I.dst v h1] at h;split
 ·rename_i hw;simp only[hw,if_true] at h;obtain⟨_,h⟩:=h;refine⟨fun _ _=>trivial,?_⟩;rw[A2 _ O ac a I.dst v h1] at h;generalize (O.semAt (dB r).round a.eval).run P w=res at*;cases res with
  |ok n w'=>
   cases n <;> simp only[U2.uponIn] at h ⊢
   case value u=>exact⟨ba a J u,by rw[←Act.put_comm a v u U];exact h⟩
   case skip=>exact⟨ba a J _,by rw[←Act.put_comm a v undef U];exact h⟩
   case defer d=>
    refine⟨ba _ (ae d) _,?_⟩;rw[←Act.put_comm _ v undef U,←Act.put_defers];exact h
   case enter f args=>
    refine⟨h.1,CallsIn.mono h.2 fun e W he=>?_⟩;cases e with
    |returned u=>exact⟨ba a J u,by rw[←Act.put_comm a v u U];exact he⟩
    |panicked c=>exact absurd he (V _ _ _)
    |outgrown=>exact he
   case row row args=>exact⟨h.1,RowsIn.mono h.2 fun u W he=>⟨ba a J u,by rw[←Act.put_comm a v u U];exact he⟩⟩
   case round l f tmps af body=>
    refine⟨h.1,RoundIn.mono h.2 fun e W he=>?_⟩;cases e with
    |returned u=>exact⟨ba a J u,by rw[←Act.put_comm a v u U];exact he⟩
    |panicked c=>exact absurd he (V _ _ _)
    |outgrown=>exact he
  |halt x w'=>
   cases x <;> simp only[U2.uponIn] at h ⊢
   case panic u=>exact absurd h (V _ _ _)
 ·rename_i hw;simp only[hw] at h;exact⟨fun _ _=>trivial,ba a J _,by rw[←Act.put_comm a v undef U];exact h.2⟩
def jD (ops:Array U2) (bs:Array Nat):Bool:=
 (X7 ops.size).all fun j=>(X7 ops.size).all fun k=>!((bs.getD j 0).testBit k)||
  (match ops[j]? with
   |some o=>o.after.any fun e=>Region.binds .any e&&Nat.blt e.on j&&(U6 e.on k||(bs.getD e.on 0).testBit k)
   |none=>false)
def Down (ops:Array U2) (I:Array Bool):Prop:=
 ∀ (x:Nat) (o:U2),ops[x]? =some o→I.getD x false=true→ ∀ e∈o.after,Region.binds .any e=true→I.getD e.on false=true
theorem uu {bs:Array Nat} (J:jD ops bs=true) {k:Nat} (U:j<ops.size) (V:k<ops.size) (h:(bs.getD j 0).testBit k=true):
  ∃ o,ops[j]? =some o∧ ∃ e∈o.after,Region.binds .any e=true∧e.on<j∧(e.on=k∨(bs.getD e.on 0).testBit k=true):=by
 simp only[jD,List.all_eq_true,List.mem_range] at J;have:=J j U k V;rw[h] at this;simp only[Y4,Bool.false_or] at this;cases O:ops[j]? with
 |none=>rw[O] at this;cases this
 |some o=>
  rw[O] at this;obtain⟨e,he,I⟩:=Array.any_eq_true'.1 this;simp only[V5,Nat.blt_eq,Bool.or_eq_true] at I;exact⟨o,rfl,e,he,I.1.1,I.1.2,I.2.imp (fun h=>Nat.eq_of_beq_eq_true h) id⟩
theorem A5 {bs:Array Nat} {I:Array Bool} (U:jD ops bs=true) (V:Down ops I):∀ (j k:Nat),j<ops.size→k<ops.size→I.getD j false=true→
  (bs.getD j 0).testBit k=true→I.getD k false=true:=by
 intro j;induction j using Nat.strongRecOn with
 |_ j W=>
  intro k Y J aa h;obtain⟨o,ab,e,he,ac,ad,h⟩:=uu U Y J h;have O:=V j o ab aa e he ac;rcases h with rfl|h
  ·exact O
  ·exact W e.on ad k (by omega) J O h
theorem uv {bs:Array Nat} {I:Array Bool} (J:jD ops bs=true) (Y:Down ops I) {k:Nat} (O:k<ops.size) (aa:j∈Region.ready .any ops I)
  (h:(bs.getD j 0).testBit k=true):I.getD k false=true:=by
 obtain⟨_,o,U,ab⟩:=mem_ready.1 aa;have ac:=(l7.1 U).1;obtain⟨o',V,e,he,ad,ae,h⟩:=uu J ac O h;rw[U] at V;cases V;have W:=ab e he ad;rcases h with rfl|h
 ·exact W
 ·exact A5 J Y e.on k (by omega) O W h
theorem Down.set {I:Array Bool} (Y:Down ops I) {i:Nat} (aa:i∈Region.ready .any ops I):Down ops (I.setIfInBounds i true):=by
 intro x o J O e he U;by_cases V:x=i
 ·subst V;obtain⟨_,o',W,ab⟩:=mem_ready.1 aa;rw[J] at W;cases W;exact getD_set_true (ab e he U)
 ·rw[getD_set_ne false (Ne.symm V)] at O;exact getD_set_true (Y x o J O e he U)
theorem rm {I:Array Bool} {k:Nat} (h:I.getD k true=false):I.getD k false=false:=by
 rcases Nat.lt_or_ge k I.size with h'|h'
 ·simpa[h'] using h
 ·simp[Array.getElem?_eq_none h'] at h
def kt (ops:Array U2) (i:Nat):Bool:=match ops[i]? with
 |some o=>hv o
 |none=>false
def ku (bs:Array Nat) (I:List (x2×List (Nat×(x2→Prop)))) (j:Nat) (w':x2):Prop:=∀ g∈I,∀ x∈g.2,iO bs j x.1=true→Ext g.1 w'∨x.2 w'
theorem rn {bs:Array Nat} {j:Nat} {w':x2}:∀ {l:List (Nat×(x2→Prop))},mc bs j w' l→ ∀ x∈l,iO bs j x.1=true→x.2 w'
 |[],_,_,h,_=>by cases h
 |y::l,h,x,I,hu=>by
  unfold mc at h;cases J:iO bs j y.1 with
  |true=>
   rw[J] at h;cases I with
   |head=>exact h.1
   |tail _ I=>exact rn h.2 x I hu
  |false=>
   rw[J] at h;cases I with
   |head=>rw[J] at hu;cases hu
   |tail _ I=>exact rn (show mc bs j w' l from h) x I hu
theorem uw {bs:Array Nat} {j:Nat}:∀ {l:List (Nat×(x2→Prop))},np bs j l=false→ ∀ x∈l,iO bs j x.1=false
 |[],_,_,h=>by cases h
 |y::l,h,x,I=>by
  simp only[np,T3] at h;cases I with
  |head=>exact h.1
  |tail _ I=>exact uw h.2 x I
theorem rp {bs:Array Nat} {j:Nat} {w':x2} {C:Prop}:∀ {W:List (x2×List (Nat×(x2→Prop)))},kZ bs j w' C W→C∧ku bs W j w'
 |[],h=>⟨h,fun g Y=>by cases Y⟩
 |g::r,h=>by
  unfold kZ at h;cases hu:np bs j g.2 with
  |true=>
   rw[hu] at h;obtain⟨h1,U⟩:=rp h.2;refine⟨h1,fun V I x O J=>?_⟩;cases I with
   |head=>exact h.1.imp id fun h=>rn h x O J
   |tail _ I=>exact U V I x O J
  |false=>
   rw[hu] at h;obtain⟨h1,U⟩:=rp (show kZ bs j w' C r from h);refine⟨h1,fun V I x O J=>?_⟩;cases I with
   |head=>rw[uw hu x O] at J;cases J
   |tail _ I=>exact U V I x O J
def rq (ops:Array U2) (bs:Array Nat) (I:List (x2×List (Nat×(x2→Prop)))) (j:Nat) (w w':x2):Prop:=(kt ops j=true→Ext w w')∧(kt ops j=false→ku bs I j w')
def gX (r:Option Nat) (P:X5) (ops:Array U2) (bs:Array Nat) (Q:Exit→Act→x2→Prop):Nat→Array Bool→List (x2×List (Nat×(x2→Prop)))→Act→x2→Prop
 |0,I,_,a,w=>Region.ready .any ops I=[]∧Q .normal a w
 |fuel+1,I,J,a,w=>(Region.ready .any ops I=[]→Q .normal a w)∧
  ∀ i∈Region.ready .any ops I,wpOpIn (dB r) 0 P ops Q i (fun a' w'=>rq ops bs J i w w'∧gX r P ops bs Q fuel (I.setIfInBounds i true) J a' w') a w
theorem gX.any {bs:Array Nat}:∀ (fuel:Nat) (I:Array Bool) (J:List (x2×List (Nat×(x2→Prop)))) (a:Act) (w:x2),gX r P ops bs Q fuel I J a w→wpAnyIn (dB r) 0 P .any ops Q fuel I a w
 |0,_,_,_,_,h=>h
 |fuel+1,_,_,_,_,h=>⟨h.1,fun i hi=>wpOpIn_mono (fun a' w' h'=>gX.any fuel _ _ a' w' h'.2) (h.2 i hi)⟩
theorem A6 {bs:Array Nat} {I:Array Bool} (J:jD ops bs=true) (O:Down ops I) {i:Nat} {W:U2} (hi:ops[i]? =some W)
  (U:i∈Region.ready .any ops I) (V:j∈Region.ready .any ops I) (Y:j≠i):iO bs j i=true:=by
 have aa:=(l7.1 hi).1;obtain⟨ab,af,ac,_⟩:=mem_ready.1 V;have ad:=(l7.1 ac).1;have ae:=(mem_ready.1 U).1;simp only[iO,V5,Bool.not_eq_true'];refine⟨?_,?_,?_⟩
 ·cases h:U6 i j with
  |true=>exact absurd (Nat.eq_of_beq_eq_true h).symm Y
  |false=>rfl
 ·cases h:(bs.getD j 0).testBit i with
  |true=>have:=uv J O aa V h;rw[rm ae] at this;cases this
  |false=>rfl
 ·cases h:(bs.getD i 0).testBit j with
  |true=>have:=uv J O ad U h;rw[rm ab] at this;cases this
  |false=>rfl
theorem gX.take {bs:Array Nat} (ao:jD ops bs=true) (ap:Region.noSelect ops=true) (aq:∀ c a w,¬Q (.panic c) a w) {i:Nat} {J:U2} (hi:ops[i]? =some J) (au:hv J=true)
  {w0:x2} {aa ev':List (x2×List (Nat×(x2→Prop)))} (af:∀ j w',ku bs ev' j w'→ku bs aa j w') {st:x2→Prop} (av:jC J=false→ ∀ j w',iO bs j i=true→ku bs ev' j w'→Ext w0 w'∨st w'):
  ∀ (fuel:Nat) (I:Array Bool) (a:Act) (w:x2),Down ops I→
   (∀ j W,ops[j]? =some W→j≠i→I.getD j true=false→(∀ e∈W.after,Region.binds .any e=true→e.on≠i)→J.apart ops W=true)→
   i∈Region.ready .any ops I→gB P ops J v a (kr J w0 st)→kr J w0 st w→
   gX r P ops bs Q fuel (I.setIfInBounds i true) ev' (a.put J.dst v) w→gX r P ops bs Q (fuel+1) I aa a w:=by
 have ag:=Region.noSelect_spec ap;have aw:kt ops i=true:=by simp[kt,hi,au]
 have gb:∀ (fuel:Nat) (I:Array Bool) (a:Act) (w:x2),gX r P ops bs Q fuel I ev' a w→gX r P ops bs Q fuel I aa a w:=by
  intro fuel;induction fuel with
  |zero=>intro I a w h;exact h
  |succ fuel ac=>intro I a w h;exact⟨h.1,fun j U=>wpOpIn_mono (fun a' w' h'=>⟨⟨h'.1.1,fun ad=>af _ _ (h'.1.2 ad)⟩,ac _ a' w' h'.2⟩) (h.2 j U)⟩
 have ah:∀ w,rq ops bs aa i w w:=fun w=>⟨fun _=>Ext.refl _,fun h=>by rw[aw] at h;cases h⟩;intro fuel;induction fuel with
 |zero=>
  intro I a w _ _ V ab hw H;refine⟨fun h=>(by rw[h] at V;cases V),fun j U=>?_⟩;by_cases O:j=i
  ·subst O;exact ab.go hi hw ⟨ah w,gb _ _ _ _ H⟩
  ·have:=ready_mono U O;rw[H.1] at this;cases this
 |succ fuel ac=>
  intro I a w ai aj V ab hw H;refine⟨fun h=>(by rw[h] at V;cases V),fun j U=>?_⟩;by_cases O:j=i
  ·subst O;exact ab.go hi hw ⟨ah w,gb _ _ _ _ H⟩
  ·have h1:=H.2 j (ready_mono U O);have hu:=A6 ao ai hi V U O;obtain⟨ak,W,ae,ax⟩:=mem_ready.1 U;have ay:∀ e∈W.after,Region.binds .any e=true→e.on≠i:=fun e he az aA=>by
    have h1:=ax e he az;rw[aA,rm (mem_ready.1 V).1] at h1;cases h1
   have aB:=A4 ae (aj j W ae O ak ay) (fun cs b=>ag i J cs b hi) (fun cs b=>ag j W cs b ae) aq ab h1;have aC:∀ k ok,ops[k]? =some ok→k≠i→(I.setIfInBounds j true).getD k true=false→
     (∀ e∈ok.after,Region.binds .any e=true→e.on≠i)→J.apart ops ok=true:=fun k ok aD aE al aF=>by
    refine aj k ok aD aE ?_ aF;by_cases am:j=k
    ·subst am;exact ak
    ·rw[getD_set_ne true am] at al;exact al
   refine wpOpIn_mono (fun a' w' Y=>⟨⟨Y.2.1.1,fun ad=>af _ _ (Y.2.1.2 ad)⟩,ac (I.setIfInBounds j true) a' w' (ai.set U) aC (ready_mono V (Ne.symm O)) Y.1 ?_ ?_⟩) aB
   ·cases hm:jC J with
    |true=>exact .inl hm
    |false=>
     cases an:kt ops j with
     |true=>exact hw.ext (Y.2.1.1 an)
     |false=>exact .inr ((av hm j w' hu (Y.2.1.2 an)).imp id fun h=>⟨w',h,Ext.refl _⟩)
   ·rw[Array.setIfInBounds_comm _ _ O];exact Y.2.2
theorem ux {p:Nat→Prop}:∀ {l:List Nat},rk p l→ ∀ i∈l,p i
 |[],_,_,h=>by cases h
 |[i],h,j,I=>by cases I with
  |head=>exact h
  |tail _ h=>cases h
 |i::k::l,h,j,I=>by
  obtain⟨h1,J⟩:=h;cases I with
  |head=>exact h1
  |tail _ I=>exact ux J j I
theorem rr:∀ {l:List Nat} {q:Nat},ko ops l=some q→q∈l∧ ∃ o,ops[q]? =some o∧hv o=true
 |[],q,h=>by cases h
 |i::l,q,h=>by
  simp only[ko] at h;cases I:ops[i]? with
  |none=>rw[I] at h;obtain⟨h1,J⟩:=rr h;exact⟨.tail _ h1,J⟩
  |some o=>
   rw[I] at h;simp only at h;cases O:hv o with
   |true=>rw[O] at h;simp only[cond_true,Y3] at h;subst h;exact⟨.head _,o,I,O⟩
   |false=>rw[O] at h;obtain⟨h1,J⟩:=rr h;exact⟨.tail _ h1,J⟩
theorem A7 {o:U2} {e:Env} {a:Act} {K:Env→(x2→Prop)→Prop} (h:rj P ops o e w K) (I:T2 N e a) (ae:hN N o.dst=true):
  ∃ v st,gB P ops o v a (kr o w st)∧ ∃ O,K O st∧T2 N O (a.put o.dst v):=by
 unfold rj at h;have Y:∀ {e:Env},T2 N e a→jA P o e w K→Region.wanted o (yielded ops a.tmps)=true→ ∃ v st,gB P ops o v a (kr o w st)∧ ∃ O,K O st∧T2 N O (a.put o.dst v):=fun I h hw=>by
  obtain⟨v,st,h1,af,ag,ah⟩:=uq h I ae;exact⟨v,st,.inl ⟨hw,ag,fun w' aa=>aa.elim (fun hm=>A3 hm (h1 w (Ext.refl w))) fun h=>h.elim (h1 w') fun⟨J,ai,aj⟩=>ah J ai w' aj⟩,af⟩
 have skip:∀ {e:Env},T2 N e a→K (dp e o.dst .u) (fun _=>True)→Region.wanted o (yielded ops a.tmps)=false→ ∃ v st,gB P ops o v a (kr o w st)∧ ∃ O,K O st∧T2 N O (a.put o.dst v):=fun I h hw=>
  ⟨undef,_,.inr ⟨hw,rfl⟩,_,h,I.put ae rfl⟩
 cases U:o.guard with
 |none=>rw[U] at h;exact Y I h (by simp[Region.wanted,U])
 |some ak=>
  obtain⟨j,b⟩:=ak;rw[U] at h;simp only at h;cases W:(ops[j]?).bind (·.dst) with
  |none=>rw[W] at h;exact h.elim
  |some s=>
   rw[W] at h;simp only at h;cases V:look e s with
   |none=>rw[V] at h;exact h.elim
   |some x=>
    rw[V] at h;cases x with
    |b c=>
     simp only at h;have hw:=pi I U W V (c:=c) rfl;cases aa:xor c b with
     |true=>rw[aa] at h hw;exact skip I h hw
     |false=>rw[aa] at h hw;exact Y I h hw
    |v y=>
     simp only at h;obtain⟨c,rfl,ab,ac⟩:=h;have hw:=pi I U W V (c:=c) rfl;have ad:=I.lit V (c:=c) rfl;cases c with
     |true=>
      have ab:=ab rfl;cases b with
      |true=>exact Y ad ab hw
      |false=>exact skip ad ab hw
     |false=>
      have ac:=ac rfl;cases b with
      |true=>exact skip ad ac hw
      |false=>exact Y ad ac hw
    |u=>exact skip I h (ur I U W V)
theorem rt:∀ {l:List Nat},ko ops l=none→ ∀ j∈l,kt ops j=false
 |[],_,_,h=>by cases h
 |i::l,h,j,I=>by
  simp only[ko] at h;cases J:ops[i]? with
  |none=>
   rw[J] at h;cases I with
   |head=>simp[kt,J]
   |tail _ I=>exact rt h j I
  |some o=>
   rw[J] at h;simp only at h;cases O:hv o with
   |true=>rw[O] at h;cases h
   |false=>
    rw[O] at h;cases I with
    |head=>simp[kt,J,O]
    |tail _ I=>exact rt h j I
theorem A8 {bs:Array Nat} {same:Bool} {q:Nat} {st:x2→Prop} {I:List (x2×List (Nat×(x2→Prop)))} (U:same=true→ ∃ ks r,I=(w,ks)::r):
  (∀ j w',ku bs (nn same q w st I) j w'→ku bs I j w')∧(∀ j w',iO bs j q=true→ku bs (nn same q w st I) j w'→Ext w w'∨st w')∧ ∃ ks r,nn same q w st I=(w,ks)::r:=by
 cases same with
 |true=>
  obtain⟨ks,r,rfl⟩:=U rfl;refine⟨fun j w' h g J x O hu=>?_,fun j w' hu h=>h (w,(q,st)::ks) (.head _) (q,st) (.head _) hu,_,_,rfl⟩;cases J with
  |head=>exact h (w,(q,st)::ks) (.head _) x (.tail _ O) hu
  |tail _ J=>exact h g (.tail _ J) x O hu
 |false=>
  refine⟨fun j w' h g J x O hu=>h g (.tail _ J) x O hu,fun j w' hu h=>h (w,[(q,st)]) (.head _) (q,st) (.head _) hu,_,_,rfl⟩
theorem Ba {K:Env→x2→Prop} {bs:Array Nat} (ap:jD ops bs=true) (aq:Region.noSelect ops=true) (au:∀ c a w,¬Q (.panic c) a w)
  (aj:∀ o∈ops.toList,∀ t,o.dst=some t→t∈D) (av:k0 N ops.toList=true):
  ∀ (fuel:Nat) (O:Array Bool) (same:Bool) (U:List (x2×List (Nat×(x2→Prop)))) (e:Env) (a:Act) (w:x2),Down ops O→(same=true→ ∃ ks r,U=(w,ks)::r)→
   kp P free ops bs fuel O same U e w K→T2 N e a→
   (∀ a' w',kq N free K D a w a' w'→Q .normal a' w')→gX r P ops bs Q fuel O U a w:=by
 have ae:∀ {j:Nat} {o:U2},ops[j]? =some o→o∈ops.toList:=fun h=>by
  rw[←T5] at h;exact x5 h
 have ok:∀ {j:Nat} {o:U2},ops[j]? =some o→hN N o.dst=true:=fun h=>by
  simp only[k0,List.all_eq_true] at av;exact av _ (ae h)
 intro fuel;induction fuel with
 |zero=>
  intro O same U e a w aa ak h ac ab;unfold kp at h;cases W:Region.ready .any ops O with
  |nil=>rw[W] at h;exact⟨W,ab a w ⟨e,h,ac,fp.refl _ _,fun _=>ci.refl _ _⟩⟩
  |cons i l=>rw[W] at h;exact h.elim
 |succ fuel al=>
  intro O same U e a w aa ak h ac ab;unfold kp at h;cases W:Region.ready .any ops O with
  |nil=>
   rw[W] at h;refine⟨fun _=>ab a w ⟨e,h,ac,fp.refl _ _,fun _=>ci.refl _ _⟩,fun i hi=>?_⟩;rw[W] at hi;cases hi
  |cons i l=>
   rw[W] at h;simp only at h;cases af:ko ops (i::l) with
   |some q=>
    rw[af] at h;simp only at h;obtain⟨aB,o,I,aw⟩:=rr af;cases ag:Region.free .any ops O q with
    |false=>rw[ag] at h;exact h.elim
    |true=>
     rw[ag,I] at h;simp only[cond_true] at h;obtain⟨v,st,ax,ah,Y,ay⟩:=A7 h ac (ok I);have ai:q∈Region.ready .any ops O:=by rw[W];exact aB
     cases hm:jC o with
     |true=>
      rw[hm] at Y;refine gX.take ap aq au I aw (w0:=w) (ev':=U) (fun _ _ h=>h) (fun h=>by rw[hm] at h;cases h) fuel O a w aa (Region.free_spec I ag) ai ax (.inr (.inl (Ext.refl _))) ?_;exact al _ same U ah _ w (aa.set ai) ak Y ay fun a' w' V=>ab a' w' (V.step (fp.put a v fun t ad=>aj o (ae I) t ad) fun _=>ci.refl _ _)
     |false=>
      rw[hm] at Y;obtain⟨h1,aC,aD⟩:=A8 (bs:=bs) (q:=q) (st:=st) ak;refine gX.take ap aq au I aw (w0:=w) (ev':=nn same q w st U) h1 (fun _=>aC) fuel O a w aa (Region.free_spec I ag) ai ax (.inr (.inl (Ext.refl _))) ?_;exact al _ true _ ah _ w (aa.set ai) (fun _=>aD) Y ay fun a' w' V=>ab a' w' (V.step (fp.put a v fun t ad=>aj o (ae I) t ad) fun _=>ci.refl _ _)
   |none=>
    rw[af] at h;simp only at h;refine⟨(fun az=>by rw[W] at az;cases az),fun j aA=>?_⟩;have am:=aA;rw[W] at am;have aE:=rt af j am;have V:=ux h j am;cases I:ops[j]? with
    |none=>rw[I] at V;exact V.elim
    |some o=>
     rw[I] at V;simp only at V;unfold wpOpIn;simp only[I];have next:∀ an J,ev N free (fun ah w'=>kZ bs j w' (kp P free ops bs fuel (O.setIfInBounds j true) false U ah w' K) U) o a w an J→
       rq ops bs U j w J∧gX r P ops bs Q fuel (O.setIfInBounds j true) U an J:=by
      rintro an J ⟨aF,v,Y,aG,rfl,aH⟩;obtain⟨Y,aI⟩:=rp Y;exact⟨⟨fun h=>(by rw[aE] at h;cases h),fun _=>aI⟩,
       al _ false U aF _ J (aa.set aA) (fun h=>by cases h) Y aG fun a' w' V=>ab a' w' (V.step (fp.put a v fun t ad=>aj o (ae I) t ad) aH)⟩
     rcases ut (r:=r) (Q:=Q) V ac (ok I) with⟨hw,ao⟩|⟨hw,ao⟩
     ·rw[if_pos hw];exact U2.wpIn_mono next ao
     ·rw[hw];exact⟨fun _ _=>trivial,next _ _ ao⟩
theorem Bb (hm:P.follows .mixedOrders=true) {K:Env→x2→Prop} {id:Nat} {e:Env} {a:Act} (O:jD ops (Region.before ops)=true) (U:∀ c a w,¬Q (.panic c) a w)
  (V:∀ o∈ops.toList,∀ t,o.dst=some t→t∈D) (W:k0 N ops.toList=true)
  (h:∀ w',Ext w w'→Ext w' w→cP w w'→rl P free ops e w' K) (Y:T2 N e a) (aa:∀ a' w',kq N free K D a w a' w'→Q .normal a' w'):
  (Code.region id ops true).wpIn (dB r) 0 P Q a w:=by
 refine wpIn_region_any hm ?_;have h:=h {w with drawn:=w.drawn+1} (pb w _) ⟨o7 _,fun _ _ h _=>h⟩ (ni w _ (Nat.le_succ _));unfold rl at h;cases I:Region.noSelect ops with
 |false=>rw[I] at h;exact h.elim
 |true=>
  rw[I] at h;refine gX.any _ _ _ _ _ (Ba O I U V W ops.size _ false [] e a _ ?_ (fun h=>by cases h) h Y fun a' w' ab=>aa a' w' (ab.step (fp.refl _ _) fun _=>(ni w _ (Nat.le_succ _)).b));intro x o _ J;rcases Nat.lt_or_ge x ops.size with h'|h'
  ·simp[h'] at J
  ·simp[h'] at J
end
def hx (t:Nat):List Nat→Bool
 |[]=>false
 |s::r=>bif U6 s t then true else hx t r
theorem ru {t:Nat}:∀ {l:List Nat},hx t l=true↔t∈l
 |[]=>by simp[hx]
 |s::r=>by
  simp only[hx];cases h:U6 s t with
  |true=>simp[Nat.eq_of_beq_eq_true h]
  |false=>
   have:=Nat.ne_of_beq_eq_false h;simp[ru (l:=r),Ne.symm this]
def k1:List U2→List Nat
 |[]=>[]
 |o::l=>match o.dst with
  |some d=>d::k1 l
  |none=>k1 l
def tmpsOf:List T0→List Nat
 |[]=>[]
 | .tmp t::l=>t::tmpsOf l
 |_::l=>tmpsOf l
def Bc (ops:Array U2) (o:U2):List Nat:=
 match o.guard with
 |some (j,_)=>match (ops[j]?).bind (·.dst) with
  |some s=>[s]
  |none=>[]
 |none=>[]
def pj (D:List Nat):List Nat→List Nat
 |[]=>[]
 |t::r=>bif hx t D then pj D r else t::pj D r
def rv (D:List Nat):List Nat→List Nat
 |[]=>[]
 |t::r=>bif hx t D then t::rv D r else rv D r
def uy (ops:Array U2):List U2→List Nat→List Nat
 |[],_=>[]
 |o::l,D=>pj D (tmpsOf (opsOf o.op)++Bc ops o)++uy ops l (match o.dst with
  |some d=>d::D
  |none=>D)
def cX:Code→List Nat
 | .region _ ops _=>k1 ops.toList
 | .seq a b=>cX a++cX b
 | .cond _ a b=>cX a++cX b
 | .block _ c=>cX c
 | .loop c=>cX c
 | .scope c=>cX c
 |_=>[]
def hP (id:Nat):Code→Nat
 | .seq a b=>hP id a+hP id b
 | .cond _ a b=>hP id a+hP id b
 | .block _ c=>hP id c
 | .loop c=>hP id c
 | .scope c=>hP id c
 | .exit i=>bif U6 i id then 1 else 0
 | .rangeFunc _ _ _ b=>hP id b
 |_=>0
def Bd (ops:Array U2):Bool:=
 let bs:=Region.before ops;let I:=fun(i:Nat)=>match ops[i]? with|some o=>!(hv o)|none=>false
 (X7 ops.size).any fun j=>I j&&((X7 j).any fun i=>I i&&(!((bs.getD j 0).testBit i)&& !((bs.getD i 0).testBit j)))
def iP:Code→Nat
 | .region _ ops I=>bif (I&&Bd ops)||ops.any (·.guard.isSome) then 2 else 1
 | .seq a b=>bif U6 (iP a) 0 then 0 else iP b
 | .cond _ a b=>iP a+iP b
 | .block id c=>iP c+hP id c
 | .loop _=>0
 | .scope c=>iP c
 | .exit _=>0
 | .goto _=>0
 | .ret=>0
 | .refuse _=>0
 |_=>1
def jE:Code→List Nat
 | .region _ ops _=>k1 ops.toList
 | .seq a b=>jE a++jE b
 | .cond _ a b=>bif U6 (iP a) 0 then jE b else bif U6 (iP b) 0 then jE a else rv (jE a) (jE b)
 | .block id c=>bif U6 (hP id c) 0 then jE c else[]
 | .scope c=>jE c
 |_=>[]
def reads:Code→List Nat
 | .region _ ops _=>uy ops ops.toList []
 | .seq a b=>reads a++pj (jE a) (reads b)
 | .cond c a b=>tmpsOf [c]++(reads a++reads b)
 | .block _ c=>reads c
 | .loop c=>reads c
 | .scope c=>reads c
 | .rangeFunc f _ a b=>tmpsOf [f]++(reads a++reads b)
 |_=>[]
def ig:Code→Bool
 | .seq a b=>ig a||ig b
 | .cond _ a b=>ig a||ig b
 | .block _ c=>ig c
 | .loop c=>ig c
 | .scope c=>ig c
 | .rangeFunc ..=>true
 |_=>false
def wf (N:Nat):Code→Bool
 | .region _ ops I=>k0 N ops.toList&&(!I||jD ops (Region.before ops))
 | .seq a b=>wf N a&&wf N b
 | .cond _ a b=>wf N a&&wf N b
 | .block _ c=>wf N c
 | .loop c=>wf N c
 | .scope c=>wf N c
 | .rangeFunc _ J a b=>(J.toList.all fun t=>Nat.blt t N)&&(wf N a&&wf N b)
 |_=>true
def k2:Nat→Type→Type
 |0,β=>β
 |n+1,β=>x1→k2 n β
def app {β:Type}:(n:Nat)→k2 n β→List x1→β
 |0,f,_=>f
 |n+1,f,[]=>app n (f undef) []
 |n+1,f,v::r=>app n (f v) r
def lam {β:Type}:(n:Nat)→(List x1→β)→k2 n β
 |0,f=>f []
 |n+1,f=>fun v=>lam n fun r=>f (v::r)
def pk:(n:Nat)→k2 n Prop→Prop
 |0,p=>p
 |n+1,p=>∀ v,pk n (p v)
theorem pm {β:Type}:∀ (n:Nat) (f:List x1→β) (vs:List x1),vs.length=n→app n (lam n f) vs=f vs
 |0,f,[],_=>rfl
 |n+1,f,v::r,h=>by
  simp only[app,lam];exact pm n _ r (by simpa using h)
theorem pn:∀ (n:Nat) (p:k2 n Prop) (vs:List x1),pk n p→app n p vs
 |0,_,_,h=>h
 |n+1,_,[],h=>pn n _ [] (h undef)
 |n+1,_,v::r,h=>pn n _ r (h v)
def Be (n:Nat) (vs:List x1) (w:x2) (B:List x1→x2→(List x1→x2→Prop)→Prop):Prop:=
 ∃ (I:k2 n (x2→Prop)) (J:k2 n (x2→Nat)),app n I vs w∧
  pk n (lam n fun us=>∀ w',app n I us w'→B us w' fun O U=>app n I O U∧app n J O U<app n J us w')
def Bf (w:x2) (B:x2→(x2→Prop)→Prop):Prop:=
 ∃ (I:x2→Prop) (J:x2→Nat),I w∧ ∀ w',I w'→B w' fun O=>I O∧J O<J w'
def bJ (a:x1) (w:x2) (B:x1→x2→(x1→x2→Prop)→Prop):Prop:=
 ∃ (I:x1→x2→Prop) (J:x1→x2→Nat),I a w∧ ∀ a w',I a w'→B a w' fun a' O=>I a' O∧J a' O<J a w'
def bt (a b:x1) (w:x2) (B:x1→x1→x2→(x1→x1→x2→Prop)→Prop):Prop:=
 ∃ (I:x1→x1→x2→Prop) (J:x1→x1→x2→Nat),I a b w∧ ∀ a b w',I a b w'→B a b w' fun a' O U=>I a' O U∧J a' O U<J a b w'
def jF (a b c:x1) (w:x2) (B:x1→x1→x1→x2→(x1→x1→x1→x2→Prop)→Prop):Prop:=
 ∃ (I:x1→x1→x1→x2→Prop) (J:x1→x1→x1→x2→Nat),I a b c w∧
  ∀ a b c w',I a b c w'→B a b c w' fun a' O U V=>I a' O U V∧J a' O U V<J a b c w'
def po (a b c d:x1) (w:x2) (B:x1→x1→x1→x1→x2→(x1→x1→x1→x1→x2→Prop)→Prop):Prop:=
 ∃ (I:x1→x1→x1→x1→x2→Prop) (J:x1→x1→x1→x1→x2→Nat),I a b c d w∧
  ∀ a b c d w',I a b c d w'→B a b c d w' fun a' O U V W=>I a' O U V W∧J a' O U V W<J a b c d w'
def md (a b c d e:x1) (w:x2) (B:x1→x1→x1→x1→x1→x2→(x1→x1→x1→x1→x1→x2→Prop)→Prop):Prop:=
 ∃ (I:x1→x1→x1→x1→x1→x2→Prop) (J:x1→x1→x1→x1→x1→x2→Nat),I a b c d e w∧ ∀ a b c d e w',I a b c d e w'→B a b c d e w' fun a' O U V W Y=>I a' O U V W Y∧J a' O U V W Y<J a b c d e w'
def Bg (a b c d e f:x1) (w:x2) (B:x1→x1→x1→x1→x1→x1→x2→(x1→x1→x1→x1→x1→x1→x2→Prop)→Prop):Prop:=
 ∃ (I:x1→x1→x1→x1→x1→x1→x2→Prop) (J:x1→x1→x1→x1→x1→x1→x2→Nat),I a b c d e f w∧ ∀ a b c d e f w',I a b c d e f w'→B a b c d e f w' fun a' O U V W Y aa=>I a' O U V W Y aa∧J a' O U V W Y aa<J a b c d e f w'
def be {α:Type} (I:α) (B:α→Prop):Prop:=B I
def uz (w:x2) (K:x2→Prop):Prop:=∀ w',Ext w w'→Ext w' w→K w'
def Over (w:x2) (K:x2→Prop):Prop:=∀ w',Ext w w'→Ext w' w→eX w w'→K w'
def cj (w:x2) (K:x2→Prop):Prop:=∀ w',Ext w w'→Ext w' w→cP w w'→K w'
def ih (e:Env):List Nat→Option (List x1)
 |[]=>some []
 |t::r=>match look e t with
  |some x=>match ih e r with
   |some vs=>some (x.val::vs)
   |none=>none
  |none=>none
def hy:List Nat→List x1→Env→Env
 |t::r,v::vs,e=>(t,.v v)::hy r vs e
 |_,_,e=>e
def jG (D:List Nat):Env→Env
 |[]=>[]
 |(t,x)::r=>bif hx t D then jG D r else (t,x)::jG D r
def nq (N:Nat) (D R:List Nat):List Nat:=(X7 N).filter fun t=>hx t D&&hx t R
def nr (N:Nat) (D R:List Nat) (e:Env):List Nat:=(X7 N).filter fun t=>hx t D&&((look e t).isSome&&hx t R)
def hz:Code→Bool
 | .seq a b=>hz a||hz b
 | .cond _ a b=>hz a||hz b
 | .block _ c=>hz c
 | .loop c=>hz c
 | .scope c=>hz c
 | .rangeFunc _ _ a b=>hz a||hz b
 | .ret=>true
 |_=>false
def Bh (i:Nat) (l:List Nat):List Nat:=bif hx i l then l else i::l
def pp:List Nat→List Nat→List Nat
 |[],l=>l
 |i::r,l=>Bh i (pp r l)
def rx (i:Nat):List Nat→List Nat
 |[]=>[]
 |j::r=>bif U6 i j then rx i r else j::rx i r
def hQ:Code→List Nat
 | .seq a b=>pp (hQ a) (hQ b)
 | .cond _ a b=>pp (hQ a) (hQ b)
 | .block id c=>rx id (hQ c)
 | .loop c=>hQ c
 | .scope c=>hQ c
 | .rangeFunc _ _ a b=>pp (hQ a) (hQ b)
 | .exit i=>[i]
 |_=>[]
def ns:List (Nat×(x2→Prop))→Nat→x2→Prop
 |[],_,_=>False
 |(j,k)::r,i,w=>(i=j∧k w)∨ns r i w
def ry (K:Nat→x2→Prop):List Nat→List (Nat×(x2→Prop))
 |[]=>[]
 |i::r=>(i,fun w=>K i w)::ry K r
theorem uA {K:Nat→x2→Prop}:∀ {l:List Nat} {i:Nat} {w:x2},ns (ry K l) i w→K i w
 |[],_,_,h=>h.elim
 |j::r,i,w,h=>by
  rcases h with⟨rfl,h⟩|h
  ·exact h
  ·exact uA h
section
variable (P:X5)
def nt {U:Type} (G:Bool) (g:FuncId) (cap:List x1) (ab:U) (ac:U→Prop) (ad:U→List x1→U→x2→Prop) (Y:x2→Prop):Prop:=
 Enters P g∧ ∀ (l:Nat) (O V:U→x2→Prop) (w:x2),
  (∀ k J I,Ext J I→ci w.heap.size J I→O k J→O k I)→(∀ k J I,Ext J I→ci w.heap.size J I→V k J→V k I)→
  (∀ k aa vs w',Y w'→ad k vs aa w'→O k w'→l8 P l vs w' fun v W=>(v= .bool true∧Y W∧O aa W∧(G=true→eX w' W))∨(v= .bool false∧V k W))→
  Y w→O ab w→fL P g (.func (.yield l) #[] #[]::cap) w fun _ w'=>(∃ k,ac k∧O k w')∨ ∃ k,V k w'
def rz (G:Bool) (g:FuncId) (cap:List x1) (n:Nat) (Y:Nat→List x1→x2→Prop) (W:x2→Prop):Prop:=
 Enters P g∧ ∀ (l:Nat) (O U:Nat→x2→Prop) (w:x2),
  (∀ k J I,Ext J I→ci w.heap.size J I→O k J→O k I)→(∀ k J I,Ext J I→ci w.heap.size J I→U k J→U k I)→
  (∀ k vs w',k<n→W w'→Y k vs w'→O k w'→l8 P l vs w' fun v V=>(v= .bool true∧W V∧O (k+1) V∧(G=true→eX w' V))∨(v= .bool false∧U k V))→
  W w→O 0 w→fL P g (.func (.yield l) #[] #[]::cap) w fun _ w'=>O n w'∨ ∃ k,k<n∧U k w'
abbrev nu (g:FuncId) (cap:List x1) (n:Nat) (I:Nat→List x1→x2→Prop) (J:x2→Prop):Prop:=rz P false g cap n I J
def Bi (ad:x1) (Y:Nat) (w:x2) (B:List x1→x2→(Exit→x2→Prop)→Prop) (ae af:x2→Prop) (ag:List (Nat×(x2→Prop))):Prop:=
 ∃ (I:Type) (G:Bool) (g:FuncId) (cap:Array x1) (ab:I) (ac:I→Prop) (aa:I→List x1→I→x2→Prop) (J:x2→Prop) (O:I→x2→Prop) (U:I→Exit→x2→Prop),
  ad= .func (.func g) #[] cap∧nt P G g cap.toList ab ac aa J∧(∀ k vs V w,aa k vs V w→vs.length=Y)∧
  (∀ w w',Ext w w'→J w→J w')∧(∀ k w w',Ext w w'→O k w→O k w')∧(∀ k ex w w',Ext w w'→U k ex w→U k ex w')∧
  J w∧O ab w∧
  pk Y (lam Y fun vs=>∀ k V w',J w'→aa k vs V w'→O k w'→B vs w' fun ex W=>match ex with
   | .normal=>J W∧O V W∧(G=true→eX w' W)
   |ex=>U k ex W)∧
  (∀ k w',ac k→O k w'→ae w')∧(∀ k w',U k .ret w'→af w')∧(∀ k i w',U k (.exit i) w'→ns ag i w')
def Bj (ac:x1) (w:x2) (B:x1→x2→(Exit→x2→Prop)→Prop) (ad ae:x2→Prop) (af:List (Nat×(x2→Prop))):Prop:=
 ∃ (I:Type) (G:Bool) (g:FuncId) (cap:Array x1) (aa:I) (ab:I→Prop) (Y:I→List x1→I→x2→Prop) (J:x2→Prop) (O:I→x2→Prop) (U:I→Exit→x2→Prop),
  ac= .func (.func g) #[] cap∧nt P G g cap.toList aa ab Y J∧(∀ k vs V w,Y k vs V w→vs.length=1)∧
  (∀ w w',Ext w w'→J w→J w')∧(∀ k w w',Ext w w'→O k w→O k w')∧(∀ k ex w w',Ext w w'→U k ex w→U k ex w')∧
  J w∧O aa w∧
  (∀ a,∀ k V w',J w'→Y k [a] V w'→O k w'→B a w' fun ex W=>match ex with
   | .normal=>J W∧O V W∧(G=true→eX w' W)
   |ex=>U k ex W)∧
  (∀ k w',ab k→O k w'→ad w')∧(∀ k w',U k .ret w'→ae w')∧(∀ k i w',U k (.exit i) w'→ns af i w')
def Bk (ac:x1) (w:x2) (B:x1→x1→x2→(Exit→x2→Prop)→Prop) (ad ae:x2→Prop) (af:List (Nat×(x2→Prop))):Prop:=
 ∃ (I:Type) (G:Bool) (g:FuncId) (cap:Array x1) (aa:I) (ab:I→Prop) (Y:I→List x1→I→x2→Prop) (J:x2→Prop) (O:I→x2→Prop) (U:I→Exit→x2→Prop),
  ac= .func (.func g) #[] cap∧nt P G g cap.toList aa ab Y J∧(∀ k vs V w,Y k vs V w→vs.length=2)∧
  (∀ w w',Ext w w'→J w→J w')∧(∀ k w w',Ext w w'→O k w→O k w')∧(∀ k ex w w',Ext w w'→U k ex w→U k ex w')∧
  J w∧O aa w∧
  (∀ a b,∀ k V w',J w'→Y k [a,b] V w'→O k w'→B a b w' fun ex W=>match ex with
   | .normal=>J W∧O V W∧(G=true→eX w' W)
   |ex=>U k ex W)∧
  (∀ k w',ab k→O k w'→ad w')∧(∀ k w',U k .ret w'→ae w')∧(∀ k i w',U k (.exit i) w'→ns af i w')
theorem rz.s {P:X5} {G:Bool} {g:FuncId} {cap:List x1} {O:Nat→List x1→x2→Prop} {I:x2→Prop} (h:rz P G g cap n O I):
  nt P G g cap 0 (fun k=>k=n) (fun k vs U w=>k<n∧U=k+1∧O k vs w) I:=by
 refine⟨h.1,fun l V W w Y aa ab hI ac=>?_⟩;have:=h.2 l V (fun k w=>W k w) w Y aa (fun k vs w' ad hae af ag=>ab k (k+1) vs w' hae ⟨ad,rfl,af⟩ ag) hI ac;cases this with
 |code h1 ah=>exact .code h1 (ah.mono fun _ _ ⟨v,ai,J⟩=>⟨v,ai,J.elim (fun h=>.inl ⟨n,rfl,h⟩) (fun⟨k,_,h⟩=>.inr ⟨k,h⟩)⟩)
 |ext v w' h1 J=>exact .ext v w' h1 (J.elim (fun h=>.inl ⟨n,rfl,h⟩) (fun⟨k,_,h⟩=>.inr ⟨k,h⟩))
def dF (N:Nat) (free:eJ):Code→List Nat→Env→x2→(Exit→Env→x2→Prop)→Prop
 | .skip,_,e,w,K=>K .normal e w
 | .label _,_,e,w,K=>K .normal e w
 | .ret,_,e,w,K=>K .ret e w
 | .exit i,_,e,w,K=>K (.exit i) e w
 | .region _ ops U,_,e,w,K=>
  bif U then cj w fun w'=>rl P free ops e w' (K .normal)
  else mb P free ops ops.toList e w (K .normal)
 | .seq x y,rd,e,w,K=>
  bif Nat.ble 2 (iP x) then
   be (lam (nq N (cX x) (reads y++rd)).length fun vs=>fun w'=>dF N free y rd (hy (nq N (cX x) (reads y++rd)) vs (jG (cX x) e)) w' K)
    fun V=>dF N free x (reads y++rd) e w fun ex I w'=>match ex with
     | .normal=>match ih I (nq N (cX x) (reads y++rd)) with
      |some vs=>app (nq N (cX x) (reads y++rd)).length V vs w'
      |none=>False
     |ex=>K ex I w'
  else dF N free x (reads y++rd) e w fun ex I w'=>match ex with
   | .normal=>dF N free y rd I w' K
   |ex=>K ex I w'
 | .cond c x y,rd,e,w,K=>
  match dK e c with
  |some (.b true)=>dF N free x rd e w K
  |some (.b false)=>dF N free y rd e w K
  |some (.v v)=>Split v (dF N free x rd e w K) (dF N free y rd e w K)
  |some .u=>False
  |none=>False
 | .block id c,rd,e,w,K=>dF N free c rd e w fun ex I w'=>match ex with
  | .exit i=>bif U6 i id then K .normal I w' else K (.exit i) I w'
  |ex=>K ex I w'
 | .loop c,rd,e,w,K=>
  match ih e (nr N (cX c) (reads c++rd) e) with
  |some vs=>
   Be (nr N (cX c) (reads c++rd) e).length vs w fun us w' k=>
    dF N free c (reads c++rd) (hy (nr N (cX c) (reads c++rd) e) us (jG (cX c) e)) w' fun ex I J=>match ex with
     | .normal=>match ih I (nr N (cX c) (reads c++rd) e) with
      |some W=>k W J
      |none=>False
     |ex=>K ex I J
  |none=>False
 | .scope c,rd,e,w,K=>dF N free c rd e w K
 | .rangeFunc f O Y body,_,e,w,K=>
  bif free.1 then False else
  match dK e f with
  |some aa=>
   Bi P aa.val O.size w
    (fun vs w' k=>dF N free Y (reads body) (hy O.toList.reverse vs.reverse e) w' fun ex I J=>match ex with
     | .normal=>Over J fun ab=>dF N free body [] I ab fun ex _ ac=>k ex ac
     |_=>False)
    (fun w'=>K .normal e w') (bif hz body then fun w'=>K .ret e w' else fun _=>False) (ry (fun i w'=>K (.exit i) e w') (hQ body))
  |none=>False
 | .goto _,_,_,_,_=>False
 | .refuse _,_,_,_,_=>False
end
theorem pq {w0:x2} (h:ci n w0 w) {l:Nat} (V:w0.heap.size≤l) (o:Obj):ci n w0 (w.putObj l o):=
 ⟨h.os,h.tape,h.output,by simpa using h.size,fun r x I J=>by
  have O:=(l7.1 I).1;rw[x2.putObj_heap_other (by omega)];exact h.ba r x I J,fun r x U I J=>by
  have O:=(l7.1 I).1;rw[x2.putObj_heap_other (by omega)];exact h.old r x U I J⟩
theorem uB {w0:x2} (h:eX w0 w) {l:Nat} {J:Obj} (U:w.heap[l]? =some J) (V:ra J=false) (o:Obj):eX w0 (w.putObj l o):=fun r x W I=>by
 have h1:=h r x W I;by_cases O:r=l
 ·subst O;rw[U] at h1;cases h1;rw[V] at I;cases I
 ·rw[x2.putObj_heap_other O];exact h1
theorem nv {l:Nat} {J:Obj} (V:w.heap[l]? =some J) (W:fK J=false) (o:Obj):Ext w (w.putObj l o):=
 ⟨by simp,fun r x I O=>by
  by_cases U:r=l
  ·subst U;rw[V] at I;cases I;rw[W] at O;cases O
  ·rw[x2.putObj_heap_other U];exact I⟩
theorem uC {l:Nat} {o:Obj} (U:fK o=false):Ext (w.putObj l o) w:=
 ⟨by simp,fun r x I J=>by
  by_cases O:r=l
  ·subst O;rcases Nat.lt_or_ge r w.heap.size with h|h
   ·rw[x2.putObj_heap_same h] at I;cases I;rw[U] at J;cases J
   ·rw[Array.getElem?_eq_none (by simpa using h)] at I;cases I
  ·rw[x2.putObj_heap_other O] at I;exact I⟩
theorem me (w:x2) (o:Obj):Ext w (w.alloc o):=nj w o
theorem mf (w:x2) (o:Obj):cP w (w.alloc o):=nk w o
def ii (D:Nat):Deferred:={target:=.collected D,args:=#[]}
def jH (w:x2) (J:List Deferred):Prop:=∃ I:List Nat,J=I.map ii∧I.Nodup∧ ∀ D∈I,w.heap[D]? =some (.deferred (some []))
theorem jH.dc {I:List Deferred} (h:jH w I) (J:ci n w w'):jH w' I:=by
 obtain⟨O,h1,U,V⟩:=h;exact⟨O,h1,U,fun D W=>J.ba D _ (V D W) rfl⟩
section
variable {P:X5} {N:Nat}
def Bl (w:x2) (J O:List Deferred):Prop:=∃ I:List Nat,O=I.map ii++J∧ ∀ D∈I,w.heap.size≤D
def fq (n:Nat) (w:x2) (J:List Deferred) (w':x2) (I:List Deferred):Prop:=ci n w w'∧jH w' I∧Bl w J I
theorem fq.refl {I:List Deferred} (h:jH w I):fq n w I w I:=⟨ci.refl _ _,h,[],rfl,fun _ h=>by cases h⟩
theorem fq.trans {J:x2} {I O U:List Deferred} (h:fq n w I J O) (k:fq n J O w' U):fq n w I w' U:=by
 obtain⟨V,af,W,a3,a4⟩:=h;obtain⟨Y,aa,ab,ac,ad⟩:=k;refine⟨V.trans Y,aa,ab++W,by simp[ac,a3],fun D ae=>?_⟩;rcases n9.1 ae with h|h
 ·exact W7 V.size (ad D h)
 ·exact a4 D h
theorem fq.same {I:List Deferred} (h:jH w I) (J:ci n w w'):fq n w I w' I:=⟨J,h.dc J,[],rfl,fun _ h=>by cases h⟩
def iQ:Exit→Bool
 | .panic _=>false
 | .outgrown=>false
 | .goto _=>false
 |_=>true
def kv (N:Nat) (free:eJ) (J:Bool) (K:Exit→Env→x2→Prop) (D:List Nat) (a:Act) (w:x2) (ex:Exit) (a':Act) (w':x2):Prop:=
 iQ ex=true∧ ∃ I,K ex I w'∧T2 N I a'∧(∀ t,t∉D→a'.tmps.getD t undef=a.tmps.getD t undef)∧(J=true→a'.defers=a.defers)∧
  (free.1=false→fq free.2 w a.defers w' a'.defers)
theorem kv.step {free:eJ} {O U:Bool} {K:Exit→Env→x2→Prop} {V:List Nat} {a I a':Act} {J:x2} {ex:Exit} (h:kv N free U K V I J ex a' w')
  (Y:∀ t,t∈V→t∈D) (aa:∀ t,t∉D→I.tmps.getD t undef=a.tmps.getD t undef) (ab:O=true→U=true) (ac:O=true→I.defers=a.defers)
  (ad:free.1=false→fq free.2 w a.defers J I.defers):kv N free O K D a w ex a' w':=by
 obtain⟨ae,af,h1,ag,ah,ai,aj⟩:=h;exact⟨ae,af,h1,ag,fun t W=>(ah t fun h=>W (Y t h)).trans (aa t W),fun h=>(ai (ab h)).trans (ac h),fun h=>(ad h).trans (aj h)⟩
theorem pr {D:List Nat} {t:Nat} {x:dE}:∀ {e:Env},look (jG D e) t=some x→look e t=some x∧t∉D
 |[],h=>by cases h
 |(s,y)::r,h=>by
  simp only[jG] at h;cases hm:hx s D with
  |true=>
   rw[hm] at h;simp only[cond_true] at h;obtain⟨h1,J⟩:=pr h;refine⟨?_,J⟩;simp only[look];cases I:U6 s t with
   |true=>exact absurd (ru.1 hm) (by rw[Nat.eq_of_beq_eq_true I];exact J)
   |false=>exact h1
  |false=>
   rw[hm] at h;simp only[cond_false,look] at h ⊢;cases I:U6 s t with
   |true=>
    rw[I] at h;refine⟨h,fun O=>?_⟩;rw[←Nat.eq_of_beq_eq_true I] at O;rw[ru.2 O] at hm;cases hm
   |false=>
    rw[I] at h;exact pr h
theorem rA {a:Act} {e:Env}:∀ {S:List Nat} {vs:List x1},T2 N e a→(∀ p∈S.zip vs,a.tmps.getD p.1 undef=p.2)→T2 N (hy S vs e) a
 |[],_,h,_=>by simpa[hy] using h
 |t::r,[],h,_=>by simpa[hy] using h
 |t::r,v::vs,h,O=>by
  have U:=rA (S:=r) (vs:=vs) h fun p V=>O p (by simp[V]);refine⟨U.1,fun s x I=>?_⟩;simp only[hy,look] at I;cases J:U6 t s with
  |true=>
   rw[J] at I;simp only[cond_true,Y3] at I;subst I;rw[←Nat.eq_of_beq_eq_true J];exact O (t,v) (by simp)
  |false=>rw[J] at I;exact U.2 s x I
theorem ps {e:Env} {a:Act} (U:T2 N e a):∀ {S:List Nat} {vs:List x1},ih e S=some vs→vs.length=S.length∧ ∀ p∈S.zip vs,a.tmps.getD p.1 undef=p.2
 |[],vs,h=>by simp[ih] at h;subst h;simp
 |t::r,vs,h=>by
  simp only[ih] at h;cases J:look e t with
  |none=>rw[J] at h;cases h
  |some x=>
   rw[J] at h;simp only at h;cases O:ih e r with
   |none=>rw[O] at h;cases h
   |some us=>
    rw[O] at h;simp only[Y3] at h;subst h;obtain⟨h1,V⟩:=ps U O;refine⟨by simp[h1],fun p I=>?_⟩;simp only[List.zip_cons_cons,U5] at I;rcases I with rfl|I
    ·exact U.2 t x J
    ·exact V p I
theorem Bm {a a':Act} {e I:Env} (J:T2 N e a) (O:T2 N I a') (U:∀ t,t∉D→a'.tmps.getD t undef=a.tmps.getD t undef):T2 N (jG D e) a':=
 ⟨O.1,fun t x h=>by
  obtain⟨h1,V⟩:=pr h;rw[U t V];exact J.2 t x h1⟩
theorem Bn {o:U2} {t:Nat} (I:o.dst=some t) (l:List U2) (hm:o∈l):t∈k1 l:=by
 induction l with
 |nil=>cases hm
 |cons o' l J=>
  simp only[k1];rcases U5.1 hm with h|h
  ·rw[←h,I];simp
  ·have:=J h;cases o'.dst with
   |none=>exact this
   |some d=>exact .tail _ this
theorem uD {free:eJ} {O:Bool} {K:Exit→Env→x2→Prop} {a a':Act} (U:free.1=false→jH w a.defers) (h:kq N free (K .normal) D a w a' w'):
  kv N free O K D a w .normal a' w':=by
 obtain⟨V,h1,W,I,Y⟩:=h;exact⟨rfl,V,h1,W,I.2,fun _=>I.1,fun J=>by rw[I.1];exact fq.same (U J) (Y J)⟩
theorem uE:∀ (I:List Nat) (vs:List x1) (p:Nat) (v:x1) (e:Env),I.length=vs.length→hy (I++[p]) (vs++[v]) e=hy I vs ((p,.v v)::e)
 |[],[],_,_,_,_=>rfl
 |[],_::_,_,_,_,h=>by simp at h
 |_::_,[],_,_,_,h=>by simp at h
 |q::I,u::vs,p,v,e,h=>by
  simp only[List.cons_append,hy];rw[uE I vs p v e (by simpa using h)]
theorem uF:∀ (I:List Nat) (vs:List x1) (J:Array x1) (e:Env),I.length=vs.length→(I.all fun t=>Nat.blt t N)=true→T2 N e {tmps:=J,defers:=[]}→
  T2 N (hy I.reverse vs.reverse e) {tmps:=(I.zip vs).foldl (fun J (p:Nat×x1)=>J.setIfInBounds p.1 p.2) J,defers:=[]}
 |[],[],_,_,_,_,h=>h
 |[],_::_,_,_,h,_,_=>by simp at h
 |_::_,[],_,_,h,_,_=>by simp at h
 |p::I,v::vs,J,e,V,O,h=>by
  have U:I.length=vs.length:=by simpa using V
  simp only[List.all_cons,V5] at O;simp only[List.zip_cons_cons,List.foldl_cons,List.reverse_cons];rw[uE _ _ _ _ _ (by simpa using U)];exact uF I vs _ _ U O.2 (h.put (d:=some p) (x:=.v v) (v:=v) O.1 rfl)
def hA (free:eJ) (c:Code):Bool:=free.1|| !ig c
theorem uG:∀ f a b:Bool,(f|| !(a||b))=true→(f|| !a)=true:=by decide
theorem uH:∀ f a b:Bool,(f|| !(a||b))=true→(f|| !b)=true:=by decide
def exitCode:Exit→Option Code
 | .ret=>some .ret
 | .exit id=>some (.exit id)
 |_=>none
end
section
variable {P:X5} {N:Nat}
def Sound (P:X5) (N:Nat) (c:Code):Prop:=
 ∀ (free:eJ) (r:Option Nat) (rd:List Nat) (e:Env) (a:Act) (w:x2) (K:Exit→Env→x2→Prop) (Q:Exit→Act→x2→Prop),
  wf N c=true→(∀ l,r=some l→free.1=false∧ ∃ I,w.heap[l]? =some (.loop I))→(free.1=false→jH w a.defers)→
  dF P N free c rd e w K→T2 N e a→(∀ ex a' w',kv N free (hA free c) K (cX c) a w ex a' w'→Q ex a' w')→(∀ J a w,¬Q (.panic J) a w)→
  c.wpIn (dB r) 0 P Q a w
theorem Bo {x y:Code} (ay:Sound P N x) (az:Sound P N y):Sound P N (.seq x y):=by
 intro free r rd e a w K Q af al aA h am an ao;simp only[wf,V5] at af;have ap:∀ t,t∈cX x→t∈cX (.seq x y):=fun t V=>by simp[cX,V]
 have aB:∀ t,t∈cX y→t∈cX (.seq x y):=fun t V=>by simp[cX,V]
 have aq:hA free (.seq x y)=true→hA free x=true:=fun h=>uG _ _ _ h;have aC:hA free (.seq x y)=true→hA free y=true:=fun h=>uH _ _ _ h;refine wpIn_seq ?_;have au:∀ (I:Env) (O:Act) (J:x2),dF P N free y rd I J K→T2 N I O→(∀ t,t∉cX x→O.tmps.getD t undef=a.tmps.getD t undef)→
   (hA free (.seq x y)=true→O.defers=a.defers)→(free.1=false→fq free.2 w a.defers J O.defers)→y.wpIn (dB r) 0 P Q O J:=by
  intro I O J h1 W Y ab U;refine az free r rd I O J K Q af.2 ?_ (fun h=>(U h).2.1) h1 W ?_ ao
  ·intro l aD;obtain⟨av,aE,ae⟩:=al l aD;exact⟨av,aE,(U av).1.ba _ _ ae rfl⟩
  ·intro ex a' w' ac;exact an ex a' w' (ac.step aB (fun t V=>Y t fun h=>V (ap t h)) aC ab U)
 have aw:∀ (aa:Exit→Env→x2→Prop),dF P N free x (reads y++rd) e w aa→
   (∀ I O J,kv N free (hA free x) aa (cX x) a w .normal O J→T2 N I O→aa .normal I J→(∀ t,t∉cX x→O.tmps.getD t undef=a.tmps.getD t undef)→
    (hA free (.seq x y)=true→O.defers=a.defers)→(free.1=false→fq free.2 w a.defers J O.defers)→y.wpIn (dB r) 0 P Q O J)→
   (∀ ex I J,ex≠ .normal→aa ex I J→K ex I J)→x.wpIn (dB r) 0 P (Exit.then (y.wpIn (dB r) 0 P Q) Q) a w:=by
  intro aa ad U aF;refine ay free r _ e a w aa _ af.1 al aA ad am ?_ ?_
  ·intro ex O J ac;cases ex with
   |normal=>
    have aG:=ac;obtain⟨ae,I,h1,ag,ah,ai,aj⟩:=ac;exact U I O J aG ag h1 ah (fun h=>ai (aq h)) aj
   |_=>
    obtain⟨ae,I,h1,ag,ah,ai,aj⟩:=ac;refine an _ O J ⟨ae,I,aF _ I J (by simp) h1,ag,fun t V=>ah t fun h=>V (ap t h),fun h=>ai (aq h),aj⟩
  ·intro aH a w aI;exact ao aH a w aI
 simp only[dF] at h;cases ax:Nat.ble 2 (iP x) with
 |false=>
  rw[ax] at h;refine aw _ h (fun I O J _ W h1 Y ab U=>au I O J h1 W Y ab U) ?_;intro ex I J ak h1;cases ex <;> first|exact absurd rfl ak|exact h1
 |true=>
  rw[ax] at h;refine aw _ h (fun I O J _ W h1 Y ab U=>?_) ?_
  ·simp only at h1;cases ad:ih I (nq N (cX x) (reads y++rd)) with
   |none=>rw[ad] at h1;exact h1.elim
   |some vs=>
    rw[ad] at h1;obtain⟨aJ,aK⟩:=ps W ad;simp only at h1;rw[pm _ _ _ aJ] at h1;exact au _ O J h1 (rA (Bm am W Y) aK) Y ab U
  ·intro ex I J ak h1;cases ex <;> first|exact absurd rfl ak|exact h1
theorem Bp {c:Code} (ay:Sound P N c):Sound P N (.loop c):=by
 intro free r rd e a w K Q an az aA h ae aB aC;simp only[wf] at an;simp only[dF] at h;generalize aR:nr N (cX c) (reads c++rd) e=S at h;cases af:ih e S with
 |none=>rw[af] at h;exact h.elim
 |some vs=>
  rw[af] at h;simp only at h;obtain⟨aD,aE,U,aF⟩:=h;obtain⟨aG,aH⟩:=ps ae af;let Inv:Act→x2→Prop:=fun I J=>∃ us,us.length=S.length∧app S.length aD us J∧(∀ p∈S.zip us,I.tmps.getD p.1 undef=p.2)∧I.tmps.size=N∧
   (∀ t,t∉cX c→I.tmps.getD t undef=a.tmps.getD t undef)∧(hA free c=true→I.defers=a.defers)∧(free.1=false→fq free.2 w a.defers J I.defers)
  let V:Act→List x1:=fun I=>S.map fun t=>I.tmps.getD t undef;have ao:∀ (I:Act) (us:List x1),us.length=S.length→(∀ p∈S.zip us,I.tmps.getD p.1 undef=p.2)→V I=us:=by
   intro I us W Y;apply List.ext_getElem
   ·simp[V,W]
   ·intro i h1 O;have hi:i<S.length:=by simpa[V] using h1
    have aI:(S[i],us[i])∈S.zip us:=by
     have:=T6 (l:=S.zip us) (n:=i) (by simp[List.length_zip,W,hi]);simpa using this
    simpa[V] using Y _ aI
  refine wpIn_loop Inv (fun I J=>app S.length aE (V I) J) ⟨vs,aG,U,aH,ae.1,fun _ _=>rfl,fun _=>rfl,fun aa=>fq.refl (aA aa)⟩ ?_;rintro I J ⟨us,W,aJ,Y,aK,ap,aa,ab⟩;have ac:=pn S.length _ us aF;rw[pm _ _ _ W] at ac;have ac:=ac J aJ;have aL:T2 N (hy S us (jG (cX c) e)) I:=by
   refine rA (a:=I) (e:=jG (cX c) e) ⟨aK,fun t x ad=>?_⟩ Y;obtain⟨h1,O⟩:=pr ad;rw[ap t O];exact ae.2 t x h1
  refine ay free r _ _ I J _ _ an ?_ (fun h=>(ab h).2.1) ac aL ?_ ?_
  ·intro l aM;obtain⟨aq,aN,U⟩:=az l aM;exact⟨aq,aN,(ab aq).1.ba _ _ U rfl⟩
  ·intro ex ag aO ah;have au:∀ t,t∉cX c→ag.tmps.getD t undef=a.tmps.getD t undef:=by
    obtain⟨_,_,_,_,ai,_,_⟩:=ah;exact fun t ad=>(ai t ad).trans (ap t ad)
   cases ex with
   |normal=>
    obtain⟨U,aj,h1,O,ai,ak,al⟩:=ah;simp only at h1;cases am:ih aj S with
    |none=>rw[am] at h1;exact h1.elim
    |some av=>
     rw[am] at h1;obtain⟨aw,ax⟩:=ps O am;refine⟨⟨av,aw,h1.1,ax,O.1,au,fun h=>(ak h).trans (aa h),fun h=>(ab h).trans (al h)⟩,?_⟩;rw[ao I us W Y,ao ag av aw ax];exact h1.2
   |_=>
    obtain⟨U,aj,h1,O,ai,ak,al⟩:=ah;exact aB _ ag aO ⟨U,aj,h1,O,au,fun h=>(ak h).trans (aa h),fun h=>(ab h).trans (al h)⟩
  ·intro aP a w aQ;exact aC aP a w aQ
theorem Bq {f:T0} {ae:Array Tmp} {ak body:Code} (bk:Sound P N ak) (ax:Sound P N body):Sound P N (.rangeFunc f ae ak body):=by
 intro free r rd e a w K Q aW ay bl h ao bm b7;simp only[wf,V5] at aW;obtain⟨bn,bo,bp⟩:=aW;simp only[dF] at h;obtain⟨fr,b⟩:=free;cases fr with
 |true=>exact h.elim
 |false=>
  simp only[cond_false] at h;cases aG:dK e f with
  |none=>rw[aG] at h;exact h.elim
  |some b8=>
   rw[aG] at h;obtain⟨aX,G,g,cap,b9,ca,cb,aH,bq,aI,br,⟨aY,bt⟩,bu,haZ,az,aJ,hbw,bx,bz,bA,bB,bC⟩:=h;have bD:∀ k ex w',iQ ex=true→ex≠ .normal→aI k ex w'→K ex e w':=by
    intro k ex w' ap aK a1;cases ex with
    |normal=>exact absurd rfl aK
    |ret=>
     have:=bB k w' a1;cases ay:hz body with
     |true=>rw[ay] at this;exact this
     |false=>rw[ay] at this;exact this.elim
    |exit i=>exact uA (bC k i w' a1)
    |_=>cases ap
   have bE:a.eval f= .func (.func g) #[] cap:=by rw[ao.dK aG];exact br
   refine wpIn_rangeFunc ?_;intro fn _;obtain⟨D,mark,l,aa,J,bF,V,bG,aL,aA,bH,aB⟩:∃ (D:Nat) (mark:List Deferred) (l:Nat) (aa:x2) (J:LoopState→Option Code→Loop),
     (Instr.enterLoop fn a.tmps ae ak body (dB r).round).run P w= .ok (l,mark) aa∧
     J=(fun st bI=>{state:=st,pending:=bI,fn,tmps:=a.tmps,params:=ae,assign:=ak,body,defers:=D})∧
     aa.heap[l]? =some (.loop (J .ready none))∧(mark=[]∨(mark=[ii D]∧aa.heap[D]? =some (.deferred (some []))∧w.heap.size≤D∧D≠l))∧Ext w aa∧ci b w aa∧w.heap.size≤l:=by
    cases r with
    |none=>
     refine⟨w.heap.size,[ii w.heap.size],w.heap.size+1,_,_,run_enterLoop_outer _ _ _ _ _,rfl,?_,.inr ⟨rfl,?_,o7 _,by omega⟩,?_,?_,by omega⟩
     ·have:=x2.alloc_heap_new (w.alloc (.deferred (some []))) (.loop {state:=.ready,pending:=none,fn,tmps:=a.tmps,params:=ae,assign:=ak,body,defers:=w.heap.size});rwa [x2.size_alloc] at this
     ·exact (Below.heap_alloc _ _ _ (by simp)).trans (x2.alloc_heap_new w _)
     ·exact (me w _).trans (me _ _)
     ·exact ((mf w _).trans (mf _ _)).b
    |some bJ=>
     obtain⟨_,bK,ab⟩:=ay bJ rfl;exact⟨bK.defers,[],w.heap.size,_,_,run_enterLoop_inner ab _ _ _ _ _,rfl,x2.alloc_heap_new w _,.inl rfl,me _ _,(mf _ _).b,o7 _⟩
   let af:x2→Prop:=fun I=>mark=[]∨(mark=[ii D]∧I.heap[D]? =some (.deferred (some []))∧w.heap.size≤D∧D≠l);have aq:∀ {m:Nat} {A B:x2},ci m A B→af A→af B:=fun ac h=>h.imp id fun⟨h1,O,U⟩=>⟨h1,ac.ba _ _ O rfl,U⟩;have aC:∀ {A:x2} (o:Obj),af A→af (A.putObj l o):=fun o h=>h.imp id fun⟨h1,O,U,Y⟩=>⟨h1,(x2.putObj_heap_other Y).trans O,U,Y⟩;let a2:aX→x2→Prop:=fun k I=>bq k I∧I.heap[l]? =some (.loop (J .ready none))∧ci b w I∧af I;let a6:aX→x2→Prop:=fun k I=>∃ ex c,iQ ex=true∧exitCode ex=some c∧aI k ex I∧I.heap[l]? =some (.loop (J .done (some c)))∧ci b w I∧af I;have aM:=bt l a2 a6 aa (fun k A B he ac ⟨h1,O,U,Y⟩=>⟨az k A B he h1,ac.ba _ _ O rfl,U.step ac aA.size,aq ac Y⟩)
    (fun k A B he ac ⟨ex,c,ab,h1,O,U,Y,au⟩=>⟨ex,c,ab,h1,aJ k ex A B he O,ac.ba _ _ U rfl,Y.step ac aA.size,aq ac au⟩) ?round (haZ _ _ aA hbw) ⟨az _ _ _ aA bx,bG,bH,aL⟩
   case round=>
    intro k aN vs I haH a7 ⟨hi,aD,bL,bM⟩;have aO:=bu k vs aN I a7;have a8:=run_yield (P:=P) (args:=vs.toArray) aD (by rw[V];simp[aO]);rw[V] at a8;refine⟨fn,_,ak,body,a8,roundIn_of_wpIn trivial ?_⟩;have bN:(ae.zip vs.toArray).foldl (fun tmps x=>match x with|(t,a)=>tmps.setIfInBounds t a) a.tmps=(ae.toList.zip vs).foldl (fun bO (p:Nat×x1)=>bO.setIfInBounds p.1 p.2) a.tmps:=by
     rw[←Array.foldl_toList,Array.toList_zip]
    have bb:=uF (N:=N) ae.toList vs a.tmps e (by simp[aO]) bn (show T2 N e {tmps:=a.tmps,defers:=[]} from⟨ao.1,ao.2⟩);rw[←bN] at bb;have cc:I.heap[l]? =some (.loop (J .ready none)):=aD;refine bk (false,b) (some l) _ _ _ I _ _ bo (fun l' aP=>⟨rfl,by cases aP;exact⟨_,aD⟩⟩) (fun _=>⟨[],rfl,List.nodup_nil,fun D aL=>by cases aL⟩) (by have ax:=pn _ _ vs bz;rw[pm _ _ _ aO] at ax;exact ax k aN I haH a7 hi) bb ?_ (fun _ _ _ h=>h);intro ex bc W aQ;obtain⟨ab,cd,h1,O,U,Y,au⟩:=aQ;obtain⟨av,bP,_⟩:=au rfl;cases ex with
    |normal=>
     have al:W.heap[l]? =some (.loop (J .ready none)):=av.ba _ _ aD rfl;have bQ:=(l7.1 al).1;refine⟨_,run_beginRound al (by rw[V]),?_⟩;have bR:Ext W (W.putObj l (.loop {J .ready none with state:=.busy})):=nv al rfl _;have bd:(W.putObj l (.loop {J .ready none with state:=.busy})).heap[l]? =some (.loop {J .ready none with state:=.busy}):=x2.putObj_heap_same bQ;have bS:jH (W.putObj l (.loop {J .ready none with state:=.busy})) bc.defers:=by
      obtain⟨aE,am,an,ag⟩:=bP;refine⟨aE,am,an,fun ah ai=>?_⟩;have:=ag ah ai;have aK:ah≠l:=fun he=>by rw[he,al] at this;cases this
      rw[x2.putObj_heap_other aK];exact this
     have be:ci b w (W.putObj l (.loop {J .ready none with state:=.busy})):=pq (bL.trans av) aB _;have bf:=aC (.loop {J .ready none with state:=.busy}) (aq av bM);have bT:=h1 _ bR (uC rfl) (uB (eX.refl _) al rfl _);refine ax (false,b) (some l) _ _ bc _ _ _ bp (fun l' aP=>⟨rfl,by cases aP;exact⟨_,bd⟩⟩) (fun _=>bS) bT O ?_ (fun _ _ _ h=>h);intro bU ce aw aQ;obtain⟨aR,cg,aS,ch,cj,ck,bV⟩:=aQ;obtain⟨ad,_,_⟩:=bV rfl;have aF:aw.heap[l]? =some (.loop {J .ready none with state:=.busy}):=ad.ba _ _ bd rfl;have bg:=(l7.1 aF).1;have bh:=fun bW=>run_endRound (P:=P) bW aF;have aT:∀ (o:Obj),Ext aw (aw.putObj l o):=fun o=>nv aF rfl o;have bi:∀ (ex:Exit) (c:Code),iQ ex=true→exitCode ex=some c→aI k ex aw→
       ∃ v w',(Instr.endRound l (some c)).run P aw= .ok v w'∧ ∃ aU,Ending.returned v= .returned aU∧((aU= .bool true∧aH w'∧a2 aN w'∧(G=true→eX I w'))∨(aU= .bool false∧a6 k w')):=by
      intro ex c ap bX bY;refine⟨_,_,bh (some c),_,rfl,.inr ⟨rfl,ex,c,ap,bX,aJ k ex _ _ (aT _) bY,?_,pq (be.trans ad) aB _,aC _ (aq ad bf)⟩⟩;rw[x2.putObj_heap_same bg,V];rfl
     cases bU with
     |normal=>
      obtain⟨am,an,ag⟩:=aS;refine⟨_,_,bh none,_,rfl,.inl ⟨rfl,haZ _ _ (aT _) am,⟨az _ _ _ (aT _) an,?_,pq (be.trans ad) aB _,aC _ (aq ad bf)⟩,fun bZ=>uB (ag bZ) aF rfl _⟩⟩;rw[x2.putObj_heap_same bg,V];rfl
     |ret=>exact bi .ret _ rfl rfl aS
     |exit id=>exact bi (.exit id) _ rfl rfl aS
     |goto t=>cases aR
     |panic b0=>cases aR
     |outgrown=>cases aR
    |_=>exact h1.elim
   have aM:=fL.calls P aM aY;refine⟨l,mark,aa,{target:=.fn (.func g) cap,args:=#[.func (.yield l) #[] #[]]},aa,g,#[.func (.yield l) #[] #[]]++cap,aa,bF,?_,fun _ _=>trivial,?_,re _ _,?_⟩
   ·simp only[resolve,bE];simp[go_sem]
   ·simp only[invoke];exact aY _ _
   ·have b1:(#[.func (.yield l) #[] #[]]++cap:Array x1)=(x1.func (.yield l) #[] #[]::cap.toList).toArray:=by apply Array.toList_inj.1;simp
    rw[b1];refine CallsIn.mono (uk aM) ?_;rintro cl W ⟨v,rfl,b2⟩;have left:∀ (aj:Loop) (ex:Exit),iQ ex=true→W.heap[l]? =some (.loop aj)→aj.state≠ .busy→ci b w W→af W→K ex e (W.putObj l (.loop {aj with state:=.exhausted}))→
      Q ex {a with defers:=mark++a.defers} (W.putObj l (.loop {aj with state:=.exhausted})):=by
     intro aj ex ap al cm av bj b3;have ad:ci b w (W.putObj l (.loop {aj with state:=.exhausted})):=pq av aB _;refine bm ex _ _ ⟨ap,e,b3,⟨ao.1,ao.2⟩,fun _ _=>rfl,(fun h=>by simp[hA,ig] at h),fun _=>⟨ad,?_,?_⟩⟩
     case refine_2=>
      rcases bj with hm|⟨hm,_,b4,_⟩
      ·exact⟨[],by simp[hm],fun _ h=>by cases h⟩
      ·exact⟨[D],by simp[hm],fun ah ai=>by simp at ai;omega⟩
     obtain⟨aE,am,an,ag⟩:=bl rfl;have aV:=aC (.loop {aj with state:=.exhausted}) bj;rcases aV with hm|⟨hm,aV,b4,_⟩
     ·exact⟨aE,by simp[hm,am],an,fun ah ai=>ad.ba _ _ (ag ah ai) rfl⟩
     ·refine⟨D::aE,by simp[hm,am],List.nodup_cons.2 ⟨fun b5=>?_,an⟩,fun ah ai=>?_⟩
      ·have:=(l7.1 (ag D b5)).1;omega
      ·rcases U5.1 ai with h|h
       ·rw[h];exact aV
       ·exact ad.ba _ _ (ag ah h) rfl
    rcases b2 with⟨k,b6,h1,O,U,Y⟩|⟨k,ex,c,ab,h1,O,U,Y,au⟩
    ·refine⟨none,_,by have:=run_endLoop (P:=P) O (by rw[V];simp);rw[V] at this;exact this,?_⟩;have:=left (J .ready none) .normal rfl O (by rw[V];simp) U Y (bA _ _ b6 (az _ _ _ (nv O rfl _) h1));rw[V] at this;exact this
    ·refine⟨some c,_,by have:=run_endLoop (P:=P) U (by rw[V];simp);rw[V] at this;exact this,?_⟩;have:=left (J .done (some c)) ex ab U (by rw[V];simp) Y au (bD k ex _ ab (by intro he;rw[he] at h1;cases h1) (aJ _ _ _ _ (nv U rfl _) O));rw[V] at this;cases ex with
     |normal=>cases h1
     |ret=>cases h1;exact wpIn_ret this
     |exit id=>cases h1;exact wpIn_exit this
     |goto t=>cases ab
     |panic b0=>cases ab
     |outgrown=>cases ab
theorem pt {b:Frame} {a:Act} {k:List Item} {cs:List Frame} {c:Code}:
  step P (lone (b.atR a (.code (.scope c)::k)) cs w)= .next (lone (b.atR a (.code c:: .inScope c::k)) cs w):=
 step_lone_go (by simp[stepG,stepG.exec,Frame.atR])
theorem Br {b:Frame} {a:Act} {k:List Item} {cs:List Frame} {c:Code}:
  step P (lone (b.atR a (.inScope c::k)) cs w)= .next (lone (b.atR a k) cs w):=
 step_lone_go (by simp[stepG,stepG.exec,Frame.atR])
theorem Bs {F:Fence} {c:Code} {Q:Exit→Act→x2→Prop} {a:Act} (h:c.wpIn F n P (fun ex a' w'=>iQ ex=true∧Q ex a' w') a w):
  (Code.scope c).wpIn F n P Q a w:=by
 intro b k cs ad O U;have I:(lone (b.atR a (.code (.scope c)::k)) cs w).fenced P F:=fenced_calm O U rfl;obtain⟨e,V,W,⟨Y,aa⟩,J⟩:=h b (.inScope c::k) cs ad O U;have ac:∀ id,exitTo id (.inScope c::k)=exitTo id k:=fun id=>by simp[exitTo]
 cases e with
 |normal=>exact⟨.normal,V,W,aa,.head I pt (StepsIn.trans J (.one (fenced_calm O U rfl) Br))⟩
 |exit id=>
  exact⟨.exit id,V,W,aa,fun ae ab=>.head I pt (J.1 ae (by rw[ac];exact ab)),
   fun af ab=>let⟨ag,h1,ah⟩:=J.2 af (by rw[ac];exact ab);⟨ag,h1,.head I pt ah⟩⟩
 |ret=>exact⟨_,V,W,aa,.of_steps (.one I pt) J⟩
 |goto l=>cases Y
 |panic ai=>cases Y
 |outgrown=>cases Y
theorem sound (hm:P.follows .mixedOrders=true) (c:Code):Sound P N c:=by
 induction c with
 |skip=>exact fun free r rd e a w K Q _ _ J h I O _=>wpIn_skip (O _ _ _ ⟨rfl,e,h,I,fun _ _=>rfl,fun _=>rfl,fun Y=>fq.refl (J Y)⟩)
 |label l=>exact fun free r rd e a w K Q _ _ J h I O _=>wpIn_label (O _ _ _ ⟨rfl,e,h,I,fun _ _=>rfl,fun _=>rfl,fun Y=>fq.refl (J Y)⟩)
 |ret=>exact fun free r rd e a w K Q _ _ J h I O _=>wpIn_ret (O _ _ _ ⟨rfl,e,h,I,fun _ _=>rfl,fun _=>rfl,fun Y=>fq.refl (J Y)⟩)
 |exit i=>exact fun free r rd e a w K Q _ _ J h I O _=>wpIn_exit (O _ _ _ ⟨rfl,e,h,I,fun _ _=>rfl,fun _=>rfl,fun Y=>fq.refl (J Y)⟩)
 |goto l=>exact fun free r rd e a w K Q _ _ J h I O _=>h.elim
 |refuse s=>exact fun free r rd e a w K Q _ _ J h I O _=>h.elim
 |region id ops au=>
  intro free r rd e a w K Q U aa J h I O ab;simp only[wf,V5] at U;have an:∀ o∈ops.toList,∀ t,o.dst=some t→t∈k1 ops.toList:=fun o av t ae=>Bn ae _ av;simp only[dF] at h;cases au with
  |false=>exact A1 an U.1 h I fun a' w' V=>O _ _ _ (uD J V)
  |true=>
   simp only[Y4,Bool.false_or] at U;exact Bb hm U.2 ab an U.1 (fun w' h1 ac ad=>h w' h1 ac ad) I fun a' w' V=>O _ _ _ (uD J V)
 |seq x y ai aj=>exact Bo ai aj
 |cond c x y ai aj=>
  intro free r rd e a w K Q U aa J h I O ab;simp only[wf,V5] at U;have ao:∀ ex a' w',kv N free (hA free x) K (cX x) a w ex a' w'→Q ex a' w':=fun ex a' w' V=>O ex a' w' (by
   obtain⟨ah,af,h1,ac,ad,ag,ak⟩:=V;exact⟨ah,af,h1,ac,fun t ae=>ad t fun h=>ae (by simp[cX,h]),(fun h=>ag (uG _ _ _ h)),ak⟩)
  have ap:∀ ex a' w',kv N free (hA free y) K (cX y) a w ex a' w'→Q ex a' w':=fun ex a' w' V=>O ex a' w' (by
   obtain⟨ah,af,h1,ac,ad,ag,ak⟩:=V;exact⟨ah,af,h1,ac,fun t ae=>ad t fun h=>ae (by simp[cX,h]),(fun h=>ag (uH _ _ _ h)),ak⟩)
  simp only[dF] at h;cases W:dK e c with
  |none=>rw[W] at h;exact h.elim
  |some v=>
   rw[W] at h;cases v with
   |b t=>
    cases t with
    |true=>exact wpIn_cond (t:=true) (I.dK W) (ai free r rd e a w K Q U.1 aa J h I ao ab)
    |false=>exact wpIn_cond (t:=false) (I.dK W) (aj free r rd e a w K Q U.2 aa J h I ap ab)
   |v z=>
    obtain⟨t,aw,ae,Y⟩:=h;refine wpIn_cond (t:=t) ((I.dK W).trans aw) ?_;cases t with
    |true=>exact ai free r rd e a w K Q U.1 aa J (ae rfl) I ao ab
    |false=>exact aj free r rd e a w K Q U.2 aa J (Y rfl) I ap ab
   |u=>exact h.elim
 |block id c W=>
  intro free r rd e a w K Q U aa J h I O ab;simp only[wf] at U;simp only[dF] at h;refine wpIn_block (W free r rd e a w _ _ U aa J h I ?_ fun aq a w al=>ab aq a w al);intro ex a' w' V;obtain⟨ah,af,h1,ac,ad,ag⟩:=V;cases ex with
  |exit i=>
   simp only[Exit.inBlock];simp only at h1;by_cases hi:i=id
   ·rw[if_pos hi];rw[hi,Nat.beq_refl] at h1;exact O _ _ _ ⟨rfl,af,h1,ac,ad,ag⟩
   ·rw[if_neg hi];have:U6 i id=false:=by
     cases am:U6 i id with
     |true=>exact absurd (Nat.eq_of_beq_eq_true am) hi
     |false=>rfl
    rw[this] at h1;exact O _ _ _ ⟨rfl,af,h1,ac,ad,ag⟩
  |_=>exact O _ _ _ ⟨ah,af,h1,ac,ad,ag⟩
 |loop c W=>exact Bp W
 |scope c W=>
  intro free r rd e a w K Q U aa J h I O ab;exact Bs (W free r rd e a w K (fun ex a' w'=>iQ ex=true∧Q ex a' w') U aa J h I (fun ex a' w' V=>⟨V.1,O ex a' w' V⟩) fun aq a w al=>by cases al.1)
 |rangeFunc f ay az body ax am=>exact Bq ax am
def iR:Nat→List x1→Env
 |_,[]=>[]
 |i,v::r=>(i,.v v)::iR (i+1) r
def k3 (P:X5) (e:Env) (w:x2):List ResultVar→(List x1→Prop)→Prop
 |[],K=>K []
 | .tmp t::r,K=>match look e t with
  |some x=>k3 P e w r fun vs=>K (x.val::vs)
  |none=>False
 | .cell a t::r,K=>match look e a with
  |some x=>I P (do loadVar t (←asAddr x.val)) w fun v=>k3 P e w r fun vs=>K (v::vs)
  |none=>False
def pu:List x1→x1
 |[v]=>v
 |vs=>.tuple vs.toArray
def jI (P:X5) (I:List ResultVar) (marks:Bool) (Q:x1→x2→Prop):Exit→Env→x2→Prop
 | .normal,e,w| .ret,e,w=>k3 P e w I fun vs=>bif marks then uz w fun w'=>Q (pu vs) w' else Q (pu vs) w
 |_,_,_=>False
def kw:List ResultVar→List Nat
 |[]=>[]
 | .tmp t::r=>t::kw r
 | .cell a _::r=>a::kw r
theorem uI:∀ (vs:List x1) (i t:Nat) (x:dE),look (iR i vs) t=some x→ ∃ j v,t=i+j∧vs[j]? =some v∧x= .v v
 |[],_,_,_,h=>by cases h
 |v::r,i,t,x,h=>by
  simp only[iR,look] at h;cases I:U6 i t with
  |true=>
   rw[I] at h;simp only[cond_true,Y3] at h;exact⟨0,v,by rw[Nat.eq_of_beq_eq_true I];rfl,rfl,h.symm⟩
  |false=>
   rw[I] at h;obtain⟨j,u,h1,J,O⟩:=uI r (i+1) t x h;exact⟨j+1,u,by omega,by simpa using J,O⟩
theorem rB (vs:List x1) (h:vs.length≤n):T2 n (iR 0 vs) {tmps:=vs.toArray++Array.replicate (n-vs.toArray.size) undef,defers:=[]}:=by
 refine⟨by simp;omega,fun t x J=>?_⟩;obtain⟨j,v,h1,I,rfl⟩:=uI vs 0 t x J;have h1:t=j:=by omega
 subst h1;have O:t<vs.length:=(x4.1 I).1;rw[Array.getD_eq_getD_getElem?,Array.getElem?_append_left (by simpa using O)];simp[I,dE.val]
def pv (I:Array x1):ResultVar→Sem x1
 | .tmp t=>pure (I.getD t undef)
 | .cell b t=>do loadVar t (←asAddr (I.getD b undef))
theorem Bt (fn:Func) (I:Array x1):results fn I=(do let vs ←fn.results.mapM (pv I);pure (if h:vs.size=1 then vs[0] else .tuple vs)):=by
 unfold results;congr 2
theorem rC {e:Env} {a:Act} {w:x2} (J:T2 N e a):∀ (O:List ResultVar) (K:List x1→Prop),k3 P e w O K→
  ∃ vs,K vs∧vs.length=O.length∧ ∀ w',Ext w w'→(O.mapM (pv a.tmps)).run P w'= .ok vs w'
 |[],K,h=>⟨[],h,rfl,fun w' _=>by simp[X8]⟩
 | .tmp t::r,K,h=>by
  simp only[k3] at h;cases I:look e t with
  |none=>rw[I] at h;exact h.elim
  |some x=>
   rw[I] at h;obtain⟨vs,h1,U,V⟩:=rC J r _ h;refine⟨x.val::vs,h1,by simp[U],fun w' hw=>?_⟩;rw[List.mapM_cons];simp only[pv,X2,X8,X3,V w' hw,J.2 t x I]
 | .cell b t::r,K,h=>by
  simp only[k3] at h;cases I:look e b with
  |none=>rw[I] at h;exact h.elim
  |some x=>
   rw[I] at h;obtain⟨v,W,h⟩:=h;obtain⟨vs,h1,U,V⟩:=rC J r _ h;refine⟨v::vs,h1,by simp[U],fun w' hw=>?_⟩;rw[List.mapM_cons];have:=W w' hw;rw[←J.2 b x I] at this;rw[pv,X2,this];simp only[X3,X2,V w' hw,X8]
theorem rD {fn:Func} {e:Env} {a:Act} (J:T2 N e a) {K:List x1→Prop} (h:k3 P e w fn.results.toList K):
  ∃ vs,K vs∧ ∀ w',Ext w w'→(results fn a.tmps).run P w'= .ok (pu vs) w':=by
 obtain⟨vs,h1,O,I⟩:=rC J _ _ h;refine⟨vs,h1,fun w' hw=>?_⟩;have I:=I w' hw;rw[Bt,X2,Array.mapM_eq_mapM_toList,map_eq_pure_bind,X2,I];simp only[X3,X8];cases vs with
 |nil=>rfl
 |cons v r=>
  cases r with
  |nil=>rfl
  |cons u r=>simp[pu]
theorem uJ {fn:Func} {tmps:Array x1} {R:Ending→x2→Prop}:∀ (I:List Nat) (w:x2),I.Nodup→(∀ D∈I,w.heap[D]? =some (.deferred (some [])))→
  (∀ w',Ext w w'→Ext w' w→w'.os=w.os→iM w w'→w'.output=w.output→w.heap.size=w'.heap.size→
   (∀ r,r∉I→w'.heap[r]? =w.heap[r]?)→ ∃ v,(results fn tmps).run P w'= .ok v w'∧R (.returned v) w')→
  LeavesInM Fence.wide 0 P fn tmps R (I.map ii) .returning w
 |[],w,_,_,h=>by
  obtain⟨v,h1,J⟩:=h w (Ext.refl _) (Ext.refl _) rfl .iN rfl rfl fun _ _=>rfl;exact⟨v,h1,J⟩
 |D::I,w,O,U,h=>by
  rw[List.nodup_cons] at O;have V:=U D (.head _);refine⟨by simp,.inl ⟨D,_,rfl,run_takeDeferred V,?_⟩⟩;refine uJ I _ O.2 (fun aa W=>?_) fun w' h1 J ab ac ad ae af=>?_
  ·rw[x2.putObj_heap_other (fun he=>O.1 (by rw[←he];exact W))];exact U aa (.tail _ W)
  ·refine h w' ((nv V rfl _).trans h1) (J.trans (uC rfl)) ab ac ad (by simpa using ae) fun r Y=>?_;rw[af r fun hm=>Y (.tail _ hm),x2.putObj_heap_other fun he=>Y (by rw[he];exact .head _)]
theorem af.enter (hm:P.follows .mixedOrders=true) {f:FuncId} {fn:Func} {c:Code} (W:P.funcs[f]? =some fn) (Y:fn.body=some c) (ai:(fn.name == "runtime.NumGoroutine")=false)
  (aj:wf fn.ntmps c=true) {args:List x1} (ak:Nat.ble args.length fn.ntmps=true) {w:x2} {Q:x1→x2→Prop}
  (h:dF P fn.ntmps (false,w.heap.size) c (kw fn.results.toList) (iR 0 args) w (jI P fn.results.toList true Q)):af P f args w Q:=by
 refine .code (Enters.of P W Y ai) (callsIn_wide (n:=0).1 (callsIn_of_wp_marks W Y trivial ?_));have al:=rB (n:=fn.ntmps) args (Nat.le_of_ble_eq_true ak);refine wpIn_mono (Q:=fun ex a' w'=>iQ ex=true∧bodyPostM Fence.wide 0 P fn (fun e w'=>∃ v,e= .returned v∧cP w w'∧Q v w') ex a' w') ?_ fun _ _ _ h=>h.2;refine sound hm c (false,w.heap.size) none _ _ _ w _ _ aj (fun l am=>by cases am) (fun _=>⟨[],rfl,List.nodup_nil,fun D O=>by cases O⟩) h al ?_ (fun _ _ _ h=>by cases h.1)
 ·intro ex a' w' an;obtain⟨ao,ap,J,aq,_,_,au⟩:=an;obtain⟨I,⟨U,aa,av,O⟩,aw,ax,ay⟩:=au rfl;have az:∀ D∈U,w.heap.size≤D:=by
   intro D aA;have h1:ii D∈aw.map ii:=by
    have:ii D∈U.map ii:=j5.2 ⟨D,aA,rfl⟩;rw[←aa,ax] at this;simpa using this
   obtain⟨ab,V,aB⟩:=j5.1 h1;have:ab=D:=by simpa[ii] using aB
   exact this▸ay ab V
  have ac:jI P fn.results.toList true Q .ret ap w'→LeavesInM Fence.wide 0 P fn a'.tmps (fun e ad=>∃ v,e= .returned v∧cP w ad∧Q v ad) a'.defers .returning w':=by
   intro J;rw[aa];obtain⟨vs,h1,V⟩:=rD (fn:=fn) aq J;refine uJ U w' av O fun ae ag aC aD aE aF aG aH=>⟨_,V ae ag,_,rfl,?_,h1 ae ag aC⟩;have I:=I.dc (o7 _);refine⟨aD.trans I.os,aE.trans I.tape,aF.trans I.output,by rw[←aG];exact I.size,fun r o ah aI=>?_⟩;have aJ:=(l7.1 ah).1;rw[aH r fun hm=>by have:=az r hm;omega];exact I.ba r o ah aI
  cases ex with
  |normal=>exact⟨rfl,ac J⟩
  |ret=>exact⟨rfl,ac J⟩
  |exit id=>exact J.elim
  |_=>cases ao
theorem af.Bu (hm:P.follows .mixedOrders=true) {f:FuncId} {fn:Func} {c:Code} (J:P.funcs[f]? =some fn) (O:fn.body=some c) (W:(fn.name == "runtime.NumGoroutine")=false)
  (Y:wf fn.ntmps c=true) {args:List x1} (aa:Nat.ble args.length fn.ntmps=true) (ab:ig c=false) {w:x2} {Q:x1→x2→Prop}
  (h:dF P fn.ntmps (false,w.heap.size) c (kw fn.results.toList) (iR 0 args) w (jI P fn.results.toList false Q)):af P f args w Q:=by
 refine .code (Enters.of P J O W) (callsIn_wide (n:=0).1 (callsIn_of_wp J O trivial ?_));have ac:=rB (n:=fn.ntmps) args (Nat.le_of_ble_eq_true aa);refine wpIn_mono (Q:=fun ex a' w'=>iQ ex=true∧bodyPost P fn (fun e w'=>∃ v,e= .returned v∧cP w w'∧Q v w') ex a' w') ?_ fun _ _ _ h=>h.2;refine sound hm c (false,w.heap.size) none _ _ _ w _ _ Y (fun l ad=>by cases ad) (fun _=>⟨[],rfl,List.nodup_nil,fun D ae=>by cases ae⟩) h ac ?_ (fun _ _ _ h=>by cases h.1);intro ex a' w' ag;obtain⟨ah,ai,I,aj,_,ak,al⟩:=ag;have am:a'.defers=[]:=ak (by simp[hA,ab]);have U:jI P fn.results.toList false Q .ret ai w'→a'.defers=[]∧ ∃ v,(results fn a'.tmps).run P w'= .ok v w'∧ ∃ V,Ending.returned v= .returned V∧cP w w'∧Q V w':=by
  intro I;obtain⟨vs,h1,an⟩:=rD (fn:=fn) aj I;exact⟨am,_,an w' (Ext.refl _),_,rfl,(al rfl).1.dc (o7 _),h1⟩
 cases ex with
 |normal=>exact⟨rfl,U I⟩
 |ret=>exact⟨rfl,U I⟩
 |exit id=>exact I.elim
 |_=>cases ah
theorem fL.enter (hm:P.follows .mixedOrders=true) {f:FuncId} {fn:Func} {c:Code} (J:P.funcs[f]? =some fn) (O:fn.body=some c) (W:(fn.name == "runtime.NumGoroutine")=false)
  (Y:wf fn.ntmps c=true) {args:List x1} (aa:Nat.ble args.length fn.ntmps=true) {w:x2} {Q:x1→x2→Prop}
  (h:dF P fn.ntmps (true,0) c (kw fn.results.toList) (iR 0 args) w (jI P fn.results.toList false Q)):fL P f args w Q:=by
 refine .code (Enters.of P J O W) (callsIn_wide (n:=0).1 (callsIn_of_wp J O trivial ?_));have ab:=rB (n:=fn.ntmps) args (Nat.le_of_ble_eq_true aa);refine wpIn_mono (Q:=fun ex a' w'=>iQ ex=true∧bodyPost P fn (fun e w'=>∃ v,e= .returned v∧Q v w') ex a' w') ?_ fun _ _ _ h=>h.2;refine sound hm c (true,0) none _ _ _ w _ _ Y (fun l ac=>by cases ac) (fun h=>by cases h) h ab ?_ (fun _ _ _ h=>by cases h.1);intro ex a' w' ad;obtain⟨ae,af,I,ag,_,ah,ak⟩:=ad;have ai:a'.defers=[]:=ah rfl;have U:jI P fn.results.toList false Q .ret af w'→a'.defers=[]∧ ∃ v,(results fn a'.tmps).run P w'= .ok v w'∧ ∃ V,Ending.returned v= .returned V∧Q V w':=by
  intro I;obtain⟨vs,h1,aj⟩:=rD (fn:=fn) ag I;exact⟨ai,_,aj w' (Ext.refl _),_,rfl,h1⟩
 cases ex with
 |normal=>exact⟨rfl,U I⟩
 |ret=>exact⟨rfl,U I⟩
 |exit id=>exact I.elim
 |_=>cases ae
end
def nw (l:List T0) (d:Nat):Nat:=
 match l with
 |[]=>d
 | .tmp t::r=>nw r (Nat.lor d (Nat.shiftLeft 1 t))
 |_::r=>nw r d
def mg:List U2→Nat→Option U2
 |[],_=>none
 |o::_,0=>some o
 |_::l,n+1=>mg l n
def uK (a b:Nat):Nat:=Nat.xor a (Nat.land a b)
def nx (m t:Nat):Bool:=U6 (Nat.land (Nat.shiftRight m t) 1) 1
def ij (m t:Nat):Nat:=Nat.lor m (Nat.shiftLeft 1 t)
def Bv (ops:List U2) (o:U2):Nat:=
 match o.guard with
 |none=>0
 |some (j,_)=>match mg ops j with
  |some ⟨some d,_,_,_,_,_⟩=>Nat.shiftLeft 1 d
  |_=>0
def pw:List U2→Nat→Nat
 |[],d=>d
 |⟨some t,_,_,_,_,_⟩::l,d=>pw l (ij d t)
 |_::l,d=>pw l d
def uL (ops:List U2):List U2→Nat→Nat→Nat
 |[],_,r=>r
 |o::l,d,r=>uL ops l (match o.dst with|some t=>ij d t|none=>d) (Nat.lor r (uK (nw (opsOf o.op) (Bv ops o)) d))
def px:List Nat→Nat→Nat
 |[],_=>0
 |x::_,0=>x
 |_::l,n+1=>px l n
def uM (e:Edge):Bool:=
 match e.ground with
 | .textOnly _=>false
 | .gcOnly _=>false
 |_=>true
def uN (bs:List Nat):List Edge→Nat→Nat
 |[],s=>s
 |e::r,s=>uN bs r (bif uM e then Nat.lor (ij s e.on) (px bs e.on) else s)
def rE:List U2→List Nat→List Nat
 |[],bs=>bs
 |o::l,bs=>rE l (bs++[uN bs o.after.toList 0])
def uO:List U2→Bool
 |[]=>false
 |⟨_,_,_,_,_,some _⟩::_=>true
 |_::l=>uO l
def rF (bs:List Nat) (j k:Nat):Bool:=!(U6 k j)&&(!(nx (px bs j) k)&& !(nx (px bs k) j))
def uP (bs:List Nat) (j:Nat):Nat→List U2→Bool
 |_,[]=>false
 |i,o::l=>bif Nat.ble j i then false else (!(hv o)&&rF bs j i)||uP bs j (Nat.succ i) l
def uQ (ops:List U2) (bs:List Nat):Nat→List U2→Bool
 |_,[]=>false
 |j,o::l=>(!(hv o)&&uP bs j 0 ops)||uQ ops bs (Nat.succ j) l
def jJ:Code→Nat
 | .region _ ops I=>bif (I&&uQ ops.toList (rE ops.toList []) 0 ops.toList)||uO ops.toList then 2 else 1
 | .seq a b=>bif U6 (jJ a) 0 then 0 else jJ b
 | .cond _ a b=>Nat.add (jJ a) (jJ b)
 | .block id c=>Nat.add (jJ c) (hP id c)
 | .loop _=>0
 | .scope c=>jJ c
 | .exit _=>0
 | .goto _=>0
 | .ret=>0
 | .refuse _=>0
 |_=>1
def gC:Code→Nat
 | .region _ ops _=>pw ops.toList 0
 | .seq a b=>Nat.lor (gC a) (gC b)
 | .cond _ a b=>Nat.lor (gC a) (gC b)
 | .block _ c=>gC c
 | .loop c=>gC c
 | .scope c=>gC c
 |_=>0
def jK:Code→Nat
 | .region _ ops _=>pw ops.toList 0
 | .seq a b=>Nat.lor (jK a) (jK b)
 | .cond _ a b=>bif U6 (jJ a) 0 then jK b else bif U6 (jJ b) 0 then jK a else Nat.land (jK a) (jK b)
 | .block id c=>bif U6 (hP id c) 0 then jK c else 0
 | .scope c=>jK c
 |_=>0
def fa:Code→Nat
 | .region _ ops _=>uL ops.toList ops.toList 0 0
 | .seq a b=>Nat.lor (fa a) (uK (fa b) (jK a))
 | .cond c a b=>nw [c] (Nat.lor (fa a) (fa b))
 | .block _ c=>fa c
 | .loop c=>fa c
 | .scope c=>fa c
 | .rangeFunc f _ a b=>nw [f] (Nat.lor (fa a) (fa b))
 |_=>0
def kx:Nat→Nat→Nat→List Nat
 |0,_,_=>[]
 |n+1,k,m=>bif U6 m 0 then[] else bif U6 (Nat.land m 1) 1 then k::kx n (Nat.succ k) (Nat.shiftRight m 1) else kx n (Nat.succ k) (Nat.shiftRight m 1)
def ny (e:Env):List Nat→List Nat
 |[]=>[]
 |t::r=>match look e t with
  |some _=>t::ny e r
  |none=>ny e r
structure ky (B S aO:Type) where
 iS:{x:x1}→x1
 uR:List x1→x1
 no:B
 iT:B
 and:B→B→B
 or:B→B→B
 ext:x2→x2→B
 stays:S→x1→x2→B
 split:x1→B→B→B
 rG:S→x2→(x1→B)→B
 uS:S→x2→(x1→x2→B)→B
 uT:aO→x2→(x2→B)→B
 runN:{fr:Bool}→{n:Nat}→S→x2→(x1→x2→B)→B
 uU:{f:FuncId}→List x1→x2→(x1→x2→B)→B
 uV:{f:FuncId}→List x1→x2→(x1→x2→B)→B
 uW:{fr:Bool}→x1→List x1→x2→(x1→x2→B)→B
 drew:x2→(x2→B)→B
 again:x2→(x2→B)→B
 over:x2→(x2→B)→B
 c3:(x2→B)→((x2→B)→B)→B
 aM:(x1→x2→B)→((x1→x2→B)→B)→B
 gY:(x1→x1→x2→B)→((x1→x1→x2→B)→B)→B
 uX:(x1→x1→x1→x2→B)→((x1→x1→x1→x2→B)→B)→B
 uY:(x1→x1→x1→x1→x2→B)→((x1→x1→x1→x1→x2→B)→B)→B
 uZ:(x1→x1→x1→x1→x1→x2→B)→((x1→x1→x1→x1→x1→x2→B)→B)→B
 u0:x2→(x2→(x2→B)→B)→B
 u1:x1→x2→(x1→x2→(x1→x2→B)→B)→B
 u2:x1→x1→x2→(x1→x1→x2→(x1→x1→x2→B)→B)→B
 u3:x1→x1→x1→x2→(x1→x1→x1→x2→(x1→x1→x1→x2→B)→B)→B
 u6:x1→x1→x1→x1→x2→(x1→x1→x1→x1→x2→(x1→x1→x1→x1→x2→B)→B)→B
 u7:x1→x1→x1→x1→x1→x2→(x1→x1→x1→x1→x1→x2→(x1→x1→x1→x1→x1→x2→B)→B)→B
 va:x1→x1→x1→x1→x1→x1→x2→(x1→x1→x1→x1→x1→x1→x2→(x1→x1→x1→x1→x1→x1→x2→B)→B)→B
 vb:x1→x2→(x1→x2→(Exit→x2→B)→B)→(x2→B)→(x2→B)→List (Nat×(x2→B))→B
 vc:x1→x2→(x1→x1→x2→(Exit→x2→B)→B)→(x2→B)→(x2→B)→List (Nat×(x2→B))→B
 loadVar:{t:r8}→x1→S
 alloc:{t:r8}→S
 box:{t:r8}→x1→S
 build:{t:r8}→List (Nat×x1)→S
 buildSlice:{t:r8}→{n:Nat}→List (Nat×x1)→S
 load:{t:r8}→x1→S
 nil:x1→S
 bin:{op:BinOp}→{t:r8}→Bool→Bool→x1→x1→S
 un:{op:UnOp}→x1→S
 conv:{s d:r8}→x1→S
 vd:{t:r8}→x1→S
 ve:{f:Fn}→List x1→List x1→S
 vf:{t:r8}→Option x1→S
 vg:{t:r8}→x1→x1→S
 slice:{t:r8}→x1→Option x1→Option x1→Option x1→S
 vh:{t:r8}→x1→{f:Nat}→S
 field:{t:r8}→x1→{f:Nat}→S
 vi:{t:r8}→x1→x1→S
 index:{t:r8}→x1→x1→S
 lookup:{t:r8}→x1→x1→{ok:Bool}→S
 vj:{t:r8}→x1→x1→S
 range:{t:r8}→x1→S
 entry:x1→S
 assert:{t a:r8}→x1→{ok:Bool}→S
 extract:x1→{i:Nat}→S
 next:x1→{b:Bool}→S
 append:{ats:Array r8}→{t:r8}→List x1→S
 cap:{ats:Array r8}→{t:r8}→List x1→S
 clear:{ats:Array r8}→{t:r8}→List x1→S
 copy:{ats:Array r8}→{t:r8}→List x1→S
 delete:{ats:Array r8}→{t:r8}→List x1→S
 len:{ats:Array r8}→{t:r8}→List x1→S
 max:{ats:Array r8}→{t:r8}→List x1→S
 min:{ats:Array r8}→{t:r8}→List x1→S
 store:{t:r8}→x1→x1→aO
 rH:{t:r8}→x1→x1→x1→aO
 vk:{t:r8}→x1→x1→x1→aO
section
variable {B S aO:Type} (A:ky B S aO)
def dE.g:dE→x1
 | .v x=>x
 | .b c=>.bool c
 | .u=>A.iS (x:=undef)
def k4 (e:Env):T0→dE
 | .tmp t=>match look e t with
  |some x=>x
  |none=>.u
 | .const (.bool c)=>.b c
 | .const x=>.v (A.iS (x:=x))
 | .global g=>.v (A.iS (x:=.pointer (some ⟨g,0,none⟩)))
 | .func f=>.v (A.iS (x:=.func (.func f) #[] #[]))
def cw (e:Env) (x:T0):x1:=(k4 A e x).g A
def k5 (e:Env):List T0→List x1
 |[]=>[]
 |x::r=>cw A e x::k5 e r
def py (e:Env):Option T0→Option x1
 |none=>none
 |some x=>some (cw A e x)
def rI (e:Env):List (Nat×T0)→List (Nat×x1)
 |[]=>[]
 |(i,x)::r=>(i,cw A e x)::rI e r
def Bw (b:n0) (ats:Array r8) (t:r8) (l:List x1) (K:S→B):B:=
 match b with
 | .append=>K (A.append (ats:=ats) (t:=t) l)
 | .cap=>K (A.cap (ats:=ats) (t:=t) l)
 | .clear=>K (A.clear (ats:=ats) (t:=t) l)
 | .copy=>K (A.copy (ats:=ats) (t:=t) l)
 | .delete=>K (A.delete (ats:=ats) (t:=t) l)
 | .len=>K (A.len (ats:=ats) (t:=t) l)
 | .max=>K (A.max (ats:=ats) (t:=t) l)
 | .min=>K (A.min (ats:=ats) (t:=t) l)
 |_=>A.no
def vl (e:Env) (t:r8) (K:S→B) (I:aO→B):Op→B
 | .alloc t=>K (A.alloc (t:=t))
 | .box t x=>K (A.box (t:=t) (cw A e x))
 | .build t J=>K (A.build (t:=t) (rI A e J.toList))
 | .buildSlice t n J=>K (A.buildSlice (t:=t) (n:=n) (rI A e J.toList))
 | .load t x=>K (A.load (t:=t) (cw A e x))
 | .nilCheck x=>K (A.nil (cw A e x))
 | .binOp op t x y _=>K (A.bin (op:=op) (t:=t) (l4 x) (l4 y) (cw A e x) (cw A e y))
 | .unOp op _ x=>K (A.un (op:=op) (cw A e x))
 | .convert s d x=>K (A.conv (s:=s) (d:=d) (cw A e x))
 | .makeInterface t x=>K (A.vd (t:=t) (cw A e x))
 | .makeFunc f a b=>K (A.ve (f:=f) (k5 A e a.toList) (k5 A e b.toList))
 | .makeMap t r=>K (A.vf (t:=t) (py A e r))
 | .makeSlice t l c=>K (A.vg (t:=t) (cw A e l) (cw A e c))
 | .slice t x l h m=>K (A.slice (t:=t) (cw A e x) (py A e l) (py A e h) (py A e m))
 | .fieldAddr t x f=>K (A.vh (t:=t) (cw A e x) (f:=f))
 | .field t x f=>K (A.field (t:=t) (cw A e x) (f:=f))
 | .indexAddr t x i=>K (A.vi (t:=t) (cw A e x) (cw A e i))
 | .index t x i=>K (A.index (t:=t) (cw A e x) (cw A e i))
 | .lookup t x i ok=>K (A.lookup (t:=t) (cw A e x) (cw A e i) (ok:=ok))
 | .mapEntry t m k=>K (A.vj (t:=t) (cw A e m) (cw A e k))
 | .range t x=>K (A.range (t:=t) (cw A e x))
 | .entry x=>K (A.entry (cw A e x))
 | .typeAssert x t a ok=>K (A.assert (t:=t) (a:=a) (cw A e x) (ok:=ok))
 | .extract x i=>K (A.extract (cw A e x) (i:=i))
 | .call ⟨.builtin b,args,ats⟩=>Bw A b ats t (k5 A e args.toList) K
 | .store t a x=>I (A.store (t:=t) (cw A e a) (cw A e x))
 | .mapUpdate t m k x=>I (A.rH (t:=t) (cw A e m) (cw A e k) (cw A e x))
 | .insert t m k x=>I (A.rH (t:=t) (cw A e m) (cw A e k) (cw A e x))
 | .entryStore t m k x=>I (A.vk (t:=t) (cw A e m) (cw A e k) (cw A e x))
 |_=>A.no
def fM (e:Env) (d:Option Tmp) (x:dE):Env:=
 match d with
 |some t=>(t,x)::e
 |none=>e
def vm (o:U2) (e:Env) (w:x2) (K:Env→(x2→B)→B):B:=
 match o with
 |⟨d,.move x,_,_,_,_⟩=>K (fM e d (k4 A e x)) (fun _=>A.iT)
 |⟨d,.assign x,_,_,_,_⟩=>K (fM e d (k4 A e x)) (fun _=>A.iT)
 |⟨d,.pick c a b,_,_,_,_⟩=>
  match k4 A e c with
  | .b true=>K (fM e d (k4 A e a)) (fun _=>A.iT)
  | .b false=>K (fM e d (k4 A e b)) (fun _=>A.iT)
  | .v x=>A.split x (K (fM e d (.v (cw A e a))) (fun _=>A.iT)) (K (fM e d (.v (cw A e b))) (fun _=>A.iT))
  | .u=>A.no
 |⟨d,op,t,_,_,_⟩=>vl A e t (fun s=>A.rG s w fun v=>K (fM e d (.v v)) (A.stays s v)) (fun _=>A.no) op
def Bx (fr:Bool) (n:Nat) (o:U2) (e:Env) (w:x2) (K:Env→x2→B):B:=
 match o with
 |⟨d,.call ⟨.value (.func f),args,_⟩,_,_,_,_⟩=>
  bif fr then A.uV (f:=f) (k5 A e args.toList) w fun v w'=>K (fM e d (.v v)) w'
  else A.uU (f:=f) (k5 A e args.toList) w fun v w'=>K (fM e d (.v v)) w'
 |⟨d,.call ⟨.value x,args,_⟩,_,_,_,_⟩=>A.uW (fr:=fr) (cw A e x) (k5 A e args.toList) w fun v w'=>K (fM e d (.v v)) w'
 |⟨d,.next x b,_,_,_,_⟩=>A.runN (fr:=fr) (n:=n) (A.next (cw A e x) (b:=b)) w fun v w'=>K (fM e d (.v v)) w'
 |⟨d,op,t,_,_,_⟩=>vl A e t (fun s=>A.uS s w fun v w'=>K (fM e d (.v v)) w') (fun u=>A.uT u w fun w'=>K (fM e d (.v (A.iS (x:=undef)))) w') op
def vn (fr:Bool) (n:Nat) (o:U2) (e:Env) (w:x2) (K:Env→x2→B):B:=
 bif hv o then vm A o e w (fun I _=>K I w) else Bx A fr n o e w K
def rJ (ops:List U2) (o:U2) (e:Env) (D N:Env→B):B:=
 match o.guard with
 |none=>D e
 |some (j,b)=>
  match mg ops j with
  |some ⟨some s,_,_,_,_,_⟩=>
   match look e s with
   |some (.b c)=>bif xor c b then N e else D e
   |some (.v x)=>A.split x (bif b then D ((s,.b true)::e) else N ((s,.b true)::e)) (bif b then N ((s,.b false)::e) else D ((s,.b false)::e))
   |some .u=>N e
   |none=>A.no
  |_=>A.no
def rK (fr:Bool) (n:Nat) (ops:List U2):List U2→Env→x2→(Env→x2→B)→B
 |[],e,w,K=>K e w
 |o::l,e,w,K=>rJ A ops o e (fun e=>vn A fr n o e w fun I w'=>rK fr n ops l I w' K) (fun e=>rK fr n ops l (fM e o.dst .u) w K)
def vo:List Edge→Nat→Bool
 |[],_=>true
 |e::r,I=>(bif uM e then nx I e.on else true)&&vo r I
def pz (I:Nat):Nat→List U2→List Nat
 |_,[]=>[]
 |i,o::l=>bif nx I i then pz I (Nat.succ i) l else bif vo o.after.toList I then i::pz I (Nat.succ i) l else pz I (Nat.succ i) l
def vp (ops:List U2):List Nat→Option Nat
 |[]=>none
 |i::r=>match mg ops i with
  |some o=>bif hv o then some i else vp ops r
  |none=>none
def vq (p:Nat→B):List Nat→B
 |[]=>A.iT
 |[i]=>p i
 |i::r=>A.and (p i) (vq p r)
def vr (same:Bool) (q:Nat) (w:x2) (st:x2→B) (I:List (x2×List (Nat×(x2→B)))):List (x2×List (Nat×(x2→B))):=
 match same,I with
 |true,g::r=>(g.1,(q,st)::g.2)::r
 |_,I=>(w,[(q,st)])::I
def vt (bs:List Nat) (j:Nat):List (Nat×(x2→B))→Bool
 |[]=>false
 |(i,_)::r=>rF bs j i||vt bs j r
def rL (bs:List Nat) (j:Nat) (w':x2):List (Nat×(x2→B))→B
 |[]=>A.iT
 |(i,p)::r=>bif rF bs j i then A.and (p w') (rL bs j w' r) else rL bs j w' r
def pA (bs:List Nat) (j:Nat) (w':x2) (C:B):List (x2×List (Nat×(x2→B)))→B
 |[]=>C
 |(w,l)::r=>bif vt bs j l then A.and (A.or (A.ext w w') (rL A bs j w' l)) (pA bs j w' C r) else pA bs j w' C r
def k6 (fr:Bool) (n:Nat) (ops:List U2) (bs:List Nat):Nat→Nat→Bool→List (x2×List (Nat×(x2→B)))→Env→x2→(Env→x2→B)→B
 |0,_,_,_,e,w,K=>K e w
 |fuel+1,J,same,I,e,w,K=>
  match pz J 0 ops with
  |[]=>K e w
  |i::r=>
   match vp ops (i::r) with
   |some q=>
    match mg ops q with
    |some o=>rJ A ops o e
      (fun e=>vm A o e w fun O st=>
       bif jC o then k6 fr n ops bs fuel (ij J q) same I O w K
       else k6 fr n ops bs fuel (ij J q) true (vr same q w st I) O w K)
      (fun e=>bif jC o then k6 fr n ops bs fuel (ij J q) same I (fM e o.dst .u) w K
       else k6 fr n ops bs fuel (ij J q) true (vr same q w (fun _=>A.iT) I) (fM e o.dst .u) w K)
    |none=>A.no
   |none=>
    vq A (fun j=>match mg ops j with
     |some o=>rJ A ops o e (fun e=>vn A fr n o e w fun O w'=>pA A bs j w' (k6 fr n ops bs fuel (ij J j) false I O w' K) I)
       (fun e=>pA A bs j w (k6 fr n ops bs fuel (ij J j) false I (fM e o.dst .u) w K) I)
     |none=>A.no) (i::r)
def pB (e:Env):List Nat→List x1
 |[]=>[]
 |t::r=>(match look e t with|some x=>x.g A|none=>A.iS (x:=undef))::pB e r
def rM (l:List Nat) (vs:List x1) (e:Env):Env:=
 match l,vs with
 |t::r,v::vs=>(t,.v v)::rM r vs e
 |_,_=>e
def pC (d:Nat):Env→Env
 |[]=>[]
 |(t,x)::r=>bif nx d t then pC d r else (t,x)::pC d r
def By (l:List Nat) (I:List x1→x2→B) (X:(List x1→x2→B)→B):B:=
 match l with
 |[]=>A.c3 (fun w=>I [] w) fun k=>X fun _ w=>k w
 |[_]=>A.aM (fun a w=>I [a] w) fun k=>X fun vs w=>match vs with
  |[a]=>k a w
  |_=>A.no
 |[_,_]=>A.gY (fun a b w=>I [a,b] w) fun k=>X fun vs w=>match vs with
  |[a,b]=>k a b w
  |_=>A.no
 |[_,_,_]=>A.uX (fun a b c w=>I [a,b,c] w) fun k=>X fun vs w=>match vs with
  |[a,b,c]=>k a b c w
  |_=>A.no
 |[_,_,_,_]=>A.uY (fun a b c d w=>I [a,b,c,d] w) fun k=>X fun vs w=>match vs with
  |[a,b,c,d]=>k a b c d w
  |_=>A.no
 |[_,_,_,_,_]=>A.uZ (fun a b c d f w=>I [a,b,c,d,f] w) fun k=>X fun vs w=>match vs with
  |[a,b,c,d,f]=>k a b c d f w
  |_=>A.no
 |_=>A.no
def Bz (us:List x1) (w:x2) (X:List x1→x2→(List x1→x2→B)→B):B:=
 match us with
 |[]=>A.u0 w fun w k=>X [] w fun _ w=>k w
 |[a]=>A.u1 a w fun a w k=>X [a] w fun vs w=>match vs with
  |[a]=>k a w
  |_=>A.no
 |[a,b]=>A.u2 a b w fun a b w k=>X [a,b] w fun vs w=>match vs with
  |[a,b]=>k a b w
  |_=>A.no
 |[a,b,c]=>A.u3 a b c w fun a b c w k=>X [a,b,c] w fun vs w=>match vs with
  |[a,b,c]=>k a b c w
  |_=>A.no
 |[a,b,c,d]=>A.u6 a b c d w fun a b c d w k=>X [a,b,c,d] w fun vs w=>match vs with
  |[a,b,c,d]=>k a b c d w
  |_=>A.no
 |[a,b,c,d,f]=>A.u7 a b c d f w fun a b c d f w k=>X [a,b,c,d,f] w fun vs w=>match vs with
  |[a,b,c,d,f]=>k a b c d f w
  |_=>A.no
 |[a,b,c,d,f,g]=>A.va a b c d f g w fun a b c d f g w k=>X [a,b,c,d,f,g] w fun vs w=>match vs with
  |[a,b,c,d,f,g]=>k a b c d f g w
  |_=>A.no
 |_=>A.no
def rN (K:Nat→x2→B):List Nat→List (Nat×(x2→B))
 |[]=>[]
 |i::r=>(i,fun w=>K i w)::rN K r
def gd (fr:Bool) (n:Nat):Code→Nat→Env→x2→(Exit→Env→x2→B)→B
 | .skip,_,e,w,K=>K .normal e w
 | .label _,_,e,w,K=>K .normal e w
 | .ret,_,e,w,K=>K .ret e w
 | .exit i,_,e,w,K=>K (.exit i) e w
 | .region _ ops W,_,e,w,K=>
  bif W then A.drew w fun w'=>k6 A fr n ops.toList (rE ops.toList []) (ops.toList.length) 0 false [] e w' (K .normal)
  else rK A fr n ops.toList ops.toList e w (K .normal)
 | .seq x y,rd,e,w,K=>
  bif Nat.ble 2 (jJ x) then
   By A (kx 1000 0 (Nat.land (gC x) (Nat.lor (fa y) rd))) (fun vs w'=>gd fr n y rd (rM (kx 1000 0 (Nat.land (gC x) (Nat.lor (fa y) rd))) vs (pC (gC x) e)) w' K)
    fun Y=>gd fr n x (Nat.lor (fa y) rd) e w fun ex I w'=>match ex with
     | .normal=>Y (pB A I (kx 1000 0 (Nat.land (gC x) (Nat.lor (fa y) rd)))) w'
     |ex=>K ex I w'
  else gd fr n x (Nat.lor (fa y) rd) e w fun ex I w'=>match ex with
   | .normal=>gd fr n y rd I w' K
   |ex=>K ex I w'
 | .cond c x y,rd,e,w,K=>
  match k4 A e c with
  | .b true=>gd fr n x rd e w K
  | .b false=>gd fr n y rd e w K
  | .v v=>A.split v (gd fr n x rd e w K) (gd fr n y rd e w K)
  | .u=>A.no
 | .block id c,rd,e,w,K=>gd fr n c rd e w fun ex I w'=>match ex with
  | .exit i=>bif U6 i id then K .normal I w' else K (.exit i) I w'
  |ex=>K ex I w'
 | .loop c,rd,e,w,K=>
  Bz A (pB A e (ny e (kx 1000 0 (Nat.land (gC c) (Nat.lor (fa c) rd))))) w fun us w' k=>
   gd fr n c (Nat.lor (fa c) rd) (rM (ny e (kx 1000 0 (Nat.land (gC c) (Nat.lor (fa c) rd)))) us (pC (gC c) e)) w' fun ex I J=>match ex with
    | .normal=>k (pB A I (ny e (kx 1000 0 (Nat.land (gC c) (Nat.lor (fa c) rd))))) J
    |ex=>K ex I J
 | .scope c,rd,e,w,K=>gd fr n c rd e w K
 | .rangeFunc f aa V body,_,e,w,K=>
  match aa.toList with
  |[p]=>A.vb (cw A e f) w
    (fun a w' k=>gd fr n V (fa body) ((p,.v a)::e) w' fun ex I J=>match ex with
     | .normal=>A.over J fun O=>gd fr n body 0 I O fun ex _ U=>k ex U
     |_=>A.no)
    (fun w'=>K .normal e w') (bif hz body then fun w'=>K .ret e w' else fun _=>A.no) (rN (fun i w'=>K (.exit i) e w') (hQ body))
  |[p,q]=>A.vc (cw A e f) w
    (fun a b w' k=>gd fr n V (fa body) ((q,.v b)::(p,.v a)::e) w' fun ex I J=>match ex with
     | .normal=>A.over J fun O=>gd fr n body 0 I O fun ex _ U=>k ex U
     |_=>A.no)
    (fun w'=>K .normal e w') (bif hz body then fun w'=>K .ret e w' else fun _=>A.no) (rN (fun i w'=>K (.exit i) e w') (hQ body))
  |_=>A.no
 | .goto _,_,_,_,_=>A.no
 | .refuse _,_,_,_,_=>A.no
def vu:Nat→List x1→Env
 |_,[]=>[]
 |i,v::r=>(i,.v (A.iS (x:=v)))::vu (i+1) r
def pD (e:Env) (w:x2):List ResultVar→(List x1→B)→B
 |[],K=>K []
 | .tmp t::r,K=>pD e w r fun vs=>K ((match look e t with|some x=>x.g A|none=>A.iS (x:=undef))::vs)
 | .cell a t::r,K=>A.rG (A.loadVar (t:=t) (match look e a with|some x=>x.g A|none=>A.iS (x:=undef))) w fun v=>pD e w r fun vs=>K (v::vs)
def pE (vs:List x1) (K:x1→B):B:=
 match vs with
 |[v]=>K v
 |vs=>K (A.uR vs)
def rO:List ResultVar→Nat→Nat
 |[],s=>s
 | .tmp t::r,s=>rO r (ij s t)
 | .cell a _::r,s=>rO r (ij s a)
def BA (I:List ResultVar) (marks:Bool) (Q:x1→x2→B):Exit→Env→x2→B
 | .normal,e,w=>pD A e w I fun vs=>bif marks then A.again w fun w'=>pE A vs fun v=>Q v w' else pE A vs fun v=>Q v w
 | .ret,e,w=>pD A e w I fun vs=>bif marks then A.again w fun w'=>pE A vs fun v=>Q v w' else pE A vs fun v=>Q v w
 |_,_,_=>A.no
def rP (fr marks:Bool) (fn:Func) (c:Code) (args:List x1) (w:x2) (Q:x1→x2→B):B:=
 gd A fr n c (rO fn.results.toList 0) (vu A 0 args) w (BA A fn.results.toList marks Q)
end
def mh (P:X5):ky Prop (Sem x1) (Sem Unit) where
 iS {x}:=x
 uR l:=.tuple l.toArray
 no:=False
 iT:=True
 and:=And
 or:=Or
 ext:=Ext
 stays:=bb P
 split:=Split
 rG:=I P
 uS:=ax P
 uT u w K:=ax P u w fun _ w'=>K w'
 runN {fr n}:=pc P (fr,n)
 uU {f}:=af P f
 uV {f}:=fL P f
 uW {fr}:=pf P fr
 drew:=cj
 again:=uz
 over:=Over
 c3:=be
 aM:=be
 gY:=be
 uX:=be
 uY:=be
 uZ:=be
 u0:=Bf
 u1:=bJ
 u2:=bt
 u3:=jF
 u6:=po
 u7:=md
 va:=Bg
 vb:=Bj P
 vc:=Bk P
 loadVar {t} x:=do loadVar t (←asAddr x)
 alloc {t}:=T7 t true (.tuple #[])
 box {t} x:=Instr.box t x
 build {t} l:=Instr.build t l.toArray
 buildSlice {t n} l:=Z4 t n l.toArray
 load {t} x:=x6 t x
 nil x:=aX x
 bin {op t} a b x y:=av op t a b x y
 un {op} x:=Op.unary op x
 conv {s d} x:=convert s d x
 vd {t} x:=Instr.makeInterface t x
 ve {f} a b:=Instr.makeFunc f a.toArray b.toArray
 vf {t} x:=Instr.makeMap t x
 vg {t} l c:=Instr.makeSlice t l c
 slice {t} x l h m:=X6 t x l h m
 vh {t} x {f}:=x7 t x f
 field {t} x {f}:=Instr.field t x f
 vi {t} x i:=o6 t x i
 index {t} x i:=Instr.index t x i
 lookup {t} x i {ok}:=Instr.lookup t x i ok
 vj {t} m k:=Instr.mapEntry t m k
 range {t} x:=Instr.range t x
 entry x:=Instr.entry x
 assert {t a} x {ok}:=Instr.typeAssert x t a ok
 extract x {i}:=j6 x i
 next x {b}:=Instr.next x b 0
 append {ats t} l:=l9 ats t l.toArray
 cap {ats t} l:=n0.cap_ ats t l.toArray
 clear {ats t} l:=n0.clear_ ats t l.toArray
 copy {ats t} l:=n0.copy_ ats t l.toArray
 delete {ats t} l:=n0.delete_ ats t l.toArray
 len {ats t} l:=Z5 ats t l.toArray
 max {ats t} l:=n0.max_ ats t l.toArray
 min {ats t} l:=n0.min_ ats t l.toArray
 store {t} a x:=o3 t a x
 rH {t} m k x:=Instr.mapUpdate t m k x
 vk {t} m k x:=Instr.entryStore t m k x
end Go.Vc
namespace Go.Proofs.YtgbkinibgjmodaaGreatDoor
open Go Go.Vc Go.RowKit Go.Proofs Go.Proofs.Tryz
set_option maxRecDepth 100000
theorem mixed:x3.follows .mixedOrders=true:=by kernel_rfl
def vv:Nat:=4
def BB:Nat:=11
def BC:Nat:=12
def pF:Nat:=13
def BD:Nat:=14
def BE:Nat:=15
def pG:Nat:=16
def vw:Nat:=17
def BF:Nat:=18
def BG:Nat:=19
def vx:Nat:=20
def pH:Nat:=21
def nz:Nat:=22
def rQ:Nat:=31
def BH:Nat:=32
def mi:Nat:=33
def vy:Nat:=42
def KV:Nat:=44
def KW:Nat:=45
def KX:Nat:=47
def vz:Nat:=48
def BI:Nat:=49
def BJ:Nat:=52
def BK:Nat:=53
def rR:Nat:=54
def vA:Nat:=55
def pI:Nat:=56
def nA:Nat:=57
def vB:Nat:=58
def vC:Nat:=59
def BL:Nat:=60
def BM:Nat:=61
def BN:Nat:=62
def BO:Nat:=63
def BP:Nat:=64
def BQ:Nat:=66
def BR:Nat:=67
def BS:Nat:=68
def BT:Nat:=69
def BU:Nat:=70
def BV:Nat:=71
def BW:Nat:=72
def vD:Nat:=73
def vE:Nat:=74
def BX:Nat:=75
def BY:Nat:=76
def BZ:Nat:=77
def B1:Nat:=78
def B2:Nat:=79
def rS:Nat:=80
def B3:Nat:=81
def B4:Nat:=82
def vF:Nat:=83
def vG:Nat:=84
def vH:Nat:=85
def B5:Nat:=86
def vI:Nat:=87
def rT:Nat:=88
def rU:Nat:=89
def rV:Nat:=90
def rW:Nat:=91
def rX:Nat:=92
def vJ:Nat:=93
def rY:Nat:=103
def B6:Nat:=113
def B7:Nat:=114
def vK:Nat:=116
def B8:Nat:=117
def B9:Nat:=119
def Ca:Nat:=121
def Cb:Nat:=124
def Cc:Nat:=127
def Cd:Nat:=128
def Ce:Nat:=129
def Cf:Nat:=130
def vL:Nat:=131
def vM:Nat:=132
def Cg:Nat:=133
def Ch:Nat:=134
def Ci:Nat:=135
def Cj:Nat:=136
def vN:Nat:=137
def Ck:Nat:=138
def rZ:Nat:=139
def Cl:Nat:=140
def vO:Nat:=141
def Cm:Nat:=142
def vP:Nat:=143
def Cn:Nat:=144
def Co:Nat:=145
def vQ:Nat:=146
def vR:Nat:=147
def nB:Nat:=148
def k7:Nat:=149
def iU:Nat:=150
def vS:Nat:=151
def r0:Nat:=152
def k8:Nat:=153
def vT:Nat:=154
def r1:Nat:=155
def Cp:Nat:=156
def Cq:Nat:=157
def pJ:Nat:=158
def jL:Nat:=159
def vU:Nat:=160
def k9:Nat:=161
def Cr:Nat:=162
def Cs:Nat:=163
def Ct:Nat:=164
def Cu:Nat:=165
def Cv:Nat:=166
def Cw:Nat:=167
def Cx:Nat:=168
def Cy:Nat:=169
def r2:Nat:=170
def Cz:Nat:=171
def CA:Nat:=172
def CB:Nat:=173
def CC:Nat:=174
def CD:Nat:=175
def CE:Nat:=181
def cmp_isNaN_int:Nat:=182
def CF:Nat:=183
def jM:Nat:=187
def CG:Nat:=188
def vV:Nat:=191
def CH:Nat:=192
def CI:Nat:=193
def CJ:Nat:=194
def KY:Nat:=195
def pK:Nat:=196
def CK:Nat:=197
def CL:Nat:=198
def vW:Nat:=199
def CM:Nat:=200
def CN:Nat:=201
def CO:Nat:=202
def CP:Nat:=203
def CQ:Nat:=204
def mj:Nat:=205
def CR:Nat:=206
def CS:Nat:=207
def pL:Nat:=208
def CT:Nat:=209
def CU:Nat:=210
def vX:Nat:=211
def vY:Nat:=212
def CV:Nat:=213
def nC:Nat:=214
def CW:Nat:=215
def r3:Nat:=216
def CX:Nat:=217
def CY:Nat:=218
def vZ:Nat:=219
def CZ:Nat:=220
def C0:Nat:=221
def C1:Nat:=222
def C2:Nat:=223
def v7:Nat:=224
def C3:Nat:=225
def C4:Nat:=226
def pM:Nat:=227
def C5:Nat:=228
def C6:Nat:=238
def C7:Nat:=240
def C8:Nat:=242
def r4:Nat:=243
def pN:Nat:=244
def C9:Nat:=245
def r5:Nat:=246
def Da:Nat:=247
def Db:Nat:=248
def r6:Nat:=249
def Dc:Nat:=250
def Dd:Nat:=251
def v8:Nat:=252
def wa:Nat:=253
def De:Nat:=254
def Df:Nat:=255
def Dg:Nat:=256
def Dh:Nat:=257
def Di:Nat:=258
def Dj:Nat:=259
def Dk:Nat:=260
def KZ:Nat:=261
def pO:Nat:=263
def wb:Nat:=264
def Dl:Nat:=265
def Dm:Nat:=266
def Dn:Nat:=267
def Do:Nat:=268
def Dp:Nat:=269
def K0:Nat:=271
def Dq:Nat:=277
def K1:Nat:=278
def Dr:Nat:=279
def K2:Nat:=280
def Ds:Nat:=281
def Dt:Nat:=282
def ml:Nat:=283
def Du:Nat:=284
def Dv:Nat:=285
def Dw:Nat:=286
def Dx:Nat:=295
def Dy:Nat:=296
def Dz:Nat:=297
def DA:Nat:=298
def jN:Nat:=299
def DB:Nat:=300
def DC:Nat:=302
def DD:Nat:=303
def DE:Nat:=304
def K3:Nat:=305
def DF:Nat:=309
def DG:Nat:=310
def DH:Nat:=312
def DI:Nat:=313
def DJ:Nat:=314
def K4:Nat:=315
def DK:Nat:=316
def K5:Nat:=317
def K6:Nat:=318
def K7:Nat:=319
def K8:Nat:=320
def K9:Nat:=321
def cmp_Less_int:Nat:=322
def La:Nat:=323
def Lb:Nat:=324
def Lc:Nat:=334
def Ld:Nat:=335
abbrev DL:Nat:=0
abbrev ak:Nat:=2
abbrev U:Nat:=3
abbrev ea:Nat:=4
abbrev b5:Nat:=5
abbrev cz:Nat:=9
abbrev b7:Nat:=22
abbrev fN:Nat:=25
abbrev ac:Nat:=26
abbrev cQ:Nat:=27
abbrev ew:Nat:=28
abbrev ek:Nat:=29
abbrev ck:Nat:=30
abbrev fO:Nat:=31
abbrev aK:Nat:=33
abbrev dL:Nat:=37
abbrev eb:Nat:=39
abbrev cc:Nat:=41
abbrev mm:Nat:=50
abbrev r7:Nat:=51
abbrev kz:Nat:=52
abbrev aN:Nat:=54
abbrev au:Nat:=68
abbrev aT:Nat:=70
abbrev dj:Nat:=72
abbrev kA:Nat:=92
abbrev kB:Nat:=95
abbrev cY:Nat:=98
abbrev sa:Nat:=111
abbrev sb:Nat:=114
abbrev cq:Nat:=120
abbrev c4:Nat:=122
abbrev nD:Nat:=125
abbrev en:Nat:=126
abbrev bM:Nat:=128
abbrev bg:Nat:=136
abbrev dw:Nat:=138
abbrev dk:Nat:=145
abbrev dM:Nat:=147
abbrev cg:Nat:=153
abbrev pP:Nat:=197
abbrev ec:Nat:=200
abbrev fP:Nat:=201
abbrev bT:Nat:=203
abbrev hB:Nat:=208
abbrev gZ:Nat:=209
abbrev bK:Nat:=211
abbrev c8:Nat:=217
abbrev b4:Nat:=219
abbrev dU:Nat:=220
abbrev b1:Nat:=222
abbrev ey:Nat:=224
abbrev cZ:Nat:=228
abbrev bf:Nat:=230
abbrev c5:Nat:=232
abbrev bY:Nat:=234
abbrev dq:Nat:=238
abbrev aR:Nat:=240
abbrev iV:Nat:=245
abbrev eY:Nat:=247
abbrev gD:Nat:=250
abbrev gE:Nat:=252
abbrev la:Nat:=253
abbrev pQ:Nat:=254
abbrev eK:Nat:=256
abbrev fb:Nat:=258
abbrev dN:Nat:=260
abbrev iW:Nat:=262
abbrev kC:Nat:=266
abbrev cD:Nat:=271
abbrev mn:Nat:=278
abbrev gf:Nat:=290
abbrev hR:Nat:=296
abbrev dr:Nat:=301
abbrev bR:Nat:=304
abbrev fc:Nat:=306
abbrev cr:Nat:=311
abbrev ha:Nat:=320
abbrev eL:Nat:=322
abbrev mo:Nat:=323
abbrev fd:Nat:=326
abbrev Le:Nat:=332
abbrev mp:Nat:=340
abbrev fA:Nat:=343
abbrev eZ:Nat:=345
abbrev b2:Nat:=347
abbrev iX:Nat:=363
abbrev hC:Nat:=365
abbrev jO:Nat:=394
abbrev kD:Nat:=409
abbrev pR:Nat:=426
theorem az {f:FuncId} {fn:Func} {c:Code} {Q:x1→x2→Prop} {Z:{B S aO:Type}→ky B S aO→(x1→x2→B)→B} {X:Prop} (J:x3.funcs[f]? =some fn) (h:X)
  (O:fn.body=some c:=by rfl) (_:∀ {B S aO:Type} (A:ky B S aO) (Q:x1→x2→B),rP A false false (n:=w.heap.size) fn c args w Q=Z A Q:=by intros;conv=>lhs;reduce)
  (_:Z (mh x3) Q=X:=by dsimp only[mh]) (e:X=dF x3 fn.ntmps (false,w.heap.size) c (kw fn.results.toList) (iR 0 args) w (jI x3 fn.results.toList false Q):=by kernel_rfl)
  (I:(!(fn.name == "runtime.NumGoroutine")&&wf fn.ntmps c&&Nat.ble args.length fn.ntmps&& !ig c)=true:=by kernel_rfl):af x3 f args w Q:=by
 simp only[V5,Bool.not_eq_true'] at I;exact af.Bu mixed J O I.1.1.1 I.1.1.2 I.1.2 I.2 (e▸h)
theorem nE {f:FuncId} {fn:Func} {c:Code} {Q:x1→x2→Prop} {Z:{B S aO:Type}→ky B S aO→(x1→x2→B)→B} {X:Prop} (J:x3.funcs[f]? =some fn) (h:X)
  (O:fn.body=some c:=by rfl) (_:∀ {B S aO:Type} (A:ky B S aO) (Q:x1→x2→B),rP A false true (n:=w.heap.size) fn c args w Q=Z A Q:=by intros;conv=>lhs;reduce)
  (_:Z (mh x3) Q=X:=by dsimp only[mh]) (e:X=dF x3 fn.ntmps (false,w.heap.size) c (kw fn.results.toList) (iR 0 args) w (jI x3 fn.results.toList true Q):=by kernel_rfl)
  (I:(!(fn.name == "runtime.NumGoroutine")&&wf fn.ntmps c&&Nat.ble args.length fn.ntmps)=true:=by kernel_rfl):af x3 f args w Q:=by
 simp only[V5,Bool.not_eq_true'] at I;exact af.enter mixed J O I.1.1 I.1.2 I.2 (e▸h)
theorem sd {f:FuncId} {fn:Func} {c:Code} {Q:x1→x2→Prop} {Z:{B S aO:Type}→ky B S aO→(x1→x2→B)→B} {X:Prop} (J:x3.funcs[f]? =some fn) (h:X)
  (O:fn.body=some c:=by rfl) (_:∀ {B S aO:Type} (A:ky B S aO) (Q:x1→x2→B),rP A true false (n:=0) fn c args w Q=Z A Q:=by intros;conv=>lhs;reduce)
  (_:Z (mh x3) Q=X:=by dsimp only[mh]) (e:X=dF x3 fn.ntmps (true,0) c (kw fn.results.toList) (iR 0 args) w (jI x3 fn.results.toList false Q):=by kernel_rfl)
  (I:(!(fn.name == "runtime.NumGoroutine")&&wf fn.ntmps c&&Nat.ble args.length fn.ntmps)=true:=by kernel_rfl):fL x3 f args w Q:=by
 simp only[V5,Bool.not_eq_true'] at I;exact fL.enter mixed J O I.1.1 I.1.2 I.2 (e▸h)
theorem jM.enters:Enters x3 jM:=Enters.of x3 (show x3.funcs[jM]? =some Tryz.f187 from Tryz.func187) rfl (by kernel_rfl)
theorem ml.enters:Enters x3 ml:=Enters.of x3 (show x3.funcs[ml]? =some Tryz.f283 from Tryz.func283) rfl (by kernel_rfl)
theorem jN.enters:Enters x3 jN:=Enters.of x3 (show x3.funcs[jN]? =some Tryz.f299 from Tryz.func299) rfl (by kernel_rfl)
end Go.Proofs.YtgbkinibgjmodaaGreatDoor
namespace Go.Vc
open Go Go.RowKit
structure ad (S:Nat→Prop) (w w':x2):Prop where
 size:w.heap.size≤w'.heap.size
 ba:∀ (r:Nat) (o:Obj),w.heap[r]? =some o→fK o=true→¬S r→w'.heap[r]? =some o
theorem Ext.O (S:Nat→Prop) (h:Ext w w'):ad S w w':=⟨h.size,fun r o I J _=>h.ba r o I J⟩
theorem ad.ext (h:ad S w w') (J:∀ r,r<w.heap.size→¬S r):Ext w w':=
 ⟨h.size,fun r o I O=>h.ba r o I O (J r (l7.1 I).1)⟩
theorem ad.refl (S:Nat→Prop) (w:x2):ad S w w:=⟨o7 _,fun _ _ h _ _=>h⟩
theorem ad.trans {a b c:x2} (h:ad S a b) (k:ad S b c):ad S a c:=
 ⟨W7 h.size k.size,fun r o O I J=>k.ba r o (h.ba r o O I J) I J⟩
theorem ad.mono {T:Nat→Prop} {a b:x2} (h:ad S a b) (J:∀ r,r<a.heap.size→S r→T r):ad T a b:=
 ⟨h.size,fun r o I O U=>h.ba r o I O fun V=>U (J r (l7.1 I).1 V)⟩
theorem Ext.then {a b c:x2} (h:Ext a b) (k:ad S b c) (O:∀ r,r<a.heap.size→¬S r):Ext a c:=
 ⟨W7 h.size k.size,fun r o I J=>k.ba r o (h.ba r o I J) J (O r (l7.1 I).1)⟩
theorem se {b:Nat} (h:w.cell? ⟨b,o,none⟩=some v):∃ c e f,w.heap[b]? =some (.cells c e f)∧c[o]? =some v:=by
 simp only[x2.cell?] at h;split at h
 ·rename_i c e f I;exact⟨c,e,f,I,by simpa using h⟩
 ·cases h
theorem wc (I:ad S w w') {b:Nat} (J:¬S b) (h:w.cell? ⟨b,o,none⟩=some v):w'.cell? ⟨b,o,none⟩=some v:=by
 obtain⟨c,e,f,O,U⟩:=se h;simp[x2.cell?,I.ba b _ O rfl J,U]
theorem lb (I:Ext w w') {b:Nat} (h:w.cell? ⟨b,o,none⟩=some v):w'.cell? ⟨b,o,none⟩=some v:=
 wc (I.O fun _=>False) (fun h=>h) h
theorem nF (I:Ext w w') {b:Nat} (h:w.rangeAt b o cs):w'.rangeAt b o cs:=fun j v J=>lb I (h j v J)
theorem pS (I:ad S w w') {b:Nat} (J:¬S b) (h:w.rangeAt b o cs):w'.rangeAt b o cs:=fun j v O=>wc I J (h j v O)
def ae (w:x2) (g:Nat) (e:r8) (cs:List x1):Prop:=w.heap[g]? =some (.cells cs.toArray e (0,0))
theorem ae.ext {g:Nat} (h:ae w g e cs) (I:Ext w w'):ae w' g e cs:=I.ba g _ h rfl
theorem ae.O {g:Nat} (h:ae w g e cs) (I:ad S w w') (J:¬S g):ae w' g e cs:=I.ba g _ h rfl J
theorem ae.lt {g:Nat} (h:ae w g e cs):g<w.heap.size:=(l7.1 h).1
theorem ae.cell {g:Nat} (h:ae w g e cs) (I:cs[o]? =some v):w.cell? ⟨g,o,none⟩=some v:=by
 unfold ae at h;simp[x2.cell?,h,I]
theorem ae.range {g:Nat} (h:ae w g e cs):w.rangeAt g 0 cs:=fun j v I=>by rw[W6];exact h.cell I
theorem ae.frozen {g:Nat} (h:ae w g e cs) (o:Nat) (I:Option Nat):w.frozen? ⟨g,o,I⟩=false:=by
 unfold ae at h;simp[x2.frozen?,h]
def bS (w:x2) (k:Nat) (v:x1) (n:Nat) (cs:List x1):Prop:=
 cs.length=n*k∧ ∃ b o base cap,v= .slice base n cap∧n≤cap∧cap≤maxLen∧(0<n→base=some ⟨b,o,none⟩)∧w.rangeAt b o cs
theorem bS.ext {k:Nat} (h:bS w k v n cs) (I:Ext w w'):bS w' k v n cs:=by
 obtain⟨h1,b,o,base,cap,J,O,U,V,W⟩:=h;exact⟨h1,b,o,base,cap,J,O,U,V,nF I W⟩
theorem bS.le {k:Nat} (h:bS w k v n cs):n≤maxLen:=by
 obtain⟨_,_,_,_,_,_,I,J,_⟩:=h;exact W7 I J
theorem bS.nil (w:x2) (k:Nat):bS w k (.slice none 0 0) 0 []:=⟨by simp,0,0,none,0,rfl,o7 _,Y7 _,fun h=>absurd h (Nat.lt_irrefl _),fun j v h=>by simp at h⟩
def aJ (P:X5) (t:r8) (k b:Nat) (z:x1):Prop:=∃ i,P.info? t=some i∧i.size=k∧i.bytes=b∧i.zero=some z
theorem aJ.of {P:X5} {k b:Nat} (h:(P.info? t).map (fun i=>(i.size,i.bytes,i.zero))=some (k,b,some z)):aJ P t k b z:=by
 cases hi:P.info? t with
 |none=>simp[hi] at h
 |some i=>simp[hi] at h;exact⟨i,hi,h⟩
theorem aJ.size {P:X5} {k b:Nat} (h:aJ P t k b z):(P.info? t).map (·.size)=some k:=by
 obtain⟨i,hi,I,_⟩:=h;simp[hi,I]
def bo (P:X5) (t:r8) (pl:List (Nat×Nat)):Prop:=∃ I,P.underlying t=some (.struct I)∧I.toList.map (fun f=>(f.offset,((P.info? f.type).map (·.size)).getD 0))=pl
def we (P:X5) (t:r8):Option (List (Nat×Nat)):=match P.underlying t with
 |some (.struct I)=>some (I.toList.map fun f=>(f.offset,((P.info? f.type).map (·.size)).getD 0))
 |_=>none
theorem bo.of {P:X5} {pl:List (Nat×Nat)} (h:we P t=some pl):bo P t pl:=by
 unfold we at h;split at h
 ·rename_i I hu;exact⟨I,hu,by simpa using h⟩
 ·cases h
section
variable {P:X5} {w:x2}
theorem I.of {s:Sem x1} (h:∀ w',Ext w w'→s.run P w'= .ok v w'):I P s w K=K v:=by
 refine propext ⟨fun⟨J,h',k⟩=>?_,fun k=>⟨v,h,k⟩⟩;have:=h' w (Ext.refl w);rw[h w (Ext.refl w)] at this;cases this;exact k
theorem ax.of {α:Type} {s:Sem α} {v:α} {K:α→x2→Prop} (h:s.run P w= .ok v w') (I:cP w w') (k:K v w'):ax P s w K:=⟨v,w',h,I,k⟩
theorem br {c:Bool} {A B:Prop}:Split (.bool c) A B=((c=true→A)∧(c=false→B)):=by
 refine propext ⟨fun⟨J,h,h1,I⟩=>?_,fun⟨h1,I⟩=>⟨c,rfl,h1,I⟩⟩;cases h;exact⟨h1,I⟩
theorem ab {p:Prop} [Decidable p] {A B:Prop}:Split (.bool (decide p)) A B=((p→A)∧(¬p→B)):=by rw[br];simp
theorem bC {A B:Prop}:Split (.bool true) A B=A:=by rw[br];simp
theorem aP {A B:Prop}:Split (.bool false) A B=B:=by rw[br];simp
theorem aI {b:Int}:I P (av .add t cx cy (.int k a) (.int k b)) w K=K (.int k (k.wrap (a+b))):=
 I.of fun w' _=>by simp[av,eqGuard,binOp,Op.intArith]
theorem dd {b:Int}:I P (av .sub t cx cy (.int k a) (.int k b)) w K=K (.int k (k.wrap (a-b))):=
 I.of fun w' _=>by simp[av,eqGuard,binOp,Op.intArith]
theorem e0 {b:Int}:I P (av .mul t cx cy (.int k a) (.int k b)) w K=K (.int k (k.wrap (a*b))):=
 I.of fun w' _=>by simp[av,eqGuard,binOp,Op.intArith]
theorem nG {b:Int} (J:b≠0):I P (av .quo t cx cy (.int k a) (.int k b)) w K=K (.int k (k.wrap (a.tdiv b))):=
 I.of fun w' _=>by simp[av,eqGuard,binOp,Op.intDiv,J]
theorem ik {b:Int} (J:b≠0):I P (av .rem t cx cy (.int k a) (.int k b)) w K=K (.int k (a.tmod b)):=
 I.of fun w' _=>by simp[av,eqGuard,binOp,Op.intDiv,J]
theorem an {b:Int}:I P (av .lss t cx cy (.int k a) (.int k b)) w K=K (.bool (decide (a<b))):=
 I.of fun w' _=>by simp[av,eqGuard,binOp,Op.intCmp]
theorem ld {b:Int}:I P (av .leq t cx cy (.int k a) (.int k b)) w K=K (.bool (decide (a≤b))):=
 I.of fun w' _=>by simp[av,eqGuard,binOp,Op.intCmp]
theorem bA {b:Int}:I P (av .gtr t cx cy (.int k a) (.int k b)) w K=K (.bool (decide (b<a))):=
 I.of fun w' _=>by simp[av,eqGuard,binOp,Op.intCmp]
theorem cm {b:Int}:I P (av .geq t cx cy (.int k a) (.int k b)) w K=K (.bool (decide (b≤a))):=
 I.of fun w' _=>by simp[av,eqGuard,binOp,Op.intCmp]
theorem a8 {b:Int}:I P (av .eql t cx cy (.int k a) (.int k b)) w K=K (.bool (decide (a=b))):=
 I.of fun w' _=>by
  have:(a == b)=decide (a=b):=by by_cases h:a=b <;> simp[h]
  simp[av,eqGuard,binOp,Op.intCmp,this]
theorem bF {b:Int}:I P (av .neq t cx cy (.int k a) (.int k b)) w K=K (.bool (decide (a≠b))):=
 I.of fun w' _=>by
  have:(a != b)=decide (a≠b):=by by_cases h:a=b <;> simp[h,bne]
  simp[av,eqGuard,binOp,Op.intCmp,this]
theorem wg {J:o4} {b:Int} (O:0≤b):I P (av .shl t cx cy (.int k a) (.int J b)) w K=K (.int k (k.wrap (a*2 ^ min b.toNat k.bits))):=
 I.of fun w' _=>by simp[av,eqGuard,binOp,Op.shift,show ¬b<0 by omega]
theorem bc {c:Bool}:I P (Op.unary .not (.bool c)) w K=K (.bool !c):=I.of fun w' _=>by simp[Op.unary]
theorem kE:I P (Op.unary .neg (.int k a)) w K=K (.int k (k.wrap (0-a))):=I.of fun w' _=>by simp[Op.unary,Op.intArith]
theorem e1 {s d:r8} {J:o4} (O:P.underlying s=some (.int J)) (U:P.underlying d=some (.int k)):
  I P (convert s d (.int J a)) w K=K (.int k (k.wrap a)):=I.of fun w' _=>by simp[convert,run_underlying O,run_underlying U,Conv.intToInt]
theorem sf {x y:x1} {r:Bool} (J:∀ w',(eqGuard .eql t (aG cx) (aG cy) x y).run P w'= .ok () w')
  (O:binOp .eql t x y=(do pure (.bool (←Op.equal t x y)))) (h:∀ w',Ext w w'→(Op.equal t x y).run P w'= .ok r w'):I P (av .eql t cx cy x y) w K=K (.bool r):=I.of fun w' U=>by
 unfold av;rw[O,X2,J w',Result.andThen_ok,X2,h w' U];rfl
theorem DM {x y:x1} {r:Bool} (J:∀ w',(eqGuard .neq t (aG cx) (aG cy) x y).run P w'= .ok () w')
  (O:binOp .neq t x y=(do pure (.bool (!(←Op.equal t x y))))) (h:∀ w',Ext w w'→(Op.equal t x y).run P w'= .ok r w'):I P (av .neq t cx cy x y) w K=K (.bool !r):=I.of fun w' U=>by
 unfold av;rw[O,X2,J w',Result.andThen_ok,X2,h w' U];rfl
theorem wh (w:x2) (d:Nat) {p:Option Addr} (h:P.underlying t=some (.pointer e)):(Op.equalIn (d+1) t (.pointer p) (.pointer none)).run P w= .ok p.isNone w:=by
 cases p <;> simp[Op.equalIn,run_underlying h]
theorem pT {base:Option Addr} (J:P.underlying t=some (.slice e)):
  I P (av .eql t cx cy (.slice base n c) (.slice none 0 0)) w K=K (.bool base.isNone):=sf (fun _=>rfl) rfl fun w' _=>run_equal_slice_nil w' t e base n c J
theorem cI {p:Option Addr} (J:P.underlying t=some (.pointer e)):
  I P (av .eql t cx cy (.pointer p) (.pointer none)) w K=K (.bool p.isNone):=sf (fun _=>rfl) rfl fun w' _=>wh w' 9999 J
theorem wi {p:Option Addr} (J:P.underlying t=some (.pointer e)):
  I P (av .neq t cx cy (.pointer p) (.pointer none)) w K=K (.bool !p.isNone):=DM (fun _=>rfl) rfl fun w' _=>wh w' 9999 J
theorem gg {J:r8} {base:Option Addr} (O:P.underlying t=some (.slice e)):
  I P (Z5 #[t] J #[.slice base n c]) w K=K (.int .i64 n):=I.of fun w' _=>by simp[Z5,run_underlying O,goInt]
theorem hD {J:Array r8} {O:r8} {b:Int}:
  I P (n0.min_ J O #[.int k a,.int k b]) w K=K (.int k (min a b)):=I.of fun w' _=>by
 simp only[n0.min_,List.foldlM,n0.min2];simp only[X2,X8,Result.andThen_ok,Int.min_def];congr 2;split <;> split <;> omega
theorem pU {J:Array r8} {O:r8} {b:Int}:
  I P (n0.max_ J O #[.int k a,.int k b]) w K=K (.int k (max a b)):=I.of fun w' _=>by
 simp only[n0.max_,List.foldlM,n0.max2];simp only[X2,X8,Result.andThen_ok,Int.max_def];congr 2;split <;> split <;> omega
theorem aD {vs:Array x1} {i:Nat} (h:vs[i]? =some v):I P (j6 (.tuple vs) i) w K=K v:=I.of fun w' _=>by simp[j6,h]
theorem lf {f:Fn} {a b:Array x1}:I P (Instr.makeFunc f a b) w K=K (.func f a b):=I.of fun _ _=>rfl
def kF (P:X5) (t:r8):Bool:=match P.underlying t with
 |some (.struct _)|some (.array _ _)|none=>false
 |_=>true
theorem aa {b:Nat} (J:kF P t=true) (h:w.cell? ⟨b,o,none⟩=some v):
  I P (x6 t (.pointer (some ⟨b,o,none⟩))) w K=K v:=I.of fun w' O=>by
 have h':=lb O h;unfold kF at J;cases hu:P.underlying t with
 |none=>rw[hu] at J;cases J
 |some d=>
  rw[hu] at J;cases d <;> first|(cases J;done)|simp[x6,Instr.sureAddr,loadVar,isAgg,run_underlying hu,h']
theorem wj {d:TypeDesc} {b k:Nat} (hu:P.underlying t=some d) (O:d.isRow=true) (hi:aJ P t k J z) (U:cs.length=k)
  (h:w.rangeAt b o cs):I P (x6 t (.pointer (some ⟨b,o,none⟩))) w K=K (.agg cs.toArray):=I.of fun w' V=>
 run_loadAt_mid (P:=P) w' b o t cs d (nF V h) hu O (by rw[hi.size,U])
theorem bw {pl:List (Nat×Nat)} {b k:Nat} (hu:bo P t pl) (hi:aJ P t k J z) (O:cs.length=k)
  (h:w.rangeAt b o cs):I P (x6 t (.pointer (some ⟨b,o,none⟩))) w K=K (.agg cs.toArray):=by
 obtain⟨U,hu,_⟩:=hu;exact wj hu rfl hi O h
theorem V {pl:List (Nat×Nat)} {i b off z:Nat} (Y:bo P t pl) (J:pl[i]? =some (off,z+1)):
  I P (x7 t (.pointer (some ⟨b,o,none⟩)) i) w K=K (.pointer (some ⟨b,o+off,none⟩)):=I.of fun w' _=>by
 obtain⟨aa,hu,rfl⟩:=Y;rw[x8] at J;cases O:aa[i]? with
 |none=>rw[T5,O] at J;cases J
 |some f=>
  rw[T5,O] at J;simp only[Z2,Y3,U9] at J;obtain⟨rfl,W⟩:=J;cases U:P.info? f.type with
  |none=>simp[U] at W
  |some j=>
   have ab:j.size=z+1:=by simpa[U] using W
   simp[x7,run_underlying hu,O,Instr.sureAddr,fieldPlace,sizeOf,typeInfo,U,ab,U4]
theorem wk {i:Int} {b z O:Nat} {U:x1} {base:Option Addr} (hu:P.underlying t=some (.slice e)) (V:aJ P e z O U)
  (W:0≤i) (hi:i<n) (J:0<n→base=some ⟨b,o,none⟩):
  I P (o6 t (.slice base n c) (.int k i)) w K=K (.pointer (some ⟨b,o+i.toNat*z,none⟩)):=I.of fun w' _=>by
 have J:=J (by omega);subst J;obtain⟨j,Y,aa,_⟩:=V;simp[o6,asIntOf,run_underlying hu,W,hi,sizeOf,typeInfo,Y,aa,U4]
theorem fe {i:Nat} {b z:Nat} {O:x1} {base:Option Addr} (hu:P.underlying t=some (.slice e)) (U:aJ P e z J O)
  (hi:i<n) (V:0<n→base=some ⟨b,o,none⟩):
  I P (o6 t (.slice base n c) (.int k (i:Int))) w K=K (.pointer (some ⟨b,o+i*z,none⟩)):=by
 rw[wk (i:=(i:Int)) hu U (by omega) (by omega) V];rfl
theorem DN {i:Int} {b z:Nat} {O:x1} (hu:P.underlying t=some (.array n e)) (U:aJ P e z J O)
  (V:0≤i) (hi:i<n):
  I P (o6 t (.pointer (some ⟨b,o,none⟩)) (.int k i)) w K=K (.pointer (some ⟨b,o+i.toNat*z,none⟩)):=I.of fun w' _=>by
 obtain⟨j,W,Y,_⟩:=U;simp[o6,asIntOf,run_underlying hu,Instr.sureAddr,V,hi,sizeOf,typeInfo,W,Y,U4]
theorem wm {i:Nat} {b z:Nat} {O:x1} (hu:P.underlying t=some (.array n e)) (U:aJ P e z J O) (hi:i<n):
  I P (o6 t (.pointer (some ⟨b,o,none⟩)) (.int k (i:Int))) w K=K (.pointer (some ⟨b,o+i*z,none⟩)):=by
 rw[DN (i:=(i:Int)) hu U (by omega) (by omega)];rfl
def jP:Option x1→Nat→Prop
 |none,l=>l=0
 |some v,l=>∃ k,v= .int k l
def jQ:Option x1→Nat→Nat→Prop
 |none,n,h=>h=n
 |some v,_,h=>∃ k,v= .int k h
def maxOf:Option x1→Option x1→Nat→Nat→Prop
 |none,_,c,m=>m=c
 |some v,some _,_,m=>∃ k,v= .int k m
 |some _,none,_,_=>False
theorem nH {l:Nat}:jP (some (.int k (l:Int))) l:=⟨_,rfl⟩
theorem lg (l:Nat) (x:Int) (h:x=(l:Int)):jP (some (.int k x)) l:=⟨k,by rw[h]⟩
theorem lh (l:Nat) (x:Int) (h:x=(l:Int)):jQ (some (.int k x)) n l:=⟨k,by rw[h]⟩
theorem hS:jP none 0:=rfl
theorem nI:jQ (some (.int k (h:Int))) n h:=⟨_,rfl⟩
theorem hT:jQ none n n:=rfl
theorem eM {h:Option x1}:maxOf none h c c:=by cases h <;> rfl
theorem pV (w:x2) {sl:Bool} {l:Nat} {low high mx:Option x1} (h1:jP low l) (J:jQ high n h) (I:maxOf mx high c m) (O:l≤h) (U:h≤m) (hm:m≤c):
  (Instr.sliceBounds sl n c low high mx).run P w= .ok (l,h,m) w:=by
 cases low <;> cases high <;> cases mx <;> simp only[jP,jQ,maxOf] at h1 J I <;> (try exact I.elim) <;> (try obtain⟨V,rfl⟩:=h1) <;> (try obtain⟨W,rfl⟩:=J) <;> (try obtain⟨Y,rfl⟩:=I) <;> (try subst h1) <;> (try subst J) <;> (try subst I) <;>
  simp[Instr.sliceBounds,Instr.sliceBound,asIntOf,O,U,hm]
theorem gh {z l:Nat} {O:x1} {base:Option Addr} {low high mx:Option x1} (hu:P.underlying t=some (.slice e)) (U:aJ P e z J O)
  (h1:jP low l) (V:jQ high n h) (W:maxOf mx high c m) (Y:l≤h) (aa:h≤m) (hm:m≤c):
  I P (X6 t (.slice base n c) low high mx) w K=K (.slice (if m=l then base else base.map (·.add (l*z))) (h-l) (m-l)):=I.of fun w' _=>by
 obtain⟨j,ab,ac,_⟩:=U;simp[X6,Instr.slice,run_underlying hu,pV w' h1 V W Y aa hm,sizeOf,typeInfo,ab,ac]
theorem pW {z l b:Nat} {O:x1} {low high mx:Option x1} (hu:P.underlying t=some (.array n e)) (U:aJ P e z J O)
  (h1:jP low l) (V:jQ high n h) (W:maxOf mx high n m) (Y:l≤h) (aa:h≤m) (hm:m≤n):
  I P (X6 t (.pointer (some ⟨b,o,none⟩)) low high mx) w K=K (.slice (some (if m=l then⟨b,o,none⟩ else⟨b,o+l*z,none⟩)) (h-l) (m-l)):=I.of fun w' _=>by
 obtain⟨j,ab,ac,_⟩:=U;simp[X6,Instr.sureAddr,run_underlying hu,pV w' h1 V W Y aa hm,sizeOf,typeInfo,ab,ac,U4]
theorem cH {parts:Array (Nat×x1)} {cs:Array x1} (h:P.built t parts.toList=some cs):I P (Instr.build t parts) w K=K (.agg cs):=I.of fun w' _=>
 run_build (P:=P) w' t parts cs h
end
theorem bS.part {k l:Nat} {base:Option Addr} (J:bS w k (.slice base n c) n cs) (Y:l≤h) (O:h≤n) (hm:h≤m) (aa:m≤c):
  bS w k (.slice (if m=l then base else base.map (·.add (l*k))) (h-l) (m-l)) (h-l) ((cs.drop (l*k)).take ((h-l)*k)):=by
 obtain⟨h1,b,o,ab,cap,he,ac,ad,U,V⟩:=J;cases he;have ae:h*k≤n*k:=X0 _ O;have af:l*k+(h-l)*k=h*k:=by rw[←V4];congr 1;omega
 refine⟨by simp[h1];omega,b,o+l*k,_,m-l,rfl,by omega,by omega,fun ag=>?_,fun j v I=>?_⟩
 ·rw[U (by omega),if_neg (by omega)];simp[U4]
 ·have W:=(x4.1 I).1;simp at W;rw[Z6 (by omega),List.getElem?_drop] at I;rw[Nat.add_assoc];exact V _ _ I
section
variable {P:X5} {w:x2}
structure hE (g:Nat) (w w':x2):Prop where
 os:w'.os=w.os
 tape:iM w w'
 output:w'.output=w.output
 size:w'.heap.size=w.heap.size
 ba:∀ r,r≠g→w'.heap[r]? =w.heap[r]?
theorem hE.refl (g:Nat) (w:x2):hE g w w:=⟨rfl,.iN,rfl,rfl,fun _ _=>rfl⟩
theorem hE.trans {g:Nat} {a b c:x2} (h:hE g a b) (k:hE g b c):hE g a c:=
 ⟨k.os.trans h.os,k.tape.trans h.tape,k.output.trans h.output,k.size.trans h.size,fun r I=>(k.ba r I).trans (h.ba r I)⟩
theorem hE.O {g:Nat} (h:hE g w w'):ad (fun r=>r=g) w w':=⟨Nat.le_of_eq h.size.symm,fun r o I _ J=>by rw[h.ba r J];exact I⟩
theorem hE.dc {g:Nat} (h:hE g w w') (J:ae w g e cs):cP w w':=
 ⟨h.os,h.tape,h.output,Nat.le_of_eq h.size.symm,fun r o I U=>by
  by_cases O:r=g
  ·subst O;unfold ae at J;rw[J] at I;cases I;simp[fK] at U
  ·rw[h.ba r O];exact I⟩
theorem wn {g:Nat} (h:ae w g e cs) (o:Nat) (v:x1):ae (w.setCell ⟨g,o,none⟩ v) g e (cs.set o v)∧hE g w (w.setCell ⟨g,o,none⟩ v):=by
 unfold ae at h;refine⟨?_,rfl,.iN,rfl,by simp[x2.setCell],fun r I=>?_⟩
 ·simp[ae,x2.setCell,Array.getElem?_modify,h]
 ·simp[x2.setCell,Array.getElem?_modify,Ne.symm I]
def over (cs:List x1):Nat→List x1→List x1
 |_,[]=>cs
 |o,v::r=>over (cs.set o v) (o+1) r
theorem jR:∀ (vs cs:List x1) (o:Nat),(over cs o vs).length=cs.length
 |[],_,_=>rfl
 |v::r,cs,o=>by simp[over,jR r]
theorem li:∀ (vs cs:List x1) (o:Nat),o+vs.length≤cs.length→ ∀ j,(over cs o vs)[j]? =if o≤j∧j<o+vs.length then vs[j-o]? else cs[j]?
 |[],cs,o,_,j=>by simp[over];intro h1 I;omega
 |v::r,cs,o,h,j=>by
  simp only[j4] at h;rw[over,li r (cs.set o v) (o+1) (by simp;omega) j];simp only[j4];by_cases h1:o+1≤j∧j<o+1+r.length
  ·rw[if_pos h1,if_pos (by omega)];rw[show j-o=(j-(o+1))+1 by omega,List.getElem?_cons_succ]
  ·rw[if_neg h1];by_cases I:j=o
   ·subst I;rw[if_pos (by omega),W8 (by omega)];simp
   ·rw[if_neg (by omega),W3 (Ne.symm I)]
theorem kG (h:o+vs.length≤cs.length):over cs o vs=cs.take o++vs++cs.drop (o+vs.length):=by
 apply Y8;intro j;rw[li vs cs o h];by_cases h1:j<o
 ·rw[if_neg (by omega),Z7 (by simp;omega),Z7 (by simp;omega),Z6 h1]
 ·by_cases I:j<o+vs.length
  ·rw[if_pos (by omega),Z7 (by simp;omega),Z8 (by simp;omega)];congr 1;simp;omega
  ·rw[if_neg (by omega),Z8 (by simp;omega),List.getElem?_drop];congr 1;simp;omega
theorem lj {g:Nat} {e:r8}:∀ (vs:List x1) (cs:List x1) (o:Nat) (w:x2),ae w g e cs→ae (w.setCells g o vs) g e (over cs o vs)∧hE g w (w.setCells g o vs)
 |[],cs,o,w,h=>⟨h,hE.refl _ _⟩
 |v::r,cs,o,w,h=>by
  obtain⟨h1,I⟩:=wn h o v;obtain⟨J,O⟩:=lj r (cs.set o v) (o+1) _ h1;exact⟨J,I.trans O⟩
theorem pX (w:x2) (c:List x1) (e:r8):ae (w.alloc (.cells c.toArray e)) w.heap.size e c∧Ext w (w.alloc (.cells c.toArray e))∧cP w (w.alloc (.cells c.toArray e)):=
 ⟨heap_alloc_new w _,nj w _,nk w _⟩
theorem bu {k I:Nat} {K:x1→x2→Prop} (hi:aJ P t k I z)
  (h:∀ g w',g=w.heap.size→Ext w w'→ae w' g t z.cells.toList→K (.pointer (some ⟨g,0,none⟩)) w'):ax P (T7 t true (.tuple #[])) w K:=by
 obtain⟨i,hi,_,_,J⟩:=hi;obtain⟨h1,O,U⟩:=pX w z.cells.toList t;refine .of ?_ U (h _ _ rfl O h1);simp[T7,zeroValue,typeInfo,hi,J,newVar,newRow]
theorem bL {K:x1→x2→Prop}
  (h:∀ g w',g=w.heap.size→Ext w w'→ae w' g t v.cells.toList→K (.pointer (some ⟨g,0,none⟩)) w'):ax P (Instr.box t v) w K:=by
 obtain⟨h1,I,J⟩:=pX w v.cells.toList t;refine .of ?_ J (h _ _ rfl I h1);simp[Instr.box,newVar,newRow]
def de (z:Array x1) (n:Nat):List x1:=((Array.range n).map (z[·% z.size]!)).toList
theorem mq (z:Array x1) (n:Nat):(de z n).length=n:=by simp[de]
theorem il {k U:Nat} {parts:Array (Nat×x1)} {cs:Array x1} {K:x1→x2→Prop} (O:P.underlying t=some (.slice e)) (hi:aJ P e k U z)
  (ab:n*k≤2 ^ 24) (I:Instr.fill (fun j=>some (j*k,k)) ((Array.range (n*k)).map ((if n*k=0 then #[] else z.cells)[·% (if n*k=0 then #[] else z.cells).size]!)) parts.toList=some cs)
  (h:∀ g w',g=w.heap.size→Ext w w'→ae w' g e cs.toList→K (.slice (some ⟨g,0,none⟩) n n) w'):ax P (Z4 t n parts) w K:=by
 obtain⟨i,hi,rfl,_,V⟩:=hi;obtain⟨h1,W,Y⟩:=pX w cs.toList e;refine .of ?_ Y (h _ _ rfl W h1);have aa:¬(16777216<n*i.size):=by omega
 by_cases J:n*i.size=0
 ·simp only[J,if_true] at I;simp[Z4,run_underlying O,sizeOf,typeInfo,hi,J,newRow];simp at I;simp[I]
 ·simp only[J,if_false] at I;simp[Z4,run_underlying O,sizeOf,typeInfo,hi,aa,J,newRow,zeroValue,V,I]
theorem bl {U g:Nat} {K:Unit→x2→Prop} (hi:aJ P t 1 U z) (h1:v.cells= #[v]) (V:v.oneCell'=true) (I:ae w g e cs) (W:o<cs.length)
  (h:∀ w',ad (fun r=>r=g) w w'→w'.heap.size=w.heap.size→ae w' g e (cs.set o v)→K () w'):ax P (o3 t (.pointer (some ⟨g,o,none⟩)) v) w K:=by
 obtain⟨i,hi,Y,_⟩:=hi;obtain⟨aa,J⟩:=wn I o v;refine .of (w':=w.setCell ⟨g,o,none⟩ v) ?_ (J.dc I) (h _ J.O J.size aa);have ab:=I.cell (y0 W);have ac:(⟨g,o,none⟩:Addr).add 0=⟨g,o,none⟩:=rfl;simp[o3,Instr.sureAddr,storeVar,sizeOf,typeInfo,hi,Y,h1,storeCells,ac,run_store P w _ v _ V,ab,I.frozen]
theorem wo {k U g:Nat} {K:Unit→x2→Prop} (hi:aJ P t k U z) (V:vs.length=k) (W:∀ v∈vs,v.oneCell'=true) (I:ae w g e cs) (ab:o+vs.length≤cs.length)
  (h:∀ w',ad (fun r=>r=g) w w'→w'.heap.size=w.heap.size→ae w' g e (over cs o vs)→K () w'):ax P (o3 t (.pointer (some ⟨g,o,none⟩)) (.agg vs.toArray)) w K:=by
 obtain⟨Y,J⟩:=lj vs cs o w I;refine .of (w':=w.setCells g o vs) ?_ (J.dc I) (h _ J.O J.size Y);exact run_storeAt_mid (P:=P) w g o t vs.toArray (fun j aa=>⟨by rw[I.cell (y0 (show o+j<cs.length by simp at aa;omega))];rfl,I.frozen _ _⟩) (by rw[hi.size];simp[V]) (by simpa using W)
def bG (w:x2) (g:Nat) (e:r8) (k:Nat) (v:x1) (n:Nat) (xs:List x1):Prop:=
 xs.length=n*k∧((v= .slice none 0 0∧n=0)∨ ∃ cap cs,v= .slice (some ⟨g,0,none⟩) n cap∧ae w g e cs∧n≤cap∧cap≤maxLen∧cs.length=cap*k∧cs.take (n*k)=xs)
theorem bG.nil (w:x2) (g:Nat) (e:r8) (k:Nat):bG w g e k (.slice none 0 0) 0 []:=⟨by simp,.inl ⟨rfl,rfl⟩⟩
theorem bG.full {g:Nat} {k:Nat} (h:ae w g e cs) (I:cs.length=n*k) (J:n≤maxLen):bG w g e k (.slice (some ⟨g,0,none⟩) n n) n cs:=
 ⟨I,.inr ⟨n,cs,rfl,h,o7 _,J,I,by rw[←I,o9]⟩⟩
theorem bG.O {g:Nat} {k:Nat} (h:bG w g e k v n xs) (J:ad S w w') (U:g<w.heap.size→¬S g):bG w' g e k v n xs:=
 ⟨h.1,h.2.imp id fun⟨cap,cs,h1,I,V⟩=>⟨cap,cs,h1,I.O J (U I.lt),V⟩⟩
theorem bG.ext {g:Nat} {k:Nat} (h:bG w g e k v n xs) (I:Ext w w'):bG w' g e k v n xs:=h.O (I.O fun _=>False) (fun _ h=>h)
theorem bG.sl {g:Nat} {k:Nat} (h:bG w g e k v n xs):bS w k v n xs:=by
 obtain⟨h1,⟨rfl,rfl⟩|⟨cap,cs,rfl,J,O,U,W,V⟩⟩:=h
 ·have:xs=[]:=b8 (by simpa using h1);subst this;exact bS.nil w k
 ·refine⟨h1,g,0,_,cap,rfl,O,U,fun _=>rfl,fun j v I=>?_⟩;rw[W6];have Y:=(x4.1 I).1;rw[←V,Z6 (by omega)] at I;exact J.cell I
theorem bS.src {k:Nat} {x:x1} {I:List x1} {O U:r8} (V:bS w k x m I) (W:P.underlying O=some (.slice U)) (h1:∀ u∈I,u.oneCell'=true) (Y:0<m):Src P k O x m I w:=by
 obtain⟨aa,b,o,base,cap,rfl,_,_,J,ab⟩:=V;have J:=J Y;subst J;exact Src.ofSlice w W ⟨b,o,none⟩ m cap I aa (fun j u hu=>by rw[U4];exact ab j u hu) h1
theorem bS.DO {k:Nat} {x:x1} {O:List x1} {I U:r8} (V:bS w k x 0 O) (J:P.underlying I=some (.slice U)):Src P k I x 0 [] w:=by
 obtain⟨W,b,o,base,cap,rfl,_,_,Y,aa⟩:=V;cases base with
 |none=>exact Src.ofNil w J cap
 |some a=>exact Src.ofSlice w J a 0 cap [] (by simp) (by simp) (by simp)
theorem wp {U W al ay:r8} {k am g:Nat} {x:x1} {I:List x1} {K:x1→x2→Prop}
  (ac:P.underlying t=some (.slice e)) (ae:P.underlying U=some (.slice ay)) (hi:aJ P e k am z) (az:z.cells.size=k)
  (an:bG w g al k v n xs) (ab:bS w k x m I) (h1:∀ u∈I,u.oneCell'=true) (aA:(n+m)*am≤140737488355328) (ao:n+m≤maxLen)
  (h:∀ af ag w' ah,(ag=g∧ah=al∧(v=af∨g<w.heap.size∧v≠ .slice none 0 0)∨ag=w.heap.size∧ah=e)→bG w' ag ah k af (n+m) (xs++I)→ad (fun r=>r=g∧v≠ .slice none 0 0) w w'→K af w'):
  ax P (l9 #[t,U] W #[v,x]) w K:=by
 obtain⟨i,hi,rfl,rfl,aB⟩:=hi;have aC:=an.sl;obtain⟨J,ai⟩:=an;have V:=ab.1;have grow:∀ (base:Option Addr) (cap:Nat),v= .slice base n cap→cap<n+m→0<m→(n0.firstCells i.size n (.slice base n cap)).run P w.drew= .ok xs.toArray w.drew→ax P (l9 #[t,U] W #[v,x]) w K:=by
  rintro base cap rfl ap hm aD;have Y:=run_append_grow_src (P:=P) w t U W e i z ac hi aB base n cap xs aD x m I (ab.src ae h1 hm) ap (by simp only[maxLen] at ao;omega) (growslice_fits ap aA);have aE:n+m≤grownCap w (n+m) cap e:=grownCap_ge w _ _ _;have aj:grownCap w (n+m) cap e≤maxLen:=grownCap_le_maxLen w (n+m) cap e ao;have aF:Ext w (w.drew.alloc (.cells ((xs++I).toArray++n0.zeroCells z.cells (grownCap w (n+m) cap e-(n+m))) e)):=(pb w _).trans (nj _ _);refine .of Y ((ni w _ (Nat.le_succ _)).trans (nk _ _)) (h _ w.heap.size _ _ (.inr ⟨rfl,rfl⟩) ⟨by simp[J,V,V4],.inr ⟨_,((xs++I).toArray++n0.zeroCells z.cells (grownCap w (n+m) cap e-(n+m))).toList,rfl,?_,aE,aj,?_,?_⟩⟩ (aF.O _))
  ·show _=_;rw[Array.toArray_toList];exact heap_alloc_new w.drew _
  ·simp[J,V,size_zeroCells,az,←V4];congr 1;omega
  ·rw[Array.toList_append,List.toList_toArray,V4,←J,←V,←o5];exact List.take_left
 rcases Nat.eq_zero_or_pos m with rfl|hm
 ·have aG:I=[]:=b8 (by simpa using V);subst aG;have aH:=ab.DO ae;have aq:∀ base cap,v= .slice base n cap→n≤cap→ax P (l9 #[t,U] W #[v,x]) w K:=by
   rintro base cap rfl aj;refine .of (run_append_nothing (P:=P) w t U W e i ac hi base n cap aj x aH) (cP.refl _) (h _ g _ _ (.inl ⟨rfl,rfl,.inl rfl⟩) ?_ (ad.refl _ _));rw[Nat.add_zero,V9];exact⟨J,ai⟩
  obtain⟨rfl,rfl⟩|⟨cap,cs,rfl,_,au,_⟩:=ai
  ·exact aq _ _ rfl (o7 _)
  ·exact aq _ _ rfl au
 ·obtain⟨rfl,rfl⟩|⟨cap,cs,rfl,aa,au,aI,av,aK⟩:=ai
  ·have aL:xs=[]:=b8 (by simpa using J);subst aL;exact grow none 0 rfl (by omega) hm (run_firstCells_none w.drew i.size 0 0 0)
  ·by_cases ak:n+m≤cap
   ·have aM:n*i.size+I.length≤cs.length:=by rw[V,av,←V4];exact X0 _ ak
    have Y:=run_append_room_src (P:=P) w t U W e i ac hi g 0 n cap x m I (ab.src ae h1 hm) ak
     (fun j aR=>by rw[aa.cell (y0 (show 0+n*i.size+j<cs.length by omega))];rfl) (fun j _=>aa.frozen _ _)
    obtain⟨aN,aw⟩:=lj I cs (n*i.size) w aa;rw[W6] at Y;refine .of Y (aw.dc aa) (h _ g _ _ (.inl ⟨rfl,rfl,.inr ⟨aa.lt,by simp⟩⟩) ⟨by simp[J,V,V4],.inr ⟨cap,_,rfl,aN,ak,aI,by rw[jR,av],?_⟩⟩ (aw.O.mono fun r _ h=>⟨h,by simp⟩));rw[kG aM,aK,V4,←J,←V,←o5];exact List.take_left
   ·refine grow _ cap rfl (by omega) hm (run_firstCells_some w.drew i.size n _ n cap xs J fun j u hu=>?_);rw[U4];obtain⟨_,b,o,base,aS,he,_,_,aO,Y⟩:=aC;cases he;have aP:0<n:=by
     rcases Nat.eq_zero_or_pos n with rfl|aQ
     ·simp at J;subst J;simp at hu
     ·exact aQ
    have:=aO aP;cases this;simpa using Y j u hu
theorem lk {U Y aa:r8} {k V g:Nat} {x:x1} {O:List x1} {K:x1→x2→Prop}
  (ab:P.underlying t=some (.slice e)) (ac:P.underlying U=some (.slice aa)) (hi:aJ P e k V z) (ae:z.cells.size=k)
  (af:bG w g e k v n xs) (ag:bS w k x m O) (h1:∀ u∈O,u.oneCell'=true) (ah:(n+m)*V≤140737488355328) (ai:n+m≤maxLen)
  (h:∀ J I w',(I=g∨w.heap.size≤I)→bG w' I e k J (n+m) (xs++O)→ad (fun r=>r=g) w w'→K J w'):
  ax P (l9 #[t,U] Y #[v,x]) w K:=
 wp ab ac hi ae af ag h1 ah ai fun J I w' ak W hm aj=>by
  refine h J I w' (W.imp And.left fun h=>Nat.le_of_eq h.1.symm) ?_ (aj.mono fun r _ h=>h.1);obtain⟨_,rfl,_⟩|⟨_,rfl⟩:=W <;> exact hm
theorem wq {U W Y:r8} {ak g I aa:Nat} {x:x1} {base:Option Addr} {af:r8} {K:x1→x2→Prop} (ag:P.underlying U=some (.slice e)) (hi:aJ P e 1 ak z)
  (J:ae w g af cs) (al:0<I→base=some ⟨g,o,none⟩) (az:o+I≤cs.length) (am:bS w 1 x n xs) (h1:∀ u∈xs,u.oneCell'=true)
  (h:∀ w',ad (fun r=>r=g) w w'→w'.heap.size=w.heap.size→ae w' g af (over cs o (xs.take I))→K (.int .i64 (min n I:Nat)) w'):
  ax P (n0.copy_ #[U,W] Y #[.slice base I aa,x]) w K:=by
 obtain⟨ab,b,o',an,cap,rfl,_,_,ao,ap⟩:=am;simp only[T1] at ab;have ah:(P.info? e).map (·.size)=some 1:=hi.size;by_cases V:Nat.min n I=0
 ·have he:xs.take I=[]:=b8 (by rw[o8,ab];rw[Nat.min_comm];exact V);rw[he] at h;refine .of (run_copy_none (P:=P) w U W Y e base an I aa n cap ag ah V) (cP.refl _) ?_;have ai:min n I=0:=V;rw[ai] at h;exact h w (ad.refl _ _) rfl J
 ·have ai:min n I≠0:=V;have aq:=ao (by omega);have au:=al (by omega);subst aq;subst au;have aj:(xs.take I).length=min n I:=by rw[o8,ab,Nat.min_comm]
  obtain⟨av,ac⟩:=lj (xs.take I) cs o w J;have aw:=run_copy_cells (P:=P) w U W Y e g o I aa ⟨b,o',none⟩ n cap (xs.take I) ag ah aj
   (fun j u hu=>by
    rw[U4];have ay:=(x4.1 hu).1;rw[Z6 (by omega)] at hu;exact ap j u hu)
   (fun j ay=>by rw[J.cell (y0 (show o+j<cs.length by omega))];rfl) (fun j _=>J.frozen _ _) (fun u hu=>h1 u (List.mem_of_mem_take hu))
  refine .of aw (ac.dc J) ?_;rw[aj];exact h _ ac.O ac.size av
theorem af.mono {f:FuncId} {K J:x1→x2→Prop} (h:af P f args w K) (O:∀ v w',cP w w'→K v w'→J v w'):af P f args w J:=by
 cases h with
 |code h1 I=>exact .code h1 (I.mono fun _ w' ⟨v,h1,U,I⟩=>⟨v,h1,U,O v w' U I⟩)
 |ext v w' h1 I V=>exact .ext v w' h1 I (O v w' I V)
theorem fL.mono {f:FuncId} {K J:x1→x2→Prop} (h:fL P f args w K) (O:∀ v w',K v w'→J v w'):fL P f args w J:=by
 cases h with
 |code h1 I=>exact .code h1 (I.mono fun _ w' ⟨v,h1,I⟩=>⟨v,h1,O v w' I⟩)
 |ext v w' h1 U=>exact .ext v w' h1 (O v w' U)
theorem l8.mono {l:Nat} {K I:x1→x2→Prop} (h:l8 P l args w K) (J:∀ v w',K v w'→I v w'):l8 P l args w I:=
 YieldAt.mono h fun _ w' ⟨v,h1,O⟩=>⟨v,h1,J v w' O⟩
end
end Go.Vc
namespace Go.Proofs.YtgbkinibgjmodaaGreatDoor
open Go Go.Vc Go.RowKit Go.Proofs Go.Proofs.Tryz
set_option maxRecDepth 100000
theorem ak.u:x3.underlying ak=some (.int .i64):=by kernel_rfl
theorem ak.i:aJ x3 ak 1 8 (.int .i64 0):=aJ.of (by kernel_rfl)
theorem U.u:x3.underlying U=some (.int .i64):=by kernel_rfl
theorem U.i:aJ x3 U 1 8 (.int .i64 0):=aJ.of (by kernel_rfl)
theorem ea.u:x3.underlying ea=some .bool:=by kernel_rfl
theorem ea.i:aJ x3 ea 1 1 (.bool false):=aJ.of (by kernel_rfl)
theorem b5.u:x3.underlying b5=some (.int .u8):=by kernel_rfl
theorem b5.i:aJ x3 b5 1 1 (.int .u8 0):=aJ.of (by kernel_rfl)
theorem cz.u:x3.underlying cz=some .string:=by kernel_rfl
theorem cz.i:aJ x3 cz 1 16 (.string ⟨#[]⟩):=aJ.of (by kernel_rfl)
theorem b7.u:x3.underlying b7=some (.slice b5):=by kernel_rfl
theorem fN.u:x3.underlying fN=some (.pointer bM):=by kernel_rfl
theorem ac.u:x3.underlying ac=some (.slice U):=by kernel_rfl
theorem ac.i:aJ x3 ac 1 24 (.slice none 0 0):=aJ.of (by kernel_rfl)
theorem cQ.u:x3.underlying cQ=some (.slice ac):=by kernel_rfl
theorem cQ.i:aJ x3 cQ 1 24 (.slice none 0 0):=aJ.of (by kernel_rfl)
theorem ew.u:x3.underlying ew=some (.slice ea):=by kernel_rfl
theorem ew.i:aJ x3 ew 1 24 (.slice none 0 0):=aJ.of (by kernel_rfl)
theorem ek.u:x3.underlying ek=some (.slice au):=by kernel_rfl
theorem ek.i:aJ x3 ek 1 24 (.slice none 0 0):=aJ.of (by kernel_rfl)
theorem ck.u:x3.underlying ck=some (.slice dj):=by kernel_rfl
theorem ck.i:aJ x3 ck 1 24 (.slice none 0 0):=aJ.of (by kernel_rfl)
theorem fO.u:x3.underlying fO=some (.slice cg):=by kernel_rfl
theorem fO.i:aJ x3 fO 1 24 (.slice none 0 0):=aJ.of (by kernel_rfl)
theorem aK.p:bo x3 aK [(0,1),(1,1),(2,1),(3,1),(4,1),(5,1),(6,1),(7,1)]:=bo.of (by kernel_rfl)
theorem aK.i:aJ x3 aK 8 160 (.agg #[(.int .i64 0),(.slice none 0 0),(.int .i64 0),(.slice none 0 0),(.slice none 0 0),(.slice none 0 0),(.slice none 0 0),(.slice none 0 0)]):=aJ.of (by kernel_rfl)
theorem dL.i:aJ x3 dL 1 8 (.int .i64 0):=aJ.of (by kernel_rfl)
theorem eb.u:x3.underlying eb=some (.int .u64):=by kernel_rfl
theorem eb.i:aJ x3 eb 1 8 (.int .u64 0):=aJ.of (by kernel_rfl)
theorem cc.p:bo x3 cc [(0,1),(1,1)]:=bo.of (by kernel_rfl)
theorem cc.i:aJ x3 cc 2 16 (.agg #[(.int .u64 0),(.int .i64 0)]):=aJ.of (by kernel_rfl)
theorem mm.u:x3.underlying mm=some (.slice aN):=by kernel_rfl
theorem r7.i:aJ x3 r7 1 24 (.slice none 0 0):=aJ.of (by kernel_rfl)
theorem kz.u:x3.underlying kz=some (.slice kC):=by kernel_rfl
theorem aN.p:bo x3 aN [(0,1),(1,1),(2,1),(3,1),(4,1),(5,1),(6,1),(7,1),(8,1)]:=bo.of (by kernel_rfl)
theorem aN.i:aJ x3 aN 9 120 (.agg #[(.int .u8 0),(.int .i64 0),(.int .i64 0),(.int .i64 0),(.int .i64 0),(.slice none 0 0),(.slice none 0 0),(.slice none 0 0),(.bool false)]):=aJ.of (by kernel_rfl)
theorem au.u:x3.underlying au=some (.slice ak):=by kernel_rfl
theorem au.i:aJ x3 au 1 24 (.slice none 0 0):=aJ.of (by kernel_rfl)
theorem aT.p:bo x3 aT [(0,1),(1,1),(2,1)]:=bo.of (by kernel_rfl)
theorem aT.i:aJ x3 aT 3 72 (.agg #[(.slice none 0 0),(.slice none 0 0),(.slice none 0 0)]):=aJ.of (by kernel_rfl)
theorem dj.p:bo x3 dj [(0,3),(3,1)]:=bo.of (by kernel_rfl)
theorem dj.i:aJ x3 dj 4 80 (.agg #[(.slice none 0 0),(.slice none 0 0),(.slice none 0 0),(.bool false)]):=aJ.of (by kernel_rfl)
theorem kA.u:x3.underlying kA=some (.pointer eY):=by kernel_rfl
theorem kB.u:x3.underlying kB=some (.slice cY):=by kernel_rfl
theorem kB.i:aJ x3 kB 1 24 (.slice none 0 0):=aJ.of (by kernel_rfl)
theorem cY.p:bo x3 cY [(0,1),(1,1),(2,1)]:=bo.of (by kernel_rfl)
theorem cY.i:aJ x3 cY 3 56 (.agg #[(.int .i64 0),(.slice none 0 0),(.slice none 0 0)]):=aJ.of (by kernel_rfl)
theorem sa.u:x3.underlying sa=some (.pointer b4):=by kernel_rfl
theorem sb.u:x3.underlying sb=some (.pointer c5):=by kernel_rfl
theorem cq.u:x3.underlying cq=some (.slice aT):=by kernel_rfl
theorem cq.i:aJ x3 cq 1 24 (.slice none 0 0):=aJ.of (by kernel_rfl)
theorem c4.p:bo x3 c4 [(0,1),(1,1),(2,1),(3,1),(4,1)]:=bo.of (by kernel_rfl)
theorem c4.i:aJ x3 c4 5 88 (.agg #[(.int .i64 0),(.slice none 0 0),(.int .i64 0),(.slice none 0 0),(.slice none 0 0)]):=aJ.of (by kernel_rfl)
theorem nD.u:x3.underlying nD=some (.pointer eK):=by kernel_rfl
theorem en.u:x3.underlying en=some (.slice dw):=by kernel_rfl
theorem en.i:aJ x3 en 1 24 (.slice none 0 0):=aJ.of (by kernel_rfl)
theorem bM.p:bo x3 bM [(0,1),(1,1),(2,1),(3,1),(4,1)]:=bo.of (by kernel_rfl)
theorem bg.p:bo x3 bg [(0,1)]:=bo.of (by kernel_rfl)
theorem bg.i:aJ x3 bg 1 24 (.agg #[(.slice none 0 0)]):=aJ.of (by kernel_rfl)
theorem dw.p:bo x3 dw [(0,1),(1,1),(2,1)]:=bo.of (by kernel_rfl)
theorem dw.i:aJ x3 dw 3 56 (.agg #[(.slice none 0 0),(.slice none 0 0),(.int .i64 0)]):=aJ.of (by kernel_rfl)
theorem dk.p:bo x3 dk [(0,1),(1,1),(2,1)]:=bo.of (by kernel_rfl)
theorem dk.i:aJ x3 dk 3 56 (.agg #[(.slice none 0 0),(.int .i64 0),(.slice none 0 0)]):=aJ.of (by kernel_rfl)
theorem dM.u:x3.underlying dM=some (.pointer cD):=by kernel_rfl
theorem dM.i:aJ x3 dM 1 8 (.pointer none):=aJ.of (by kernel_rfl)
theorem cg.p:bo x3 cg [(0,1),(1,1),(2,1)]:=bo.of (by kernel_rfl)
theorem cg.i:aJ x3 cg 3 56 (.agg #[(.int .i64 0),(.slice none 0 0),(.slice none 0 0)]):=aJ.of (by kernel_rfl)
theorem pP.u:x3.underlying pP=some (.pointer gf):=by kernel_rfl
theorem ec.p:bo x3 ec [(0,1),(1,1),(2,1),(3,1)]:=bo.of (by kernel_rfl)
theorem fP.u:x3.underlying fP=some (.slice hR):=by kernel_rfl
theorem fP.i:aJ x3 fP 1 24 (.slice none 0 0):=aJ.of (by kernel_rfl)
theorem bT.p:bo x3 bT [(0,1),(1,4),(5,1),(6,1)]:=bo.of (by kernel_rfl)
theorem hB.u:x3.underlying hB=some (.slice bK):=by kernel_rfl
theorem gZ.u:x3.underlying gZ=some (.slice dr):=by kernel_rfl
theorem gZ.i:aJ x3 gZ 1 24 (.slice none 0 0):=aJ.of (by kernel_rfl)
theorem bK.p:bo x3 bK [(0,1),(1,1),(2,1),(3,1)]:=bo.of (by kernel_rfl)
theorem bK.i:aJ x3 bK 4 80 (.agg #[(.slice none 0 0),(.slice none 0 0),(.int .i64 0),(.slice none 0 0)]):=aJ.of (by kernel_rfl)
theorem c8.u:x3.underlying c8=some (.slice b1):=by kernel_rfl
theorem c8.i:aJ x3 c8 1 24 (.slice none 0 0):=aJ.of (by kernel_rfl)
theorem b4.p:bo x3 b4 [(0,1),(1,1),(2,1),(3,1)]:=bo.of (by kernel_rfl)
theorem dU.u:x3.underlying dU=some (.pointer eL):=by kernel_rfl
theorem dU.i:aJ x3 dU 1 8 (.pointer none):=aJ.of (by kernel_rfl)
theorem b1.p:bo x3 b1 [(0,1),(1,1)]:=bo.of (by kernel_rfl)
theorem b1.i:aJ x3 b1 2 32 (.agg #[(.slice none 0 0),(.pointer none)]):=aJ.of (by kernel_rfl)
theorem ey.u:x3.underlying ey=some (.slice bY):=by kernel_rfl
theorem ey.i:aJ x3 ey 1 24 (.slice none 0 0):=aJ.of (by kernel_rfl)
theorem cZ.u:x3.underlying cZ=some (.slice aR):=by kernel_rfl
theorem cZ.i:aJ x3 cZ 1 24 (.slice none 0 0):=aJ.of (by kernel_rfl)
theorem bf.p:bo x3 bf [(0,1),(1,1),(2,1),(3,1),(4,1),(5,1),(6,1),(7,1),(8,1)]:=bo.of (by kernel_rfl)
theorem c5.p:bo x3 c5 [(0,1),(1,1),(2,1),(3,1)]:=bo.of (by kernel_rfl)
theorem bY.p:bo x3 bY [(0,1),(1,1)]:=bo.of (by kernel_rfl)
theorem bY.i:aJ x3 bY 2 24 (.agg #[(.string ⟨#[]⟩),(.int .i64 0)]):=aJ.of (by kernel_rfl)
theorem dq.u:x3.underlying dq=some (.slice bR):=by kernel_rfl
theorem dq.i:aJ x3 dq 1 24 (.slice none 0 0):=aJ.of (by kernel_rfl)
theorem aR.p:bo x3 aR [(0,1),(1,1),(2,1),(3,1)]:=bo.of (by kernel_rfl)
theorem aR.i:aJ x3 aR 4 80 (.agg #[(.slice none 0 0),(.slice none 0 0),(.int .i64 0),(.slice none 0 0)]):=aJ.of (by kernel_rfl)
theorem iV.u:x3.underlying iV=some (.slice gD):=by kernel_rfl
theorem iV.i:aJ x3 iV 1 24 (.slice none 0 0):=aJ.of (by kernel_rfl)
theorem eY.p:bo x3 eY [(0,1),(1,1),(2,1),(3,1)]:=bo.of (by kernel_rfl)
theorem gD.p:bo x3 gD [(0,1),(1,1)]:=bo.of (by kernel_rfl)
theorem gD.i:aJ x3 gD 2 32 (.agg #[(.slice none 0 0),(.pointer none)]):=aJ.of (by kernel_rfl)
theorem gE.u:x3.underlying gE=some (.slice dN):=by kernel_rfl
theorem gE.i:aJ x3 gE 1 24 (.slice none 0 0):=aJ.of (by kernel_rfl)
theorem la.u:x3.underlying la=some (.slice iW):=by kernel_rfl
theorem la.i:aJ x3 la 1 24 (.slice none 0 0):=aJ.of (by kernel_rfl)
theorem pQ.u:x3.underlying pQ=some (.slice fb):=by kernel_rfl
theorem eK.p:bo x3 eK [(0,1),(1,1),(2,1),(3,1)]:=bo.of (by kernel_rfl)
theorem fb.p:bo x3 fb [(0,1),(1,1),(2,1)]:=bo.of (by kernel_rfl)
theorem fb.i:aJ x3 fb 3 24 (.agg #[(.int .i64 0),(.int .i64 0),(.int .u64 0)]):=aJ.of (by kernel_rfl)
theorem dN.p:bo x3 dN [(0,1),(1,1)]:=bo.of (by kernel_rfl)
theorem dN.i:aJ x3 dN 2 16 (.agg #[(.int .i64 0),(.int .u64 0)]):=aJ.of (by kernel_rfl)
theorem iW.i:aJ x3 iW 3 24 (.agg #[(.int .i64 0),(.int .i64 0),(.int .u64 0)]):=aJ.of (by kernel_rfl)
theorem kC.u:x3.underlying kC=some (.int .u16):=by kernel_rfl
theorem kC.i:aJ x3 kC 1 2 (.int .u16 0):=aJ.of (by kernel_rfl)
theorem cD.p:bo x3 cD [(0,1),(1,1),(2,1)]:=bo.of (by kernel_rfl)
theorem mn.u:x3.underlying mn=some (.int .u64):=by kernel_rfl
theorem gf.p:bo x3 gf [(0,1),(1,1),(2,1)]:=bo.of (by kernel_rfl)
theorem hR.p:bo x3 hR [(0,1),(1,1)]:=bo.of (by kernel_rfl)
theorem hR.i:aJ x3 hR 2 48 (.agg #[(.slice none 0 0),(.slice none 0 0)]):=aJ.of (by kernel_rfl)
theorem dr.p:bo x3 dr [(0,1),(1,1)]:=bo.of (by kernel_rfl)
theorem dr.i:aJ x3 dr 2 32 (.agg #[(.slice none 0 0),(.int .i64 0)]):=aJ.of (by kernel_rfl)
theorem bR.p:bo x3 bR [(0,1),(1,1)]:=bo.of (by kernel_rfl)
theorem bR.i:aJ x3 bR 2 32 (.agg #[(.slice none 0 0),(.int .i64 0)]):=aJ.of (by kernel_rfl)
theorem fc.u:x3.underlying fc=some (.slice cr):=by kernel_rfl
theorem cr.p:bo x3 cr [(0,1),(1,1)]:=bo.of (by kernel_rfl)
theorem cr.i:aJ x3 cr 2 32 (.agg #[(.slice none 0 0),(.pointer none)]):=aJ.of (by kernel_rfl)
theorem ha.u:x3.underlying ha=some (.map b2 ak):=by kernel_rfl
theorem eL.p:bo x3 eL [(0,1),(1,1),(2,1),(3,1)]:=bo.of (by kernel_rfl)
theorem mo.u:x3.underlying mo=some (.slice fd):=by kernel_rfl
theorem fd.p:bo x3 fd [(0,1),(1,1)]:=bo.of (by kernel_rfl)
theorem fd.i:aJ x3 fd 2 32 (.agg #[(.slice none 0 0),(.int .i64 0)]):=aJ.of (by kernel_rfl)
theorem mp.u:x3.underlying mp=some (.int .u32):=by kernel_rfl
theorem fA.u:x3.underlying fA=some (.map cz U):=by kernel_rfl
theorem eZ.u:x3.underlying eZ=some (.int .i8):=by kernel_rfl
theorem eZ.i:aJ x3 eZ 1 1 (.int .i8 0):=aJ.of (by kernel_rfl)
theorem b2.u:x3.underlying b2=some (.array 6 eZ):=by kernel_rfl
theorem b2.i:aJ x3 b2 6 6 (.agg #[(.int .i8 0),(.int .i8 0),(.int .i8 0),(.int .i8 0),(.int .i8 0),(.int .i8 0)]):=aJ.of (by kernel_rfl)
theorem iX.u:x3.underlying iX=some (.slice eZ):=by kernel_rfl
theorem hC.u:x3.underlying hC=some (.slice b2):=by kernel_rfl
theorem hC.i:aJ x3 hC 1 24 (.slice none 0 0):=aJ.of (by kernel_rfl)
theorem jO.u:x3.underlying jO=some (.map ak U):=by kernel_rfl
theorem kD.u:x3.underlying kD=some (.array 24 b5):=by kernel_rfl
theorem kD.i:aJ x3 kD 24 24 (.agg #[(.int .u8 0),(.int .u8 0),(.int .u8 0),(.int .u8 0),(.int .u8 0),(.int .u8 0),(.int .u8 0),(.int .u8 0),(.int .u8 0),(.int .u8 0),(.int .u8 0),(.int .u8 0),(.int .u8 0),(.int .u8 0),(.int .u8 0),(.int .u8 0),(.int .u8 0),(.int .u8 0),(.int .u8 0),(.int .u8 0),(.int .u8 0),(.int .u8 0),(.int .u8 0),(.int .u8 0)]):=aJ.of (by kernel_rfl)
theorem pR.u:x3.underlying pR=some (.array 20 eb):=by kernel_rfl
end Go.Proofs.YtgbkinibgjmodaaGreatDoor
namespace Go.Vc
open Go Go.RowKit
def bB:x1→Int
 | .int _ i=>i
 |_=>0
theorem wrap_i64 (h1: -9223372036854775808≤x) (I:x<9223372036854775808):Y0.wrap x=x:=by
 simp only[o4.wrap,o4.bits,o4.signed];simp;omega
theorem wrap_u8 (h1:0≤x) (I:x<256):o4.u8.wrap x=x:=by
 simp only[o4.wrap,o4.bits,o4.signed];simp;omega
theorem wrap_u16 (h1:0≤x) (I:x<65536):o4.u16.wrap x=x:=by
 simp only[o4.wrap,o4.bits,o4.signed];simp;omega
theorem DP (h1: -128≤x) (I:x<128):o4.i8.wrap x=x:=by
 simp only[o4.wrap,o4.bits,o4.signed];simp;omega
theorem wrap_u64 (h1:0≤x) (I:x<18446744073709551616):U1.wrap x=x:=by
 simp only[o4.wrap,o4.bits,o4.signed];simp;omega
abbrev ints (k:o4) (l:List Int):List x1:=l.map (W5 k)
theorem nJ (k:o4) (l:List Int):∀ u∈ints k l,u.oneCell'=true:=by
 intro u hu;obtain⟨x,_,rfl⟩:=j5.1 hu;rfl
theorem jS {i:Nat} (h:l[i]? =some x):(ints k l)[i]? =some (.int k x):=by simp[ints,h]
theorem sg {α:Type} {a b:List α} {i:Nat} {x y:α} (h:a.take i=b.take i) (I:a[i]? =some x) (J:b[i]? =some y) (O:x=y):a.take (i+1)=b.take (i+1):=by
 rw[u9,u9,h,I,J,O]
theorem c3 {I:x2→Prop} {B:(x2→Prop)→Prop} (G:x2→Prop) (h1:∀ w,G w→I w) (O:∀ J:x2→Prop,(∀ w,G w→J w)→B J):be I B:=O I h1
theorem aM {I:x1→x2→Prop} {B:(x1→x2→Prop)→Prop} (G:x1→x2→Prop) (h1:∀ v w,G v w→I v w)
  (O:∀ J:x1→x2→Prop,(∀ v w,G v w→J v w)→B J):be I B:=O I h1
theorem gY {I:x1→x1→x2→Prop} {B:(x1→x1→x2→Prop)→Prop} (G:x1→x1→x2→Prop) (h1:∀ u v w,G u v w→I u v w)
  (O:∀ J:x1→x1→x2→Prop,(∀ u v w,G u v w→J u v w)→B J):be I B:=O I h1
theorem af.calls {P:X5} {f:FuncId} {K:x1→x2→Prop} (h:af P f args w K) (I:Enters P f):Calls P f args.toArray w fun e w'=>∃ v,e= .returned v∧cP w w'∧K v w':=by
 cases h with
 |code _ h=>exact h
 |ext v w' h1=>rw[I] at h1;cases h1
theorem DQ (O:Ext w w') (I:cP w w'):Below w.heap.size w w':=
 ⟨I.os,I.tape.1,I.output,O.size,fun k V=>by
  have J:w.heap[k]? =some w.heap[k]:=Array.getElem?_eq_getElem V;rw[J];cases U:fK w.heap[k] with
  |true=>exact O.ba k _ J U
  |false=>exact I.ba k _ J U⟩
theorem sh {x:Addr} (h:w.cell? x=some v):x=⟨x.block,x.off,none⟩:=by
 obtain⟨b,o,s⟩:=x;cases s with
 |none=>rfl
 |some s=>
  unfold x2.cell? at h;split at h <;> simp at h
theorem wr {a:Option Addr} {len cap:Nat} {I:List Int}
  (h:(a=none∧len=0∧cap=0∧I=[])∨
   ∃ x,a=some x∧len≤cap∧cap≤maxLen∧I.length=cap∧(∀ i,i<I.length→w.cell? (x.add i)=some (.int k (I.getD i 0)))∧ ∀ n∈I,(Lit.int k n).wf=true):
  bS w 1 (.slice a len cap) len (ints k (I.take len))∧ ∀ n∈I.take len,k.min≤n∧n≤k.max:=by
 rcases h with⟨rfl,rfl,rfl,rfl⟩|⟨x,rfl,h1,V,W,J,Y⟩
 ·exact⟨bS.nil _ _,by simp⟩
 ·refine⟨⟨by simp[W,h1],x.block,x.off,some x,cap,rfl,h1,V,fun ad=>?_,fun j v O=>?_⟩,fun n aa=>?_⟩
  ·have:=J 0 (by omega);exact congrArg some (sh this)
  ·have ab:=(x4.1 O).1;rw[u5,o8] at ab;have ac:x=⟨x.block,x.off,none⟩:=sh (v:=.int k (I.getD 0 0)) (J 0 (by omega));have U:=J j (by omega);rw[ac,U4] at U;rw[U,←O,ints,x8,Z6 (by omega),u4,y0 (by omega)];rfl
  ·have:=Y n (List.mem_of_mem_take aa);simpa[Lit.wf] using this
def aB (k:o4) (w:x2) (v:x1) (l:List Int):Prop:=bS w 1 v l.length (ints k l)
def am (k:o4) (e:r8) (w:x2) (g:Nat) (v:x1) (l:List Int):Prop:=bG w g e 1 v l.length (ints k l)
theorem aB.ext (h:aB k w v l) (I:Ext w w'):aB k w' v l:=bS.ext h I
theorem am.ext {g:Nat} (h:am k e w g v l) (I:Ext w w'):am k e w' g v l:=bG.ext h I
theorem am.O {g:Nat} (h:am k e w g v l) (I:ad S w w') (J:g<w.heap.size→¬S g):am k e w' g v l:=bG.O h I J
theorem am.ls {g:Nat} (h:am k e w g v l):aB k w v l:=bG.sl h
theorem aB.of (h:bS w 1 v n (ints k l)):aB k w v l:=by
 have:l.length=n:=by simpa using h.1
 unfold aB;rw[this];exact h
theorem am.of {g:Nat} (h:bG w g e 1 v n (ints k l)):am k e w g v l:=by
 have:l.length=n:=by simpa using h.1
 unfold am;rw[this];exact h
theorem aB.le (h:aB k w v l):l.length≤9223372036854775807:=by
 have:=bS.le h;simpa[maxLen] using this
theorem aB.cells (h:aB k w v l):v.cells= #[v]∧v.oneCell'=true:=by
 obtain⟨_,_,_,_,_,rfl,_⟩:=h;exact⟨rfl,rfl⟩
theorem am.nil (k:o4) (e:r8) (w:x2) (g:Nat):am k e w g (.slice none 0 0) []:=bG.nil w g e 1
section
variable {P:X5} {w:x2}
theorem aL {J:r8} (O:P.underlying t=some (.slice e)) (h:aB k w v l):
  I P (Z5 #[t] J #[v]) w K=K (.int .i64 l.length):=by
 obtain⟨_,_,_,_,_,rfl,_⟩:=h;exact gg O
theorem aZ {O:o4} {b:Nat} {i:Nat} (U:P.underlying t=some (.slice e)) (hi:aJ P e 1 b z) (h1:kF P e=true)
  (h:aB k w v l) (J:l[i]? =some x):I P (o6 t v (.int O (i:Int))) w (fun p=>I P (x6 e p) w K)=K (.int k x):=by
 have V:=(x4.1 J).1;obtain⟨_,_,_,_,_,rfl,_,_,W,Y⟩:=h;rw[fe U hi V W,T1,aa h1 (Y i _ (jS J))]
theorem dt {J:o4} {b:Nat} {i:Nat} (O:y=(i:Int)) (U:P.underlying t=some (.slice e)) (hi:aJ P e 1 b z) (h1:kF P e=true)
  (h:aB k w v l) (V:l[i]? =some x):I P (o6 t v (.int J y)) w (fun p=>I P (x6 e p) w K)=K (.int k x):=by
 subst O;exact aZ U hi h1 h V
theorem hb {U:r8} {b g:Nat} {x:x1} {m:List Int} {K:x1→x2→Prop} (O:P.underlying t=some (.slice e)) (hi:aJ P e 1 b z) (V:z.cells.size=1)
  (h:am k e w g v l) (W:aB k w x m) (Y:(l.length+m.length)*b≤140737488355328) (aa:l.length+m.length≤9223372036854775807)
  (ab:∀ J I w',(I=g∨w.heap.size≤I)→am k e w' I J (l++m)→ad (fun r=>r=g) w w'→K J w'):ax P (l9 #[t,t] U #[v,x]) w K:=
 lk O O hi V h W (nJ _ _) Y (by simpa[maxLen] using aa) fun J I w' h1 ac ae=>ab J I w' h1 (am.of (by rw[ints,b6];exact ac)) ae
theorem dx {b:Nat} {K:x1→x2→Prop} (J:P.underlying t=some (.slice e)) (hi:aJ P e 1 b z) (Y:z.cells.size=1)
  (h:∀ v g w',g=w.heap.size→Ext w w'→am k e w' g v [x]→K v w'):ax P (Z4 t 1 #[(0,.int k x)]) w K:=
 il J hi (by omega) (cs:=#[.int k x]) (by
   have O:∀ (a:Array x1),a.size=1→a.setIfInBounds 0 (.int k x)= #[.int k x]:=fun a I=>by
    apply Array.ext
    ·simp[I]
    ·intro i h1 aa;have:i=0:=by simp[I] at h1;exact h1
     subst this;simp
   simp only[Instr.fill,x1.cells,List.zipIdx];simp;exact O _ (by simp)) fun g w' U V W=>h _ g w' U V (am.of (n:=1) (bG.full W rfl (by simp[maxLen])))
theorem af.free {f:FuncId} {K:x1→x2→Prop} (h:af P f args w K):fL P f args w fun v w'=>cP w w'∧K v w':=by
 cases h with
 |code h1 I=>exact .code h1 (I.mono fun _ w' ⟨v,h1,J,I⟩=>⟨v,h1,J,I⟩)
 |ext v w' h1 I O=>exact .ext v w' h1 ⟨I,O⟩
theorem aw {a:Addr}:I P (aX (.pointer (some a))) w K=K (.pointer (some a)):=I.of fun _ _=>by
 simp[aX,pd,execOp]
theorem ws {I J:o4} {k O:Nat} {K:x1→x2→Prop} (V:P.underlying t=some (.slice e)) (hi:aJ P e k O z) (ac:n*O≤281474976710656) (ad:n≤9223372036854775807)
  (h:∀ g w',g=w.heap.size→Ext w w'→ae w' g e (de z.cells (n*k))→K (.slice (some ⟨g,0,none⟩) n n) w'):ax P (Instr.makeSlice t (.int I (n:Int)) (.int J (n:Int))) w K:=by
 obtain⟨i,hi,rfl,rfl,W⟩:=hi;have Y:(i.bytes:Int)*(n:Int)≤281474976710656:=by
  rw[Int.mul_comm];have h:((n*i.bytes:Nat):Int)≤281474976710656:=by omega
  rwa [Int.natCast_mul] at h
 have U:=run_make (P:=P) w t e i z V hi W I J n n (by omega) (Int.le_refl _) Y (by omega);have hm:madeCells z.cells ((n:Int).toNat*i.size)=(de z.cells (n*i.size)).toArray:=by rw[de,Array.toArray_toList];rfl
 rw[hm] at U;obtain⟨h1,aa,ab⟩:=pX w (de z.cells (n*i.size)) e;exact .of U ab (h _ _ rfl aa h1)
theorem DR (v:x1) (n:Nat):de #[v] n=r9 n v:=by
 apply List.ext_getElem
 ·simp[de]
 ·intro i h1 I;simp[de,Nat.mod_one]
theorem hU {J O:o4} {I:Nat} {K:x1→x2→Prop} (U:P.underlying t=some (.slice e)) (hi:aJ P e 1 I (.int k 0)) (V:n*I≤281474976710656) (W:n≤9223372036854775807)
  (h:∀ g w',g=w.heap.size→Ext w w'→ae w' g e (ints k (r9 n 0))→K (.slice (some ⟨g,0,none⟩) n n) w'):ax P (Instr.makeSlice t (.int J (n:Int)) (.int O (n:Int))) w K:=
 ws U hi V W fun g w' Y aa ab=>h g w' Y aa (by
  have e:de (W5 k 0).cells (n*1)=ints k (r9 n 0):=by rw[T1];show de #[_] n=_;rw[DR];simp[ints]
  rw[←e];exact ab)
theorem ez {pl:List (Nat×Nat)} {b k:Nat} (hu:bo P t pl) (hi:aJ P t k J z) (O:cs.length=k)
  (h:w.rangeAt b o cs):I P (do loadVar t (←asAddr (.pointer (some ⟨b,o,none⟩)))) w K=K (.agg cs.toArray):=I.of fun w' U=>by
 obtain⟨V,hu,_⟩:=hu;have:=run_loadVar_mid (P:=P) w' b o t cs (.struct V) (nF U h) hu rfl (by rw[hi.size,O]);simp only[asAddr,X2,X8,Result.andThen_ok,this]
theorem DS (h:vs.length=cs.length):over cs 0 vs=vs:=by
 rw[kG (by omega)];simp[h]
theorem bN {k g:Nat} {K:Unit→x2→Prop} (hi:aJ P t k J z) (O:vs.length=k) (Y:cs.length=k) (U:∀ v∈vs,v.oneCell'=true) (V:ae w g e cs)
  (h:∀ w',ad (fun r=>r=g) w w'→w'.heap.size=w.heap.size→ae w' g e vs→K () w'):ax P (o3 t (.pointer (some ⟨g,0,none⟩)) (.agg vs.toArray)) w K:=
 wo hi O U V (by omega) fun w' h1 W I=>h w' h1 W (by rw[DS (by omega)] at I;exact I)
end
abbrev ag:=Nat→Prop
def im (S:ag) (w:x2) (k:Nat) (v:x1) (n:Nat) (cs:List x1):Prop:=
 cs.length=n*k∧ ∃ b o base cap,v= .slice base n cap∧n≤cap∧cap≤maxLen∧(0<n→base=some ⟨b,o,none⟩)∧(0<cs.length→S b)∧w.rangeAt b o cs
theorem im.sl {S:ag} {k:Nat} (h:im S w k v n cs):bS w k v n cs:=by
 obtain⟨h1,b,o,base,cap,I,J,O,U,_,V⟩:=h;exact⟨h1,b,o,base,cap,I,J,O,U,V⟩
theorem wu {b:Nat} (h:w.rangeAt b o cs) (I:0<cs.length):b<w.heap.size:=by
 have:=h 0 cs[0] (y0 I);obtain⟨c,e,f,J,_⟩:=se this;exact (l7.1 J).1
theorem im.O {S T:ag} {k:Nat} (h:im S w k v n cs) (V:ad T w w') (W:∀ r,r<w.heap.size→S r→¬T r):im S w' k v n cs:=by
 obtain⟨h1,b,o,base,cap,Y,aa,ab,ac,J,U⟩:=h;refine⟨h1,b,o,base,cap,Y,aa,ab,ac,J,?_⟩;rcases Nat.eq_zero_or_pos cs.length with I|I
 ·intro j v ae;have:=(x4.1 ae).1;omega
 ·exact pS V (W b (wu U I) (J I)) U
theorem im.mono {S T:ag} {k:Nat} (h:im S w k v n cs) (O:∀ r,r<w.heap.size→S r→T r):im T w k v n cs:=by
 obtain⟨h1,b,o,base,cap,U,V,W,Y,aa,I⟩:=h;exact⟨h1,b,o,base,cap,U,V,W,Y,fun J=>O b (wu I J) (aa J),I⟩
class ai (α:Type) where
 n:Nat
 rep:Bool→ag→ag→x2→List x1→α→Prop
 len:∀ {m S R w cs a},rep m S R w cs a→cs.length=n
 one:∀ {m S R w cs a},rep m S R w cs a→ ∀ u∈cs,u.oneCell'=true
 O:∀ {m S R T w w' cs a},rep m S R w cs a→ad T w w'→(∀ r,r<w.heap.size→S r∨R r→¬T r)→rep m S R w' cs a
 mono:∀ {m S S' R R' w cs a},rep m S R w cs a→(∀ r,r<w.heap.size→S r→S' r)→(∀ r,r<w.heap.size→R r→R' r)→rep m S' R' w cs a
 gb:∀ {m S R w cs a},rep m S R w cs a→rep false (fun _=>False) (fun r=>S r∨R r) w cs a
section
variable {α β:Type} [ai α] [ai β] {m:Bool} {S R T:ag} {w w':x2}
abbrev bi (S R:ag) (w:x2) (cs:List x1) (a:α):Prop:=ai.rep true S R w cs a
abbrev Seen (R:ag) (w:x2) (cs:List x1) (a:α):Prop:=ai.rep false (fun _=>False) R w cs a
abbrev eN:ag:=fun _=>True
theorem bO {a:α} (h:ai.rep m S R w cs a) (I:Ext w w'):ai.rep m S R w' cs a:=ai.O h (I.O fun _=>False) fun _ _ _ h=>h
theorem jT {a:α} (h:ai.rep m S R w cs a):ai.rep m (fun r=>S r∧r<w.heap.size) R w cs a:=ai.mono h (fun _ h1 I=>⟨I,h1⟩) fun _ _ h=>h
theorem iY {a:α} (h:ai.rep m S R w cs a):Seen eN w cs a:=ai.mono (ai.gb h) (fun _ _ h=>h.elim) fun _ _ _=>trivial
theorem nK {a:α} {Q:ag} (h:ai.rep m S R w cs a) (I:∀ r,r<w.heap.size→S r∨R r→Q r):Seen Q w cs a:=ai.mono (ai.gb h) (fun _ _ h=>h.elim) I
instance:ai Int where
 n:=1
 rep _ _ _ _ cs a:=cs=[.int .i64 a]
 len h:=by subst h;rfl
 one h:=by subst h;intro u hu;simp at hu;subst hu;rfl
 O h _ _:=h
 mono h _ _:=h
 gb h:=h
instance:ai Bool where
 n:=1
 rep _ _ _ _ cs a:=cs=[.bool a]
 len h:=by subst h;rfl
 one h:=by subst h;intro u hu;simp at hu;subst hu;rfl
 O h _ _:=h
 mono h _ _:=h
 gb h:=h
instance:ai ByteArray where
 n:=1
 rep _ _ _ _ cs a:=cs=[.string a]
 len h:=by subst h;rfl
 one h:=by subst h;intro u hu;simp at hu;subst hu;rfl
 O h _ _:=h
 mono h _ _:=h
 gb h:=h
def cJ (_:o4):Type:=Int
instance (k:o4):ai (cJ k) where
 n:=1
 rep _ _ _ _ cs a:=cs=[.int k a]
 len h:=by subst h;rfl
 one h:=by subst h;intro u hu;simp at hu;subst hu;rfl
 O h _ _:=h
 mono h _ _:=h
 gb h:=h
def Rd (α:Type):Type:=α
instance Lf:ai (Rd α) where
 n:=ai.n α
 rep _ _ R w cs a:=ai.rep (α:=α) false (fun _=>False) R w cs a
 len h:=ai.len (α:=α) h
 one h:=ai.one (α:=α) h
 O h I J:=ai.O (α:=α) h I fun r U h=>J r U (.inr (h.elim False.elim id))
 mono h _ V:=ai.mono (α:=α) h (fun _ _ h=>h) V
 gb h:=ai.mono (α:=α) h (fun _ _ h=>h) fun _ _ h=>.inr h
instance Lg:ai (α×β) where
 n:=ai.n α+ai.n β
 rep m S R w cs a:=∃ c d A B,cs=c++d∧(∀ r,A r→S r)∧(∀ r,B r→S r)∧(m=true→ ∀ r,A r→¬B r)∧ai.rep m A R w c a.1∧ai.rep m B R w d a.2
 len:=by
  rintro m S R w cs a ⟨c,d,A,B,rfl,_,_,_,h1,I⟩;simp[ai.len h1,ai.len I]
 one:=by
  rintro m S R w cs a ⟨c,d,A,B,rfl,_,_,_,h1,I⟩ u hu;rcases n9.1 hu with hu|hu
  ·exact ai.one h1 u hu
  ·exact ai.one I u hu
 O:=by
  rintro m S R T w w' cs a ⟨c,d,A,B,rfl,U,V,Y,h1,I⟩ aa W;exact⟨c,d,A,B,rfl,U,V,Y,ai.O h1 aa fun r J h=>W r J (h.imp (U r) id),ai.O I aa fun r J h=>W r J (h.imp (V r) id)⟩
 mono:=by
  rintro m S S' R R' w cs a ⟨c,d,A,B,rfl,U,V,Y,h1,I⟩ W ab;exact⟨c,d,fun r=>A r∧r<w.heap.size,fun r=>B r∧r<w.heap.size,rfl,fun r h=>W r h.2 (U r h.1),fun r h=>W r h.2 (V r h.1),fun hm r h k=>Y hm r h.1 k.1,
   ai.mono h1 (fun r J h=>⟨h,J⟩) ab,ai.mono I (fun r J h=>⟨h,J⟩) ab⟩
 gb:=by
  rintro m S R w cs a ⟨c,d,A,B,rfl,U,V,Y,h1,I⟩;exact⟨c,d,fun _=>False,fun _=>False,rfl,fun _ h=>h.elim,fun _ h=>h.elim,(fun h=>by cases h),ai.mono (ai.gb h1) (fun _ _ h=>h) fun r _ h=>h.imp (U r) id,
   ai.mono (ai.gb I) (fun _ _ h=>h) fun r _ h=>h.imp (V r) id⟩
def jU (m:Bool) (R:ag) (F:Nat→ag) (w:x2) (vs:List (List x1)) (l:List α):Prop:=
 vs.length=l.length∧ ∀ (i:Nat) (c:List x1) (a:α),vs[i]? =some c→l[i]? =some a→ai.rep m (F i) R w c a
structure wv (m:Bool) (S:ag) (g:Nat) (F:Nat→ag):Prop where
 sub:∀ i r,F i r→S r
 top:m=true→ ∀ i,¬F i g
 gi:m=true→ ∀ i j r,i≠j→F i r→¬F j r
theorem jU.len {F:Nat→ag} {vs:List (List x1)} {l:List α} (h:jU m R F w vs l):∀ c∈vs,c.length=ai.n α:=by
 intro c I;obtain⟨i,hi,rfl⟩:=List.mem_iff_getElem.1 I;exact ai.len (h.2 i _ _ (y0 hi) (y0 (h.1▸hi)))
theorem jU.one {F:Nat→ag} {vs:List (List x1)} {l:List α} (h:jU m R F w vs l):∀ u∈vs.flatten,u.oneCell'=true:=by
 intro u hu;obtain⟨c,I,hu⟩:=List.mem_flatten.1 hu;obtain⟨i,hi,rfl⟩:=List.mem_iff_getElem.1 I;exact ai.one (h.2 i _ _ (y0 hi) (y0 (h.1▸hi))) u hu
theorem nL {k:Nat}:∀ {vs:List (List x1)},(∀ c∈vs,c.length=k)→vs.flatten.length=vs.length*k
 |[],_=>by simp
 |c::r,h=>by
  have:=nL (vs:=r) fun x I=>h x (.tail _ I);simp only[List.flatten_cons,o5,this,h c (.head _),j4,V4];omega
theorem ll {k:Nat}:∀ {vs:List (List x1)},(∀ c∈vs,c.length=k)→ ∀ {i j:Nat} {c:List x1},vs[i]? =some c→j<k→vs.flatten[i*k+j]? =c[j]?
 |J::r,h,0,j,c,I,O=>by
  simp only[List.getElem?_cons_zero,Y3] at I;subst I;rw[List.flatten_cons,Z7 (by rw[h _ (.head _)];omega)];simp
 |J::r,h,i+1,j,c,I,O=>by
  simp only[List.getElem?_cons_succ] at I;have U:=h J (.head _);rw[List.flatten_cons,Z8 (by rw[U,V4];omega),U,V4,show i*k+1*k+j-k=i*k+j by omega];exact ll (fun x V=>h x (.tail _ V)) I O
 |[],_,i,_,c,I,_=>by simp at I
instance instList:ai (List α) where
 n:=1
 rep m S R w cs l:=∃ v,cs=[v]∧ ∃ (vs:List (List x1)) (g:Nat) (F:Nat→ag),wv m S g F∧jU m R F w vs l∧im (fun r=>S r∨R r) w (ai.n α) v l.length vs.flatten∧
  (m=true→(v= .slice none 0 0∨S g)∧ ∃ e,bG w g e (ai.n α) v l.length vs.flatten)
 len:=by rintro m S R w cs a ⟨v,rfl,_⟩;rfl
 one:=by
  rintro m S R w cs a ⟨v,rfl,vs,g,F,_,_,⟨_,_,_,_,_,rfl,_⟩,_⟩ u hu;simp at hu;subst hu;rfl
 O:=by
  rintro m S R T w w' cs a ⟨v,rfl,vs,g,F,J,he,Y,hm⟩ ac V;refine⟨v,rfl,vs,g,F,J,⟨he.1,fun i c a aa ab=>ai.O (he.2 i c a aa ab) ac fun r U h=>V r U (h.imp (J.sub i r) id)⟩,Y.O ac V,fun h=>?_⟩;obtain⟨h1,e,I⟩:=hm h;refine⟨h1,e,?_⟩;rcases h1 with rfl|h1
  ·obtain⟨ae,⟨_,W⟩|⟨_,_,W,_⟩⟩:=I
   ·exact⟨ae,.inl ⟨rfl,W⟩⟩
   ·cases W
  ·exact I.O ac fun U=>V g U (.inl h1)
 mono:=by
  rintro m S S' R R' w cs a ⟨v,rfl,vs,g,F,J,he,Y,hm⟩ V ad;refine⟨v,rfl,vs,g,fun i r=>F i r∧r<w.heap.size,⟨fun i r h=>V r h.2 (J.sub i r h.1),fun h i I=>J.top h i I.1,fun h i j r af h1 I=>J.gi h i j r af h1.1 I.1⟩,
   ⟨he.1,fun i c a aa ab=>ai.mono (he.2 i c a aa ab) (fun r U h=>⟨h,U⟩) ad⟩,Y.mono fun r U h=>h.imp (V r U) (ad r U),fun h=>?_⟩
  obtain⟨h1,e,I⟩:=hm h;refine⟨?_,e,I⟩;obtain⟨_,⟨W,_⟩|⟨_,_,W,ah,_⟩⟩:=I
  ·exact .inl W
  ·rcases h1 with h1|h1
   ·exact .inl h1
   ·exact .inr (V g ah.lt h1)
 gb:=by
  rintro m S R w cs a ⟨v,rfl,vs,g,F,J,he,Y,hm⟩;exact⟨v,rfl,vs,g,fun _ _=>False,⟨fun _ _ h=>h,(fun h=>by cases h),fun h=>by cases h⟩,
   ⟨he.1,fun i c a aa ab=>ai.mono (ai.gb (he.2 i c a aa ab)) (fun _ _ h=>h) fun r _ h=>h.imp (J.sub i r) id⟩,Y.mono fun r _ h=>.inr h,fun h=>by cases h⟩
end
section
variable {P:X5} {w:x2} {α β:Type} [ai α] [ai β] {m:Bool} {S R:ag}
theorem gj {l:List α} (h:ai.rep m S R w [v] l):∃ (vs:List (List x1)) (g:Nat) (F:Nat→ag),wv m S g F∧jU m R F w vs l∧im (fun r=>S r∨R r) w (ai.n α) v l.length vs.flatten∧
  (m=true→(v= .slice none 0 0∨S g)∧ ∃ e,bG w g e (ai.n α) v l.length vs.flatten):=by
 obtain⟨_,I,h⟩:=h;cases I;exact h
theorem iZ {a:α} (h:ai.rep m S R w [v] a):v.oneCell'=true:=ai.one h v (.head _)
theorem nM {l:List α} (h:ai.rep m S R w [v] l):v.cells= #[v]:=by
 obtain⟨_,_,_,_,_,⟨_,_,_,_,_,rfl,_⟩,_⟩:=gj h;rfl
theorem mr {l:List α} (h:ai.rep m S R w [v] l):l.length≤9223372036854775807:=by
 obtain⟨_,_,_,_,_,h,_⟩:=gj h;have:=h.sl.le;simpa[maxLen] using this
theorem fQ:ai.rep m S R w [.slice none 0 0] ([]:List α):=
 ⟨_,rfl,[],0,fun _ _=>False,⟨fun _ _ h=>h.elim,fun _ _ h=>h,fun _ _ _ _ _ h=>h.elim⟩,⟨rfl,fun i c a I=>by simp at I⟩,
  ⟨by simp,0,0,none,0,rfl,o7 _,Y7 _,fun h=>absurd h (Nat.lt_irrefl _),fun h=>by simp at h,fun j v h=>by simp at h⟩,
  fun _=>⟨.inl rfl,0,bG.nil w 0 0 _⟩⟩
theorem wx {F:Nat→ag} {vs:List (List x1)} (h:jU m R F w vs l):vs.flatten=ints .i64 l:=by
 have:vs=l.map fun x=>[W5 .i64 x]:=by
  apply List.ext_getElem
  ·simp[h.1]
  ·intro i h1 I;have J:i<l.length:=by simpa using I
   have:=h.2 i _ _ (y0 h1) (y0 J);rw[List.getElem_map];exact this
 subst this;clear h;induction l with
 |nil=>rfl
 |cons x l O=>simp only[T4,List.flatten_cons,O];rfl
theorem ff (h:ai.rep m S R w [v] l):aB .i64 w v l:=by
 obtain⟨vs,g,F,_,he,I,_⟩:=gj h;have:=I.sl;rw[wx he] at this;exact this
theorem fR {J:r8} {l:List α} (O:P.underlying t=some (.slice e)) (h:ai.rep m S R w [v] l):
  I P (Z5 #[t] J #[v]) w K=K (.int .i64 l.length):=by
 obtain⟨_,_,_,_,_,⟨_,_,_,_,_,rfl,_⟩,_⟩:=gj h;exact gg O
theorem mu {W:o4} {i b:Nat} {l:List α} {a:α} (Y:y=(i:Int)) (aa:P.underlying t=some (.slice e)) (hi:aJ P e (ai.n α) b z)
  (h:ai.rep m S R w [v] l) (J:l[i]? =some a) (ab:∀ b o cs,w.rangeAt b o cs→ai.rep m S R w cs a→K (.pointer (some ⟨b,o,none⟩))):I P (o6 t v (.int W y)) w K:=by
 subst Y;obtain⟨vs,g,F,ac,he,⟨_,b,o,base,cap,rfl,_,_,ad,_,ae⟩,_⟩:=gj h;have O:=(x4.1 J).1;rw[fe aa hi O ad];obtain⟨c,U⟩:∃ c,vs[i]? =some c:=⟨_,y0 (by rw[he.1];exact O)⟩;have V:=he.2 i c a U J;have af:=ai.len V;refine ab _ _ c (fun j u hu=>?_) (ai.mono V (fun r _ h=>ac.sub i r h) fun _ _ h=>h);have ag:=(x4.1 hu).1;rw[Nat.add_assoc];refine ae (i*ai.n α+j) u ?_;rw[ll he.len U (by omega)];exact hu
theorem io {U:o4} {i b:Nat} {l:List α} {a:α} (V:ai.n α=1) (W:y=(i:Int)) (Y:P.underlying t=some (.slice e)) (hi:aJ P e (ai.n α) b z)
  (h1:kF P e=true) (h:ai.rep m S R w [v] l) (ab:l[i]? =some a) (ac:∀ u,ai.rep m S R w [u] a→K u):
  I P (o6 t v (.int U y)) w fun p=>I P (x6 e p) w K:=by
 refine mu W Y hi h ab fun b o cs ad J=>?_;have O:=ai.len J;rw[V] at O;obtain⟨u,rfl⟩:=X1.1 O;rw[aa h1 (by have:=ad 0 u rfl;simpa using this)];exact ac u J
theorem jV {pl:List (Nat×Nat)} {O:o4} {i b:Nat} {l:List α} {a:α} (hu:bo P e pl) (U:y=(i:Int)) (V:P.underlying t=some (.slice e)) (hi:aJ P e (ai.n α) b z)
  (h:ai.rep m S R w [v] l) (W:l[i]? =some a) (Y:∀ cs,ai.rep m S R w cs a→K (.agg cs.toArray)):
  I P (o6 t v (.int O y)) w fun p=>I P (x6 e p) w K:=by
 refine mu U V hi h W fun b o cs aa J=>?_;rw[bw hu hi (ai.len J) aa];exact Y cs J
theorem mv {g:Nat} {k:Nat} (h:bG w g e k v n xs) (J:v= .slice none 0 0∨S g):im S w k v n xs:=by
 obtain⟨h1,⟨rfl,rfl⟩|⟨cap,cs,rfl,O,U,V,Y,W⟩⟩:=h
 ·have:xs=[]:=b8 (by simpa using h1);subst this;exact⟨by simp,0,0,none,0,rfl,o7 _,Y7 _,fun h=>absurd h (Nat.lt_irrefl _),fun h=>by simp at h,fun j v h=>by simp at h⟩
 ·refine⟨h1,g,0,_,cap,rfl,U,V,fun _=>rfl,fun _=>J.resolve_left (by simp),fun j v I=>?_⟩;rw[W6];have aa:=(x4.1 I).1;rw[←W,Z6 (by omega)] at I;exact O.cell I
open Classical in
theorem DT {ao au av:r8} {b:Nat} {x:x1} {us:List (List x1)} {l l':List α} {G:Nat→ag} {K:x1→x2→Prop} (aw:P.underlying t=some (.slice e)) (ay:P.underlying ao=some (.slice au)) (hi:aJ P e (ai.n α) b z) (az:z.cells.size=ai.n α)
  (h:bi S R w [v] l) (aA:bS w (ai.n α) x l'.length us.flatten) (ah:jU true R G w us l') (aB:∀ i j r,i≠j→G i r→¬G j r)
  (ac:∀ r,r<w.heap.size→S r→(∀ i,¬G i r)∧¬R r) (aC:(l.length+l'.length)*b≤140737488355328) (aD:l.length+l'.length≤9223372036854775807)
  (aE:∀ J w',bi (fun r=>S r∨(∃ i,G i r)∨w.heap.size≤r) R w' [J] (l++l')→ad S w w'→K J w'):ax P (l9 #[t,ao] av #[v,x]) w K:=by
 obtain⟨vs,g,F,Y,he,aK,hm⟩:=gj h;obtain⟨aj,aL,ap⟩:=hm rfl;refine wp aw ay hi az ap aA ah.one aC (by simpa[maxLen] using aD) ?_;intro J ae w' aF aG ak al;have am:∀ r,r=g∧v≠ .slice none 0 0→S r:=fun r ⟨h1,I⟩=>h1▸aj.resolve_left I;have aH:=ap;have an:(J= .slice none 0 0)∨(ae=g∧S g∧g<w.heap.size)∨ae=w.heap.size:=by
  rcases aG with⟨h1,_,I|I⟩|⟨h1,_⟩
  ·rcases aj with V|V
   ·exact .inl (I▸V)
   ·obtain⟨_,⟨W,_⟩|⟨_,_,_,W,_⟩⟩:=aH
    ·exact .inl (I▸W)
    ·exact .inr (.inl ⟨h1,V,W.lt⟩)
  ·exact .inr (.inl ⟨h1,aj.resolve_left I.2,I.1⟩)
  ·exact .inr (.inr h1)
 refine aE J w' ⟨J,rfl,vs++us,if J= .slice none 0 0 then w.heap.size else ae,fun i r=>if i<l.length then F i r∧r<w.heap.size else G (i-l.length) r∧r<w.heap.size,⟨fun i r h=>?_,fun _ i h=>?_,fun _ i j r aI h1 I=>?_⟩,⟨by simp[he.1,ah.1],fun i c a hi af=>?_⟩,?_,fun _=>⟨?_,aF,?_⟩⟩ (al.mono fun r _ h=>am r h)
 ·split at h
  ·exact .inl (Y.sub i r h.1)
  ·exact .inr (.inl ⟨_,h.1⟩)
 ·have aa:(if J= .slice none 0 0 then w.heap.size else ae)<w.heap.size:=by split at h <;> exact h.2
  split at aa
  ·omega
  ·rename_i U;rw[if_neg U] at h;rcases an with h1|⟨rfl,I,V⟩|h1
   ·exact U h1
   ·split at h
    ·exact Y.top rfl i h.1
    ·exact (ac _ V I).1 _ h.1
   ·omega
 ·split at h1 <;> split at I
  ·exact Y.gi rfl i j r aI h1.1 I.1
  ·exact (ac r h1.2 (Y.sub i r h1.1)).1 _ I.1
  ·exact (ac r h1.2 (Y.sub j r I.1)).1 _ h1.1
  ·exact aB (i-l.length) (j-l.length) r (by omega) h1.1 I.1
 ·have aq:∀ r,r<w.heap.size→R r→¬(r=g∧v≠ .slice none 0 0):=fun r ab h1 I=>(ac r ab (am r I)).2 h1;by_cases aa:i<l.length
  ·rw[Z7 (by rw[he.1];exact aa)] at hi;rw[Z7 aa] at af;simp only[if_pos aa];refine ai.O (jT (he.2 i c a hi af)) al fun r ab h1 I=>?_;rcases h1 with h1|h1
   ·exact Y.top rfl i (I.1▸h1.1)
   ·exact aq r ab h1 I
  ·rw[Z8 (by rw[he.1];omega),he.1] at hi;rw[Z8 (by omega)] at af;simp only[if_neg aa];refine ai.O (jT (ah.2 _ c a hi af)) al fun r ab h1 I=>?_;rcases h1 with h1|h1
   ·exact (ac r ab (am r I)).1 _ h1.1
   ·exact aq r ab h1 I
 ·rw[o5,List.flatten_append];refine mv ak ?_;rcases an with h1|⟨rfl,I,_⟩|rfl
  ·exact .inl h1
  ·exact .inr (.inl (.inl I))
  ·exact .inr (.inl (.inr (.inr (o7 _))))
 ·rcases an with h1|⟨rfl,I,_⟩|rfl
  ·exact .inl h1
  ·by_cases U:J= .slice none 0 0
   ·exact .inl U
   ·rw[if_neg U];exact .inr (.inl I)
  ·split
   ·exact .inr (.inr (.inr (o7 _)))
   ·exact .inr (.inr (.inr (o7 _)))
 ·rw[o5,List.flatten_append];by_cases U:J= .slice none 0 0
  ·subst U;obtain⟨V,⟨_,W⟩|⟨_,_,W,_⟩⟩:=ak
   ·exact⟨V,.inl ⟨rfl,W⟩⟩
   ·cases W
  ·rw[if_neg U];exact ak
theorem lm {ac:r8} {b:Nat} {x:x1} {l:List α} {a:α} {A:ag} {K:x1→x2→Prop} (W:P.underlying t=some (.slice e)) (hi:aJ P e (ai.n α) b z) (ae:z.cells.size=ai.n α)
  (h:bi S R w [v] l) (af:bS w (ai.n α) x 1 cs) (ah:bi A R w cs a) (Y:∀ r,r<w.heap.size→S r→¬(A r∨R r)) (I:(l.length+1)*b≤140737488355328) (aj:l.length+1≤9223372036854775807)
  (ak:∀ J w',bi (fun r=>S r∨A r∨w.heap.size≤r) R w' [J] (l++[a])→ad S w w'→K J w'):ax P (l9 #[t,t] ac #[v,x]) w K:=by
 refine DT (l':=[a]) (us:=[cs]) (G:=fun i r=>i=0∧A r) W W hi ae h (by simpa using af) ⟨rfl,fun i c b O I=>?_⟩ (fun i j r al h1 U=>al (h1.1.trans U.1.symm)) (fun r aa ab=>⟨fun i h=>Y r aa ab (.inl h.2),fun h=>Y r aa ab (.inr h)⟩) (by simpa using I) (by simpa using aj)
  fun J w' h1 U=>ak J w' (ai.mono h1 (fun r _ h=>h.imp id (Or.imp (fun⟨_,h⟩=>h.2) id)) fun _ _ h=>h) U
 have V:=(x4.1 O).1;have V:i=0:=by simpa using V
 subst V;simp at O I;subst O I;exact ai.mono ah (fun r _ h=>⟨rfl,h⟩) fun _ _ h=>h
end
theorem wy:∀ (c:List x1) (i:Nat) (z:Array x1),(i+c.length≤z.size)→((c.zipIdx i).foldl (fun cs (x:x1×Nat)=>cs.setIfInBounds x.2 x.1) z).toList=z.toList.take i++c++z.toList.drop (i+c.length)
 |[],i,z,h=>by simp
 |x::r,i,z,h=>by
  simp only[j4] at h;rw[List.zipIdx_cons,List.foldl_cons,wy r (i+1) _ (by simp;omega)];simp only[Array.toList_setIfInBounds,j4];rw[List.drop_set_of_lt (by omega),List.take_set,u9,y0 (by simp;omega)];simp only[Z0];rw[V8 _ _ (by simp;omega)];have e:i-(z.toList.take i).length=0:=by simp;omega
  rw[e,show i+1+r.length=i+(r.length+1) by omega];simp
theorem wz {k:Nat} {z:Array x1} (I:z.size=k) (J:v.cells.size=k):Instr.fill (fun j=>some (j*k,k)) z [(0,v)]=some v.cells:=by
 have h:=wy v.cells.toList 0 z (by simp;omega);simp only[Instr.fill,Nat.zero_mul,W6];rw[if_neg (by simp;omega)];congr 1;apply Array.toList_inj.1;rw[←Array.foldl_toList,Array.toList_zipIdx,h];simp;omega
section
variable {P:X5} {w:x2} {α β:Type} [ai α] [ai β] {m:Bool} {S R:ag}
theorem hF {b:Nat} {x:x1} {a:α} {A:ag} {K:x1→x2→Prop} (Y:P.underlying t=some (.slice e)) (hi:aJ P e (ai.n α) b z) (aj:ai.n α≤100000)
  (O:x.cells=cs.toArray) (U:bi A R w cs a)
  (aa:∀ v w',Ext w w'→bi (fun r=>A r∨w.heap.size≤r) R w' [v] [a]→bS w' (ai.n α) v 1 cs→K v w'):ax P (Z4 t 1 #[(0,x)]) w K:=by
 have ab:=ai.len U;refine il Y hi (by omega) (cs:=x.cells) (wz (by simp) (by rw[O];simpa using ab)) fun g w' ak V I=>?_;have I:ae w' g e cs:=by rw[O] at I;simpa using I
 have hm:bG w' g e (ai.n α) (.slice (some ⟨g,0,none⟩) 1 1) 1 cs:=bG.full I (by omega) (by simp[maxLen]);refine aa _ w' V ⟨_,rfl,[cs],g,fun i r=>i=0∧A r∧r<w.heap.size,⟨fun i r h=>.inl h.2.1,fun _ i h=>by omega,fun _ i j r ac h1 ad=>ac (h1.1.trans ad.1.symm)⟩,⟨rfl,fun i c a' J W=>?_⟩,?_,fun _=>⟨.inr (.inr (by omega)),e,by simpa using hm⟩⟩ hm.sl
 ·have af:i=0:=by simpa using (x4.1 J).1
  subst af;simp at J W;subst J W;exact bO (ai.mono U (fun r ah h=>⟨rfl,h,ah⟩) fun _ _ h=>h) V
 ·have:=mv (S:=fun r=>(A r∨w.heap.size≤r)∨R r) hm (.inr (.inl (.inr (by omega))));simpa using this
end
theorem bJ.range {B:x1→x2→(x1→x2→Prop)→Prop} (n:Nat) (I:Nat→x2→Prop)
  (W:n≤9223372036854775807) (O:I 0 w)
  (U:∀ (i:Nat) (w:x2) (k:x1→x2→Prop),i<n→I i w→(∀ w',I (i+1) w'→k (.int .i64 (Y0.wrap ((i:Int)+1))) w')→B (.int .i64 (i:Int)) w k)
  (V:∀ (w:x2) (k:x1→x2→Prop),I n w→B (.int .i64 (n:Int)) w k):bJ (.int .i64 0) w B:=by
 refine⟨fun t w=>∃ i:Nat,t= .int .i64 (i:Int)∧i≤n∧I i w,fun t _=>n-(bB t).toNat,⟨0,rfl,Y7 _,O⟩,?_⟩;rintro _ w ⟨i,rfl,hi,h⟩;by_cases J:i<n
 ·refine U i w _ J h fun w' h'=>⟨⟨i+1,?_,J,h'⟩,?_⟩
  ·rw[wrap_i64 (by omega) (by omega)];rfl
  ·rw[wrap_i64 (by omega) (by omega)];simp only[bB];omega
 ·have:i=n:=by omega
  subst this;exact V w _ h
theorem bt.range {a:x1} {B:x1→x1→x2→(x1→x1→x2→Prop)→Prop} (n:Nat) (I:Nat→x1→x2→Prop)
  (W:n≤9223372036854775807) (O:I 0 a w)
  (U:∀ (i:Nat) (a:x1) (w:x2) (k:x1→x1→x2→Prop),i<n→I i a w→(∀ a' w',I (i+1) a' w'→k a' (.int .i64 (Y0.wrap ((i:Int)+1))) w')→B a (.int .i64 (i:Int)) w k)
  (V:∀ (a:x1) (w:x2) (k:x1→x1→x2→Prop),I n a w→B a (.int .i64 (n:Int)) w k):bt a (.int .i64 0) w B:=by
 refine⟨fun a t w=>∃ i:Nat,t= .int .i64 (i:Int)∧i≤n∧I i a w,fun a t _=>n-(bB t).toNat,⟨0,rfl,Y7 _,O⟩,?_⟩;rintro a _ w ⟨i,rfl,hi,h⟩;by_cases J:i<n
 ·refine U i a w _ J h fun a' w' h'=>⟨⟨i+1,?_,J,h'⟩,?_⟩
  ·rw[wrap_i64 (by omega) (by omega)];rfl
  ·rw[wrap_i64 (by omega) (by omega)];simp only[bB];omega
 ·have:i=n:=by omega
  subst this;exact V a w _ h
theorem jF.range {a b:x1} {B:x1→x1→x1→x2→(x1→x1→x1→x2→Prop)→Prop} (n:Nat) (I:Nat→x1→x1→x2→Prop)
  (Y:n≤9223372036854775807) (U:I 0 a b w)
  (V:∀ (i:Nat) (a b:x1) (w:x2) (k:x1→x1→x1→x2→Prop),i<n→I i a b w→(∀ a' J w',I (i+1) a' J w'→k a' J (.int .i64 (Y0.wrap ((i:Int)+1))) w')→B a b (.int .i64 (i:Int)) w k)
  (W:∀ (a b:x1) (w:x2) (k:x1→x1→x1→x2→Prop),I n a b w→B a b (.int .i64 (n:Int)) w k):jF a b (.int .i64 0) w B:=by
 refine⟨fun a b t w=>∃ i:Nat,t= .int .i64 (i:Int)∧i≤n∧I i a b w,fun a b t _=>n-(bB t).toNat,⟨0,rfl,Y7 _,U⟩,?_⟩;rintro a b _ w ⟨i,rfl,hi,h⟩;by_cases O:i<n
 ·refine V i a b w _ O h fun a' J w' h'=>⟨⟨i+1,?_,O,h'⟩,?_⟩
  ·rw[wrap_i64 (by omega) (by omega)];rfl
  ·rw[wrap_i64 (by omega) (by omega)];simp only[bB];omega
 ·have:i=n:=by omega
  subst this;exact W a b w _ h
theorem po.range {a b c:x1} {B:x1→x1→x1→x1→x2→(x1→x1→x1→x1→x2→Prop)→Prop} (n:Nat) (I:Nat→x1→x1→x1→x2→Prop)
  (aa:n≤9223372036854775807) (V:I 0 a b c w)
  (W:∀ (i:Nat) (a b c:x1) (w:x2) (k:x1→x1→x1→x1→x2→Prop),i<n→I i a b c w→(∀ a' J O w',I (i+1) a' J O w'→k a' J O (.int .i64 (Y0.wrap ((i:Int)+1))) w')→B a b c (.int .i64 (i:Int)) w k)
  (Y:∀ (a b c:x1) (w:x2) (k:x1→x1→x1→x1→x2→Prop),I n a b c w→B a b c (.int .i64 (n:Int)) w k):po a b c (.int .i64 0) w B:=by
 refine⟨fun a b c t w=>∃ i:Nat,t= .int .i64 (i:Int)∧i≤n∧I i a b c w,fun a b c t _=>n-(bB t).toNat,⟨0,rfl,Y7 _,V⟩,?_⟩;rintro a b c _ w ⟨i,rfl,hi,h⟩;by_cases U:i<n
 ·refine W i a b c w _ U h fun a' J O w' h'=>⟨⟨i+1,?_,U,h'⟩,?_⟩
  ·rw[wrap_i64 (by omega) (by omega)];rfl
  ·rw[wrap_i64 (by omega) (by omega)];simp only[bB];omega
 ·have:i=n:=by omega
  subst this;exact Y a b c w _ h
theorem md.range {a b c d:x1} {B:x1→x1→x1→x1→x1→x2→(x1→x1→x1→x1→x1→x2→Prop)→Prop} (n:Nat) (I:Nat→x1→x1→x1→x1→x2→Prop)
  (ab:n≤9223372036854775807) (W:I 0 a b c d w)
  (Y:∀ (i:Nat) (a b c d:x1) (w:x2) (k:x1→x1→x1→x1→x1→x2→Prop),i<n→I i a b c d w→(∀ a' J O U w',I (i+1) a' J O U w'→k a' J O U (.int .i64 (Y0.wrap ((i:Int)+1))) w')→B a b c d (.int .i64 (i:Int)) w k)
  (aa:∀ (a b c d:x1) (w:x2) (k:x1→x1→x1→x1→x1→x2→Prop),I n a b c d w→B a b c d (.int .i64 (n:Int)) w k):md a b c d (.int .i64 0) w B:=by
 refine⟨fun a b c d t w=>∃ i:Nat,t= .int .i64 (i:Int)∧i≤n∧I i a b c d w,fun a b c d t _=>n-(bB t).toNat,⟨0,rfl,Y7 _,W⟩,?_⟩;rintro a b c d _ w ⟨i,rfl,hi,h⟩;by_cases V:i<n
 ·refine Y i a b c d w _ V h fun a' J O U w' h'=>⟨⟨i+1,?_,V,h'⟩,?_⟩
  ·rw[wrap_i64 (by omega) (by omega)];rfl
  ·rw[wrap_i64 (by omega) (by omega)];simp only[bB];omega
 ·have:i=n:=by omega
  subst this;exact aa a b c d w _ h
section
variable {P:X5} {w:x2} {m:Bool} {S R:ag}
theorem DU (l:List Int):(l.map fun x=>[W5 k x]).flatten=ints k l:=by
 induction l with
 |nil=>rfl
 |cons x l I=>simp only[T4,List.flatten_cons,I];rfl
theorem ln {g:Nat} (h:am .i64 e w g v l):bi (fun r=>r=g) R w [v] l:=by
 have J:(l.map fun x=>[W5 .i64 x]).flatten=ints .i64 l:=DU l;refine⟨v,rfl,l.map fun x=>[.int .i64 x],g,fun _ _=>False,⟨fun _ _ h=>h.elim,fun _ _ h=>h,fun _ _ _ _ _ h=>h.elim⟩,⟨by simp,fun i c a I O=>?_⟩,?_,fun _=>⟨.inr rfl,e,?_⟩⟩
 ·rw[x8,O] at I;simp at I;exact I.symm
 ·rw[J];exact mv h (.inr (.inl rfl))
 ·rw[J];exact h
def cJ.val (x:cJ k):Int:=x
theorem DV (h:bi S R w [v] l):∃ g e,am .i64 e w g v l∧(v= .slice none 0 0∨S g):=by
 obtain⟨vs,g,F,_,he,J,hm⟩:=gj h;obtain⟨h1,e,I⟩:=hm rfl;rw[wx he] at I;exact⟨g,e,I,h1⟩
end
end Go.Vc
namespace Go.Proofs.YtgbkinibgjmodaaGreatDoor
open Go Go.Vc Go.RowKit Go.Proofs Go.Proofs.Tryz
set_option maxRecDepth 100000
def right (k:Int):Prop:=1≤k∧k≤2147483648
def cA (a k:Int):Prop:=right k∧0≤a∧a≤k
instance (k:Int):Decidable (right k):=by unfold right;infer_instance
instance (a k:Int):Decidable (cA a k):=by unfold cA;infer_instance
theorem wA {k:Int}:af x3 C4 [.int .i64 k] w fun v w'=>v= .bool (decide (right k))∧Ext w w':=by
 refine az func226 ?_;simp only[be,cm,ld,ab];refine⟨fun h=>⟨?_,Ext.refl _⟩,fun h=>⟨?_,Ext.refl _⟩⟩
 ·congr 1;simp[right,h]
 ·rw[decide_eq_false];intro I;exact h I.1
theorem jW {k:Int}:af x3 Cw [.int .i64 a,.int .i64 k] w fun v w'=>v= .bool (decide (cA a k))∧Ext w w':=by
 refine az func167 ?_;simp only[be];refine wA.mono ?_;rintro _ J _ ⟨rfl,I⟩;simp only[cm,ld,ab];refine⟨fun h=>⟨fun O=>⟨?_,I⟩,fun O=>⟨?_,I⟩⟩,fun h=>⟨?_,I⟩⟩
 ·congr 1;simp[cA,h,O]
 ·rw[decide_eq_false];intro U;exact O U.2.1
 ·rw[decide_eq_false];intro U;exact h U.1
theorem DW {k:Int}:af x3 Cx [.int .i64 k] w fun v w'=>v= .bool (decide (right k))∧Ext w w':=by
 refine az func168 ?_;simp only[be,bA,ld,ab];refine⟨fun h=>⟨?_,Ext.refl _⟩,fun h=>⟨?_,Ext.refl _⟩⟩
 ·congr 1;have h':1≤k:=by omega
  simp[right,h']
 ·rw[decide_eq_false];intro I;have:=I.1;omega
theorem DX {k:Int}:af x3 vF [.int .i64 a,.int .i64 k] w fun v w'=>v= .bool (decide (cA a k))∧Ext w w':=by
 refine az func83 ?_;simp only[be];refine DW.mono ?_;rintro _ J _ ⟨rfl,I⟩;simp only[cm,ld,ab];refine⟨fun h=>⟨fun O=>⟨?_,I⟩,fun O=>⟨?_,I⟩⟩,fun h=>⟨?_,I⟩⟩
 ·congr 1;simp[cA,h,O]
 ·rw[decide_eq_false];intro U;exact O U.2.1
 ·rw[decide_eq_false];intro U;exact h U.1
end Go.Proofs.YtgbkinibgjmodaaGreatDoor
namespace Go.Proofs.YtgbkinibgjmodaaGreatDoor
open Go Go.Vc Go.RowKit Go.Proofs Go.Proofs.Tryz
set_option maxRecDepth 100000
def aE:List Int→Int
 |[]=>1
 |x::r=>x*aE r
theorem wB:∀ (a b:List Int),aE (a++b)=aE a*aE b
 |[],b=>by simp[aE]
 |x::a,b=>by simp[aE,wB a b,Int.mul_assoc]
theorem i7 {i:Nat} (h:l[i]? =some x):aE (l.take (i+1))=aE (l.take i)*x:=by
 rw[u9,h,wB];simp[aE]
def bD (l:List Int):Prop:=l.length≤6∧ ∀ x∈l,1≤x∧x≤32
theorem bD.take (h:bD l) (i:Nat):bD (l.take i):=⟨by rw[o8];have:=h.1;omega,fun x I=>h.2 x (List.mem_of_mem_take I)⟩
theorem bD.drop (h:bD l) (i:Nat):bD (l.drop i):=⟨by rw[List.length_drop];have:=h.1;omega,fun x I=>h.2 x (List.mem_of_mem_drop I)⟩
theorem nN:∀ (l:List Int),(∀ x∈l,1≤x∧x≤32)→1≤aE l∧aE l≤32 ^ l.length
 |[],_=>by simp[aE]
 |x::r,h=>by
  obtain⟨h1,I⟩:=nN r fun y J=>h y (.tail _ J);obtain⟨O,U⟩:=h x (.head _);simp only[aE,j4];constructor
  ·have:=Int.mul_le_mul O h1 (by omega) (by omega);simpa using this
  ·have:=Int.mul_le_mul U I (by omega) (by omega);rw[Int.pow_succ];rw[Int.mul_comm (32 ^ r.length) 32];exact this
theorem prod_bound (h:bD l):1≤aE l∧aE l≤1073741824:=by
 obtain⟨h1,I⟩:=nN l h.2;refine⟨h1,Int.le_trans I ?_⟩;have:(32:Int) ^ l.length≤32 ^ 6:=by
  have J:=h.1
  match l.length,J with
  |0,_=>decide
  |1,_=>decide
  |2,_=>decide
  |3,_=>decide
  |4,_=>decide
  |5,_=>decide
  |6,_=>decide
 simpa using this
def bX:List Int→List Int→Int→Option Int
 |[],[],n=>some n
 |k::s,v::t,n=>if 0≤v∧v<k then bX s t (n*k+v) else none
 |_,_,_=>none
theorem si:∀ (s t:List Int) (n:Int),s.length≠t.length→bX s t n=none
 |[],[],_,h=>absurd rfl h
 |[],_::_,_,_=>rfl
 |_::_,[],_,_=>rfl
 |k::s,v::t,n,h=>by
  unfold bX;split
  ·exact si s t _ (by simpa using h)
  ·rfl
def ct:List Int→Int→List Int
 |[],_=>[]
 |k::s,n=>(n / aE s) % k::ct s n
theorem hG:∀ (s:List Int) (n:Int),(ct s n).length=s.length
 |[],_=>rfl
 |_::s,n=>by simp[ct,hG s n]
theorem wC:∀ {s:List Int} {n:Int} {i:Nat} {k:Int},s[i]? =some k→(ct s n)[i]? =some ((n / aE (s.drop (i+1))) % k)
 |I::s,n,0,k,h=>by simp at h;subst h;simp[ct]
 |I::s,n,i+1,k,h=>by
  simp only[List.getElem?_cons_succ] at h;simp only[ct,List.getElem?_cons_succ,List.drop_succ_cons];exact wC h
theorem i9:∀ {s t:List Int} {m n:Int},(∀ x∈s,1≤x∧x≤32)→bX s t m=some n→m*aE s≤n∧n<(m+1)*aE s
 |[],[],m,n,_,h=>by simp[bX] at h;subst h;simp[aE];omega
 |k::s,v::t,m,n,J,h=>by
  unfold bX at h;split at h
  ·rename_i W;have O:=i9 (fun x I=>J x (.tail _ I)) h;have Y:=(nN s fun x I=>J x (.tail _ I)).1;simp only[aE];have U:m*(k*aE s)=m*k*aE s:=(Int.mul_assoc _ _ _).symm;have V:(m+1)*(k*aE s)=(m*k+k)*aE s:=by rw[←Int.mul_assoc,Int.add_mul,Int.one_mul]
   rw[U,V];constructor
   ·refine Int.le_trans ?_ O.1;exact Int.mul_le_mul_of_nonneg_right (by omega) (by omega)
   ·refine Int.lt_of_lt_of_le O.2 ?_;exact Int.mul_le_mul_of_nonneg_right (by omega) (by omega)
  ·cases h
 |[],_::_,_,_,_,h=>by cases h
 |_::_,[],_,_,_,h=>by cases h
end Go.Proofs.YtgbkinibgjmodaaGreatDoor
namespace Go.Proofs.YtgbkinibgjmodaaGreatDoor
open Go Go.Vc Go.RowKit Go.Proofs Go.Proofs.Tryz
set_option maxRecDepth 100000
def bm:List Int→List (List Int)
 |[]=>[[]]
 |k::s=>(X7 k.toNat).flatMap fun(v:Nat)=>(bm s).map fun t=>(v:Int)::t
theorem hV:∀ {s:List Int},(∀ x∈s,1≤x∧x≤32)→(bm s).length=(aE s).toNat
 |[],_=>rfl
 |k::s,h=>by
  have J:=hV (s:=s) fun x I=>h x (.tail _ I);have O:=h k (.head _);have U:=(nN s fun x I=>h x (.tail _ I)).1;simp only[bm,aE,List.length_flatMap,u5,J];rw[List.map_const',List.length_range,List.sum_replicate_nat,Int.toNat_mul (by omega) (by omega)]
theorem sj:∀ {s x:List Int},x∈bm s→x.length=s.length
 |[],x,h=>by simp[bm] at h;subst h;rfl
 |k::s,x,h=>by
  simp only[bm,List.mem_flatMap,j5] at h;obtain⟨v,_,t,I,rfl⟩:=h;simp[sj I]
theorem DY {s x:List Int} (h:(bm s)[j]? =some x):x.length=s.length:=sj (x5 h)
end Go.Proofs.YtgbkinibgjmodaaGreatDoor
namespace Go.Proofs.YtgbkinibgjmodaaGreatDoor
open Go Go.Vc Go.RowKit Go.Proofs Go.Proofs.Tryz
set_option maxRecDepth 100000
theorem sk (h:aB .i64 w sv l) (V:bD l):
  af x3 vI [sv] w fun v w'=>v= .int .i64 (aE l)∧Ext w w':=by
 refine az func87 ?_;rw[aL ac.u h];refine⟨fun n t J=>Ext w J∧ ∃ i:Nat,t= .int .i64 i∧i≤l.length∧n= .int .i64 (aE (l.take i)),fun _ t _=>l.length-(bB t).toNat,⟨Ext.refl _,0,rfl,Y7 _,rfl⟩,?_⟩;rintro _ _ J ⟨I,i,rfl,hi,rfl⟩;have Y:=V.1;simp only[an,ab];refine⟨fun aa=>?_,fun ad=>⟨?_,I⟩⟩
 ·obtain⟨x,O⟩:∃ x,l[i]? =some x:=⟨_,y0 (by omega)⟩;rw[aZ ac.u U.i (by kernel_rfl) (h.ext I) O];have W:=prod_bound (V.take (i+1));rw[i7 O] at W;simp only[e0,aI];rw[wrap_i64 (by omega) (by omega),wrap_i64 (by omega) (by omega),←i7 O];refine⟨⟨I,i+1,rfl,by omega,rfl⟩,?_⟩;simp only[bB];omega
 ·have:i=l.length:=by omega
  rw[this,o9]
theorem mw (h:aB .i64 w sv l) (W:bD l):
  af x3 CB [.agg #[sv]] w fun v w'=>v= .int .i64 (aE l)∧Ext w w':=by
 refine az func173 ?_;refine bL fun g w0 ag Y ad=>?_;rw[V bg.p rfl,aa (by kernel_rfl) (ad.cell (o:=0+0) rfl),aL ac.u (h.ext Y)];refine⟨fun n t J=>Ext w J∧ ∃ i:Nat,t= .int .i64 i∧i≤l.length∧n= .int .i64 (aE (l.take i)),fun _ t _=>l.length-(bB t).toNat,⟨Y,0,rfl,Y7 _,rfl⟩,?_⟩;rintro _ _ J ⟨I,i,rfl,hi,rfl⟩;have ah:=W.1;simp only[an,ab];refine⟨fun ai=>?_,fun aj=>⟨?_,I⟩⟩
 ·obtain⟨x,O⟩:∃ x,l[i]? =some x:=⟨_,y0 (by omega)⟩;rw[aZ ac.u U.i (by kernel_rfl) (h.ext I) O];have ae:=prod_bound (W.take (i+1));rw[i7 O] at ae;simp only[e0,aI];rw[wrap_i64 (by omega) (by omega),wrap_i64 (by omega) (by omega),←i7 O];refine⟨⟨I,i+1,rfl,by omega,rfl⟩,?_⟩;simp only[bB];omega
 ·have:i=l.length:=by omega
  rw[this,o9]
theorem DZ {i:Nat} (h:aB .i64 w sv l) (O:bD l) (hi:i<l.length):
  af x3 C7 [.agg #[sv],.int .i64 i] w fun v w'=>v= .int .i64 (aE (l.drop (i+1)))∧Ext w w':=by
 have aj:=O.1;refine az func240 ?_;refine bL fun g w0 ak W Y=>?_;have I:=h.ext W;simp only[be,an,ab];refine⟨fun al=>by omega,fun _=>?_⟩;rw[V bg.p rfl,aa (by kernel_rfl) (Y.cell (o:=0+0) rfl),aL ac.u I];simp only[cm,ab];refine⟨fun am=>by omega,fun _=>?_⟩;rw[V bg.p rfl,aa (by kernel_rfl) (Y.cell (o:=0+0) rfl)];simp only[aI];have ad:Y0.wrap ((i:Int)+1)=((i+1:Nat):Int):=by rw[wrap_i64 (by omega) (by omega)];omega
 rw[ad];have ae:=I;obtain⟨_,b,o,base,cap,rfl,ao,ap,aq,au⟩:=id I;rw[gh ac.u U.i (l:=i+1) (h:=l.length) (m:=cap) nH hT eM (by omega) (by omega) (by omega)];have J:=bS.part (l:=i+1) (h:=l.length) (m:=cap) ae (by omega) (by omega) (by omega) (by omega);generalize ag:(x1.slice (if cap=i+1 then base else V0 (fun x=>x.add ((i+1)*1)) base) (l.length-(i+1)) (cap-(i+1)))=q at J ⊢;have ah:((ints .i64 l).drop ((i+1)*1)).take ((l.length-(i+1))*1)=ints .i64 (l.drop (i+1)):=by
  rw[l5 (by simp),T1,ints,←List.map_drop]
 rw[ah] at J;rw[cH (cs:=#[q]) (by subst ag;kernel_rfl)];refine (mw (aB.of J) (O.drop (i+1))).mono ?_;rintro _ av _ ⟨rfl,ai⟩;exact⟨rfl,W.trans ai⟩
def ja (s t:List Int):x1:=match bX s t 0 with
 |some n=>.tuple #[.int .i64 n,.int .i64 0]
 |none=>.tuple #[.int .i64 0,.int .i64 3]
theorem wD {s t:List Int} (h:aB .i64 w sv s) (ag:aB .i64 w aA t) (ad:bD s):
  af x3 CJ [.agg #[sv],aA] w fun v w'=>v=ja s t∧Ext w w':=by
 have au:=ad.1;refine az func194 ?_;refine bL fun g w0 av O ah=>?_;rw[aL ac.u (ag.ext O),V bg.p rfl,aa (by kernel_rfl) (ah.cell (o:=0+0) rfl),aL ac.u (h.ext O)];simp only[bF,ab];refine⟨fun aw=>⟨?_,O⟩,fun aj=>?_⟩
 ·unfold ja;rw[si _ _ _ (by omega)]
 ·have aj:s.length=t.length:=by omega
  rw[aL ac.u (ag.ext O)];refine⟨fun _ _ n c J=>Ext w0 J∧ ∃ (i:Nat) (m:Int),c= .int .i64 i∧i≤t.length∧n= .int .i64 m∧0≤m∧m<aE (s.take i)∧bX s t 0=bX (s.drop i) (t.drop i) m,fun _ _ _ c _=>t.length-(bB c).toNat,
   ⟨Ext.refl _,0,0,rfl,Y7 _,rfl,Int.le_refl _,by simp[aE],rfl⟩,?_⟩
  rintro _ _ _ _ J ⟨ae,i,m,rfl,hi,rfl,ak,ax,W⟩;have I:=O.trans ae;simp only[an,ab];refine⟨fun ay=>?_,fun aC=>⟨?_,I⟩⟩
  ·obtain⟨v,al,am⟩:∃ v,t[i]? =some v∧t.drop i=v::t.drop (i+1):=⟨t[i],y0 (by omega),W0 (by omega)⟩;obtain⟨k,Y,ao⟩:∃ k,s[i]? =some k∧s.drop i=k::s.drop (i+1):=⟨s[i],y0 (by omega),W0 (by omega)⟩;rw[am,ao] at W;have ap:=prod_bound (ad.take (i+1));have aD:=prod_bound (ad.take i);have aF:=ad.2 k (x5 Y);rw[i7 Y] at ap;have ai:¬(0≤v∧v<k)→ja s t= .tuple #[.int .i64 0,.int .i64 3]:=fun aq=>by unfold ja;rw[W];simp[bX,aq]
   rw[aZ ac.u U.i (by kernel_rfl) (ag.ext I) al];simp only[be,an,ab,bC];refine⟨fun aG=>⟨(ai (by omega)).symm,I⟩,fun aH=>?_⟩;rw[V bg.p rfl,aa (by kernel_rfl) ((ah.ext ae).cell (o:=0+0) rfl),aZ ac.u U.i (by kernel_rfl) (h.ext I) Y];simp only[cm,ab];refine⟨fun aJ=>⟨(ai (by omega)).symm,I⟩,fun aK=>?_⟩;rw[V bg.p rfl,aa (by kernel_rfl) ((ah.ext ae).cell (o:=0+0) rfl),aZ ac.u U.i (by kernel_rfl) (h.ext I) Y];have aM:0≤m*k∧m*k+k≤aE (s.take i)*k:=by
    constructor
    ·exact Int.mul_nonneg ak (by omega)
    ·have:=Int.mul_le_mul_of_nonneg_right (show m+1≤aE (s.take i) by omega) (show 0≤k by omega);rw[Int.add_mul,Int.one_mul] at this;exact this
   simp only[e0,aI];rw[wrap_i64 (x:=m*k) (by omega) (by omega),wrap_i64 (x:=m*k+v) (by omega) (by omega),wrap_i64 (x:=(i:Int)+1) (by omega) (by omega)];refine⟨⟨ae,i+1,m*k+v,rfl,by omega,rfl,by omega,by rw[i7 Y];omega,?_⟩,?_⟩
   ·rw[W];simp[bX,show 0≤v∧v<k from⟨by omega,by omega⟩]
   ·simp only[bB];omega
  ·have:i=t.length:=by omega
   rw[this,List.drop_of_length_le (by omega),List.drop_of_length_le (by omega)] at W;unfold ja;rw[W];rfl
end Go.Proofs.YtgbkinibgjmodaaGreatDoor
namespace Go.Proofs.YtgbkinibgjmodaaGreatDoor
open Go Go.Vc Go.RowKit Go.Proofs Go.Proofs.Tryz
set_option maxRecDepth 100000
theorem D0 {ah ai:x1} {I W:Nat} {a b:List Int} (h1:bS w 1 ah I (ints .i64 a)) (aj:bS w 1 ai W (ints .i64 b)):
  af x3 vK [ah,ai] w fun v w'=>v= .bool (decide (a=b))∧Ext w w':=by
 have aA:a.length=I:=by simpa using h1.1
 have aB:b.length=W:=by simpa using aj.1
 have ak:=h1.le;obtain⟨_,aC,aD,aE,aF,rfl,aG,aH,ao,ap⟩:=h1;obtain⟨_,aJ,aK,aL,aM,rfl,aN,aO,aq,au⟩:=aj;refine az func116 ?_;simp only[gg ac.u,bF,ab];refine⟨fun al=>⟨?_,Ext.refl _⟩,fun am=>?_⟩
 ·rw[decide_eq_false];rintro rfl;omega
 ·have am:I=W:=by omega
  refine⟨fun t4 Y J=>Ext w J∧ ∃ i:Nat,Y= .int .i64 i∧i≤I∧a.take i=b.take i,fun _ Y _=>I-(bB Y).toNat,⟨Ext.refl _,0,rfl,Y7 _,rfl⟩,?_⟩;rintro t4 _ J ⟨O,i,rfl,hi,ad⟩;simp only[an,ab,cj];refine⟨fun ae aP av _ _=>?_,fun aQ=>⟨?_,O⟩⟩
  ·have ae:i<I:=by omega
   have O:=O.trans av;obtain⟨x,ag⟩:∃ x,a[i]? =some x:=⟨_,y0 (by omega)⟩;obtain⟨y,V⟩:∃ y,b[i]? =some y:=⟨_,y0 (by omega)⟩;have aw:=lb O (ap i _ (jS ag));have ax:=lb O (au i _ (jS V));rw[fe ac.u U.i ae ao,T1,aa (by kernel_rfl) aw,fe ac.u U.i (am▸ae) aq,T1,aa (by kernel_rfl) ax];simp only[bF,ab,aI];refine⟨fun al=>⟨?_,O⟩,fun aR=>⟨⟨O,i+1,?_,by omega,sg ad ag V (by omega)⟩,?_⟩⟩
   ·rw[decide_eq_false];rintro rfl;rw[ag] at V;cases V;exact al rfl
   ·rw[wrap_i64 (by omega) (by simp only[maxLen] at ak;omega)];rfl
   ·rw[wrap_i64 (by omega) (by simp only[maxLen] at ak;omega)];simp only[bB];omega
  ·have ay:i=I:=by omega
   subst ay;rw[decide_eq_true];rw[l5 (by omega),l5 (by omega)] at ad;exact ad
theorem D1 {s:x1} {a:List Int} (h1:bS w 1 s n (ints .i64 a)) (ag:n≤1000000):
  af x3 nz [s] w fun v w'=>Ext w w'∧ ∃ g,w.heap.size≤g∧bG w' g U 1 v n (ints .i64 a):=by
 have V:=h1;obtain⟨W,ah,ai,aj,ak,rfl,al,am,Y,an⟩:=h1;refine az func22 ?_;simp only[pT ac.u,br];refine⟨fun O=>⟨Ext.refl _,w.heap.size,o7 _,?_⟩,fun _=>?_⟩
 ·have:n=0:=by
   rcases Nat.eq_zero_or_pos n with h|h
   ·exact h
   ·rw[Y h] at O;cases O
  subst this;have:ints .i64 a=[]:=b8 (by simpa using W);rw[this];exact bG.nil _ _ _ _
 ·refine il ac.u U.i (by omega) (cs:=#[]) (by kernel_rfl) ?_;intro g J ao I aa;refine lk (g:=g) ac.u ac.u U.i rfl (bG.full aa rfl (by omega)) (V.ext I) (nJ _ _) (by omega) (by simp only[maxLen];omega) ?_;intro ap ab aq au ad ae;refine⟨I.then ae (by rintro r av rfl;omega),ab,?_,?_⟩
  ·have:=I.size;omega
  ·simpa using ad
theorem D2 {ae ag:x1} {I V:Nat} {a b:List Int} (h1:bS w 1 ae I (ints .i64 a)) (ah:bS w 1 ag V (ints .i64 b)):
  af x3 vy [ae,ag] w fun v w'=>v= .bool (decide (a=b))∧Ext w w':=by
 have aA:a.length=I:=by simpa using h1.1
 have aB:b.length=V:=by simpa using ah.1
 have ai:=h1.le;obtain⟨_,aC,aD,aE,aF,rfl,aG,aH,am,ao⟩:=h1;obtain⟨_,aJ,aK,aL,aM,rfl,aN,aO,ap,aq⟩:=ah;refine az func42 ?_;simp only[gg au.u,bF,ab];refine⟨fun aj=>⟨?_,Ext.refl _⟩,fun al=>?_⟩
 ·rw[decide_eq_false];rintro rfl;omega
 ·have al:I=V:=by omega
  refine⟨fun t4 W J=>Ext w J∧ ∃ i:Nat,W= .int .i64 i∧i≤I∧a.take i=b.take i,fun _ W _=>I-(bB W).toNat,⟨Ext.refl _,0,rfl,Y7 _,rfl⟩,?_⟩;rintro t4 _ J ⟨O,i,rfl,hi,Y⟩;simp only[an,ab,cj];refine⟨fun ac aP av _ _=>?_,fun aQ=>⟨?_,O⟩⟩
  ·have ac:i<I:=by omega
   have O:=O.trans av;obtain⟨x,ad⟩:∃ x,a[i]? =some x:=⟨_,y0 (by omega)⟩;obtain⟨y,U⟩:∃ y,b[i]? =some y:=⟨_,y0 (by omega)⟩;have aw:=lb O (ao i _ (jS ad));have ax:=lb O (aq i _ (jS U));rw[fe au.u ak.i ac am,T1,aa (by kernel_rfl) aw,fe au.u ak.i (al▸ac) ap,T1,aa (by kernel_rfl) ax];simp only[bF,ab,aI];refine⟨fun aj=>⟨?_,O⟩,fun aR=>⟨⟨O,i+1,?_,by omega,sg Y ad U (by omega)⟩,?_⟩⟩
   ·rw[decide_eq_false];rintro rfl;rw[ad] at U;cases U;exact aj rfl
   ·rw[wrap_i64 (by omega) (by simp only[maxLen] at ai;omega)];rfl
   ·rw[wrap_i64 (by omega) (by simp only[maxLen] at ai;omega)];simp only[bB];omega
  ·have ay:i=I:=by omega
   subst ay;rw[decide_eq_true];rw[l5 (by omega),l5 (by omega)] at Y;exact Y
theorem D3 {s:x1} {a:List Int} (h1:bS w 1 s n (ints .i64 a)) (ad:n≤1000000):
  af x3 vV [s] w fun v w'=>Ext w w'∧ ∃ g,w.heap.size≤g∧bG w' g ak 1 v n (ints .i64 a):=by
 have U:=h1;obtain⟨V,ae,ag,ah,ai,rfl,aj,al,W,am⟩:=h1;refine az func191 ?_;simp only[pT au.u,br];refine⟨fun O=>⟨Ext.refl _,w.heap.size,o7 _,?_⟩,fun _=>?_⟩
 ·have:n=0:=by
   rcases Nat.eq_zero_or_pos n with h|h
   ·exact h
   ·rw[W h] at O;cases O
  subst this;have:ints .i64 a=[]:=b8 (by simpa using V);rw[this];exact bG.nil _ _ _ _
 ·refine il au.u ak.i (by omega) (cs:=#[]) (by kernel_rfl) ?_;intro g J an I Y;refine lk (g:=g) au.u au.u ak.i rfl (bG.full Y rfl (by omega)) (U.ext I) (nJ _ _) (by omega) (by simp only[maxLen];omega) ?_;intro ao aa ap aq ab ac;refine⟨I.then ac (by rintro r av rfl;omega),aa,?_,?_⟩
  ·have:=I.size;omega
  ·simpa using ab
theorem wE {I J:x1} {a b:List Int} (h1:aB .i64 w I a) (O:aB .i64 w J b):
  af x3 vK [I,J] w fun v w'=>v= .bool (decide (a=b))∧Ext w w':=D0 h1 O
theorem hc {s:x1} {a:List Int} (h1:aB .i64 w s a) (I:a.length≤1000000):
  af x3 nz [s] w fun v w'=>Ext w w'∧ ∃ g,w.heap.size≤g∧am .i64 U w' g v a:=D1 h1 I
theorem D4 {I J:x1} {a b:List Int} (h1:aB .i64 w I a) (O:aB .i64 w J b):
  af x3 vy [I,J] w fun v w'=>v= .bool (decide (a=b))∧Ext w w':=D2 h1 O
theorem sm {s:x1} {a:List Int} (h1:aB .i64 w s a) (I:a.length≤1000000):
  af x3 vV [s] w fun v w'=>Ext w w'∧ ∃ g,w.heap.size≤g∧am .i64 ak w' g v a:=D3 h1 I
end Go.Proofs.YtgbkinibgjmodaaGreatDoor
namespace Go.Proofs.YtgbkinibgjmodaaGreatDoor
open Go Go.Vc Go.RowKit Go.Proofs Go.Proofs.Tryz
set_option maxRecDepth 100000
theorem D5 {n:Int} (h:aB .i64 w sv l) (I:bD l) (ah:0≤n) (aN:n<aE l):
  af x3 CG [.agg #[sv],.int .i64 n] w fun v w'=>Ext w w'∧ ∃ aA g,v= .tuple #[aA,.int .i64 0]∧w.heap.size≤g∧am .i64 U w' g aA (ct l n):=by
 have aO:=I.1;have aP:=prod_bound I;refine az func188 ?_;refine bL fun g w0 aQ ai O=>?_;have aR:=h.cells;simp only[be,an,ab];refine⟨fun aS=>by omega,fun _=>?_⟩;rw[bw bg.p bg.i rfl O.range];refine (mw (h.ext ai) I).mono ?_;rintro _ J _ ⟨rfl,W⟩;simp only[cm,ab];refine⟨fun aT=>by omega,fun _=>?_⟩;have Y:=ai.trans W;rw[V bg.p rfl,aa (by kernel_rfl) ((O.ext W).cell (o:=0+0) rfl),aL ac.u (h.ext Y)];refine hU ac.u U.i (by omega) (by omega) ?_;intro aq aU aV aj ax;simp only[gg ac.u];have ay:=Y.trans aj;have s0:=ai.size;have aW:=W.size;have aX:=O.lt;refine⟨fun t ad=>Ext w ad∧Ext w0 ad∧ ∃ i:Nat,t= .int .i64 i∧i≤l.length∧ae ad aq U (ints .i64 ((ct l n).take i++r9 (l.length-i) 0)),fun t _=>l.length-(bB t).toNat,
  ⟨ay,W.trans aj,0,rfl,Y7 _,by simpa using ax⟩,?_⟩
 rintro _ ad ⟨ak,al,i,rfl,hi,au⟩;simp only[an,ab];refine⟨fun ao=>?_,fun aY=>?_⟩
 ·have ao:i<l.length:=by omega
  rw[bw bg.p bg.i rfl (O.ext al).range];refine (DZ (h.ext ak) I ao).mono ?_;rintro _ a1 _ ⟨rfl,aC⟩;simp only[cj];intro a2 aD _ _;have ag:=aC.trans aD;have av:=ak.trans ag;obtain⟨k,ap⟩:∃ k,l[i]? =some k:=⟨l[i],y0 (by omega)⟩;have a6:=I.2 k (x5 ap);have a7:=prod_bound (I.drop (i+1));have aF:0≤n / aE (l.drop (i+1)):=Int.ediv_nonneg ah (by omega);have a8:n / aE (l.drop (i+1))≤n:=Int.ediv_le_self _ ah;rw[nG (by omega),Int.tdiv_eq_ediv_of_nonneg ah,wrap_i64 (by omega) (by omega),
   V bg.p rfl,aa (by kernel_rfl) (((O.ext al).ext ag).cell (o:=0+0) rfl),aZ ac.u U.i (by kernel_rfl) (h.ext av) ap,
   ik (by omega),Int.tmod_eq_emod_of_nonneg aF,fe ac.u U.i ao (fun _=>rfl),T1]
  refine bl U.i rfl rfl (au.ext ag) (by simp[hG];omega) ?_;intro ba aw bb aG;simp only[aI];rw[wrap_i64 (by omega) (by omega)];have bc:=aj.size;have bd:=Y.size;refine⟨⟨av.then aw (by rintro r aH rfl;omega),(al.trans ag).then aw (by rintro r aH rfl;omega),i+1,rfl,by omega,?_⟩,?_⟩
  ·have aJ:=wC (n:=n) ap;have e:(ints .i64 ((ct l n).take i++r9 (l.length-i) 0)).set (0+i) (.int .i64 (n / aE (l.drop (i+1)) % k))=ints .i64 ((ct l n).take (i+1)++r9 (l.length-(i+1)) 0):=by
    have aK:((ct l n).take i).length=i:=by rw[o8,hG];omega
    rw[W6,ints,←U3];congr 1;rw[List.set_append,if_neg (by omega),aK,V2,show l.length-i=(l.length-(i+1))+1 by omega,List.replicate_succ,List.set_cons_zero,u9,aJ];simp
   rw[←e];exact aG
  ·simp only[bB];omega
 ·have aM:i=l.length:=by omega
  subst aM;refine⟨ak,_,aq,rfl,by have:=Y.size;omega,am.of (n:=l.length) (bG.full ?_ (by simp[ints,hG]) (by simp[maxLen];omega))⟩;have e:(ct l n).take l.length++r9 (l.length-l.length) 0=ct l n:=by rw[V2,l5 (by rw[hG];omega)];simp
  rw[←e];exact au
end Go.Proofs.YtgbkinibgjmodaaGreatDoor
namespace Go.Proofs.YtgbkinibgjmodaaGreatDoor
open Go Go.Vc Go.RowKit Go.Proofs Go.Proofs.Tryz
set_option maxRecDepth 100000
def gF (x:Int):Prop:=1≤x∧x≤32
instance (x:Int):Decidable (gF x):=by unfold gF;infer_instance
theorem D6:af x3 pM [.int .i64 x] w fun v w'=>v= .bool (decide (¬gF x))∧Ext w w':=by
 refine az func227 ?_;simp only[be,an,bA,ab];refine⟨fun h=>⟨?_,Ext.refl _⟩,fun h=>⟨?_,Ext.refl _⟩⟩
 ·rw[decide_eq_true];intro I;have:=I.1;omega
 ·congr 1;have:(32<x)=(¬gF x):=propext ⟨fun J I=>by have:=I.2;omega,fun J=>by
   by_cases O:32<x
   ·exact O
   ·exact absurd ⟨by omega,by omega⟩ J⟩
  simp only[this]
theorem D7 (h:aB .i64 w sv l):
  af x3 r2 [sv,.func (.func pM) #[] #[]] w fun v w'=>Ext w w'∧ ∃ n:Int,v= .int .i64 n∧((0≤n)=¬∀ x∈l,gF x):=by
 have ag:=h.le;refine az func170 ?_;rw[aL ac.u h];refine⟨fun _ t J=>Ext w J∧ ∃ i:Nat,t= .int .i64 i∧i≤l.length∧ ∀ x∈l.take i,gF x,fun _ t _=>l.length-(bB t).toNat,⟨Ext.refl _,0,rfl,Y7 _,by simp⟩,?_⟩;rintro _ _ J ⟨O,i,rfl,hi,V⟩;simp only[an,ab];refine⟨fun ah=>?_,fun ai=>⟨O,-1,rfl,?_⟩⟩
 ·obtain⟨x,W⟩:∃ x,l[i]? =some x:=⟨_,y0 (by omega)⟩;rw[aZ ac.u U.i (by kernel_rfl) (h.ext O) W];show af x3 pM [.int .i64 x] J _;refine D6.mono ?_;rintro _ aj _ ⟨rfl,Y⟩;simp only[ab,aI];refine⟨fun aa=>⟨O.trans Y,i,rfl,?_⟩,fun ad=>?_⟩
  ·exact propext ⟨fun _ ae=>aa (ae x (x5 W)),fun _=>by omega⟩
  ·rw[wrap_i64 (by omega) (by omega)];refine⟨⟨O.trans Y,i+1,rfl,by omega,fun y I=>?_⟩,?_⟩
   ·rw[u9,W] at I;rcases n9.1 I with I|I
    ·exact V y I
    ·simp at I;subst I;exact Y9.1 ad
   ·simp only[bB];omega
 ·have:i=l.length:=by omega
  rw[this,o9] at V;exact propext ⟨fun h=>by omega,fun h=>absurd V h⟩
theorem D8 (h:aB .i64 w sv l):
  af x3 pK [sv,.func (.func pM) #[] #[]] w fun v w'=>v= .bool (decide (¬∀ x∈l,gF x))∧Ext w w':=by
 refine az func196 ?_;refine (D7 h).mono ?_;rintro _ J _ ⟨I,n,rfl,O⟩;simp only[cm];exact⟨by congr 1;simp only[O],I⟩
def D9 (w:x2) (l:List Int) (v:x1) (w':x2):Prop:=
 Ext w w'∧
   (¬bD l→v= .tuple #[.agg #[.slice none 0 0],.int .i64 1])∧
   (bD l→4096<aE l→v= .tuple #[.agg #[.slice none 0 0],.int .i64 5])∧
   (bD l→aE l≤4096→ ∃ g aA,v= .tuple #[.agg #[aA],.int .i64 0]∧w.heap.size≤g∧am .i64 U w' g aA l)
theorem Ea (h:aB .i64 w sv l):af x3 Cz [sv] w (D9 w l):=by
 refine az func171 ?_;refine bu bg.i fun aN J aZ I ah=>?_;have a1:=ah.lt;refine aM (fun v W=>Ext w W∧Ext J W∧ ∃ c:Bool,v= .bool c∧((c=true)=¬bD l)) ?_ ?_
 ·rintro _ W ⟨ai,aj,c,rfl,av⟩;simp only[br];refine⟨fun aO=>?_,fun aP=>?_⟩
  ·have aw:¬bD l:=by rw[←av];exact aO
   rw[cH (cs:=#[.slice none 0 0]) (by kernel_rfl)];refine bN (vs:=[.slice none 0 0]) bg.i rfl rfl (by simp;rfl) (ah.ext aj) ?_;intro a2 aQ a6 aR;rw[ez bg.p bg.i rfl aR.range];exact⟨ai.then aQ (by rintro r ak rfl;omega),fun _=>rfl,fun h=>absurd h aw,fun h=>absurd h aw⟩
  ·have Y:bD l:=by
    have ax:¬(c=true):=by simp[aP]
    rw[av] at ax;exact Classical.not_not.1 ax
   have a7:=Y.1;refine (hc (h.ext ai) (by omega)).mono ?_;rintro aA ay _ ⟨al,aC,a8,hm⟩;have aD:=hm.ls.cells;rw[cH (cs:=#[aA]) (by obtain⟨_,_,_,_,_,rfl,_⟩:=hm.ls;kernel_rfl)];refine bu bg.i fun gs ba bb an aS=>?_;refine bN (vs:=[aA]) bg.i rfl rfl (by intro u hu;simp at hu;subst hu;exact aD.2) aS ?_;intro ao aE bc aF;rw[bw bg.p bg.i rfl aF.range];have bd:=al.size;have be:=an.size;have bf:=aj.size;have bh:ad (fun r=>r=gs) ay ao:=(an.O _).trans aE;have ap:Ext ay ao:=an.then aE (by rintro r ak rfl;omega);have aT:=(ai.trans al).trans ap;have aG:am .i64 U ao aC aA l:=hm.ext ap;refine (mw aG.ls Y).mono ?_;rintro _ aU _ ⟨rfl,aa⟩;have aH:=aT.trans aa;have aI:ae aU aN bg [.slice none 0 0]:=ah.ext (((aj.trans al).trans ap).trans aa);simp only[bA,ab];refine⟨fun aV=>?_,fun aW=>?_⟩
   ·rw[cH (cs:=#[.slice none 0 0]) (by kernel_rfl)];refine bN (vs:=[.slice none 0 0]) bg.i rfl rfl (by simp;rfl) aI ?_;intro aX ag aY aq;rw[ez bg.p bg.i rfl aq.range];exact⟨aH.then ag (by rintro r ak rfl;omega),fun h=>absurd Y h,fun _ _=>rfl,fun _ h=>by omega⟩
   ·rw[bw bg.p bg.i rfl (aF.ext aa).range];refine bN (vs:=[aA]) bg.i rfl rfl (by intro u hu;simp at hu;subst hu;exact aD.2) aI ?_;intro aX ag aY aq;rw[ez bg.p bg.i rfl aq.range];have bi:=I.size;exact⟨aH.then ag (by rintro r ak rfl;omega),fun h=>absurd Y h,fun _ h=>by omega,fun _ _=>⟨aC,aA,rfl,by omega,(aG.ext aa).O ag (by omega)⟩⟩
 ·intro bj aJ;rw[aL ac.u (h.ext I)];simp only[bA,ab];refine⟨fun aV=>aJ _ _ ⟨I,Ext.refl _,true,rfl,?_⟩,fun aW=>?_⟩
  ·exact propext ⟨fun _ V=>by have:=V.1;omega,fun _=>rfl⟩
  ·refine (D8 (h.ext I)).mono ?_;rintro _ W _ ⟨rfl,aK⟩;refine aJ _ _ ⟨I.trans aK,aK,_,rfl,?_⟩;rw[decide_eq_true_eq];exact propext ⟨fun au V=>au V.2,fun au V=>au ⟨by omega,V⟩⟩
end Go.Proofs.YtgbkinibgjmodaaGreatDoor
namespace Go.Proofs.YtgbkinibgjmodaaGreatDoor
open Go Go.Vc Go.RowKit Go.Proofs Go.Proofs.Tryz
set_option maxRecDepth 100000
theorem sn {P:X5} (J:0≤a) (h1:a<4294967296):
  I P (av .and t cx cy (.int .u64 a) (.int .u64 4294967295)) w K=K (.int .u64 a):=I.of fun w' _=>by
 obtain⟨n,rfl⟩:=Int.eq_ofNat_of_zero_le J;have W:n<4294967296:=by omega
 have e:(V6 64 (n:Int) &&& V6 64 4294967295).toNat=n:=by
  rw[BitVec.toNat_and,BitVec.toNat_ofInt,BitVec.toNat_ofInt];have O:((n:Int) % ((2 ^ 64:Nat):Int)).toNat=n:=by omega
  have U:((4294967295:Int) % ((2 ^ 64:Nat):Int)).toNat=2 ^ 32-1:=by decide
  rw[O,U,Nat.and_two_pow_sub_one_eq_mod];omega
 have V:(V6 U1.bits (n:Int) &&& V6 U1.bits 4294967295).toNat=n:=e;simp only[av,eqGuard,binOp,Op.intBits,V];rw[wrap_u64 (by omega) (by omega)];rfl
theorem nO {P:X5} (J:0≤a) (h1:a<4294967296):
  I P (av .shr t cx cy (.int .u64 a) (.int .u64 32)) w K=K (.int .u64 0):=I.of fun w' _=>by
 have e:a.fdiv (2 ^ min 32 U1.bits)=0:=by
  have:(2:Int) ^ min 32 U1.bits=4294967296:=rfl;rw[this,Int.fdiv_eq_ediv_of_nonneg _ (by omega)];omega
 simp[av,eqGuard,binOp,Op.shift,e]
theorem Eb (O:0≤x∧x<65536) (I:0≤y∧y<65536):
  af x3 C5 [.int .u64 x,.int .u64 y] w fun v w'=>v= .tuple #[.int .u64 0,.int .u64 (x*y)]∧Ext w w':=by
 have V:0≤x*y∧x*y<4294967296:=⟨Int.mul_nonneg O.1 I.1,by
  have:x*y≤65535*65535:=Int.mul_le_mul (by omega) (by omega) I.1 (by omega);omega⟩
 refine az func228 ?_;refine af.mono (K:=fun v w'=>v= .tuple #[.int .u64 0,.int .u64 (x*y)]∧Ext w w') ?_ ?_
 ·refine az func271 ?_;rw[sn (by omega) (by omega),nO (by omega) (by omega),sn (by omega) (by omega),nO (by omega) (by omega)];simp only[e0,Int.zero_mul,Int.mul_zero];rw[wrap_u64 (x:=x*y) (by omega) (by omega),show U1.wrap 0=0 from rfl,nO (a:=x*y) (by omega) (by omega)];simp only[aI,Int.add_zero];rw[show U1.wrap 0=0 from rfl,sn (by omega) (by omega),nO (by omega) (by omega)];simp only[e0,aI,Int.zero_mul,Int.mul_zero,Int.add_zero,show U1.wrap 0=0 from rfl];rw[nO (by omega) (by omega)];simp only[e0,aI,Int.add_zero,show U1.wrap 0=0 from rfl];exact⟨trivial,Ext.refl _⟩
 ·rintro _ J _ ⟨rfl,U⟩;rw[aD (v:=.int .u64 0) rfl,aD (v:=.int .u64 (x*y)) rfl];exact⟨rfl,U⟩
theorem wF {ad:x1} {c:Int} (h:aB .i64 w ad [c]) (aQ:n<65536):
  af x3 CA [ad,.int .i64 n] w fun v w'=>Ext w w'∧ ∃ g,w.heap.size≤g∧am .i64 ak w' g v (r9 n c):=by
 refine az func172 ?_;refine c3 (fun J=>w=J) ?_ ?_
 ·rintro _ rfl;rw[aL au.u h,e1 U.u mn.u,e1 U.u mn.u,wrap_u64 (by simp) (by simp),wrap_u64 (by omega) (by omega)];refine (Eb (x:=([c].length:Int)) (by simp) (by omega)).mono ?_;rintro _ ag _ ⟨rfl,ah⟩;rw[aD (v:=.int .u64 0) rfl,aD (v:=.int .u64 (([c].length:Int)*n)) rfl];have ap:(([c].length:Int)*n)=(n:Int):=by simp
  rw[ap];refine c3 (fun I=>ag=I) ?_ ?_
  ·rintro _ rfl;rw[e1 mn.u U.u,wrap_i64 (by omega) (by omega)];refine hU au.u ak.i (by omega) (by omega) ?_;intro g aR aS aq av;have ai:=ah.trans aq;have aT:=ah.size;refine wq au.u ak.i av (o:=0) (fun _=>rfl) (by simp) (h.ext ai) (nJ _ _) ?_;intro aU aw aV aj;have ax:=ai.then aw (by rintro r ay rfl;omega);have st:over (ints .i64 (r9 n 0)) 0 ((ints .i64 [c]).take n)=ints .i64 (r9 (min 1 n) c++r9 (n-min 1 n) 0):=by
    rcases Nat.eq_zero_or_pos n with rfl|O
    ·simp[over]
    ·rw[l5 (by simp;omega),kG (by simp;omega)];have:min 1 n=1:=by omega
     simp[this,ints]
   rw[st] at aj;refine⟨fun t V=>Ext w V∧ ∃ i:Nat,t= .int .i64 i∧i≤n∧(0<n→0<i)∧ae V g ak (ints .i64 (r9 i c++r9 (n-i) 0)),fun t _=>n-(bB t).toNat,
    ⟨ax,min 1 n,by simp,by omega,by omega,aj⟩,?_⟩
   rintro _ V ⟨W,i,rfl,hi,aW,Y⟩;simp only[gg au.u,an,ab,cj];refine⟨fun aA aC aa _ _=>?_,fun aX=>?_⟩
   ·have aA:i<n:=by omega
    have al:=Y.ext aa;rw[gh au.u ak.i (l:=i) (h:=n) (m:=n) nH hT eM (by omega) (by omega) (by omega),
     gh au.u ak.i (l:=0) (h:=i) (m:=n) hS nI eM (by omega) (by omega) (by omega)]
    have aE:bS aC 1 (.slice (some ⟨g,0,none⟩) n n) n (ints .i64 (r9 i c++r9 (n-i) 0)):=(bG.full al (by simp <;> omega) (by simp[maxLen] <;> omega)).sl;have O:=aE.part (l:=0) (h:=i) (m:=n) (by omega) (by omega) (by omega) (by omega);have aF:((ints .i64 (r9 i c++r9 (n-i) 0)).drop (0*1)).take ((i-0)*1)=ints .i64 (r9 i c):=by
     simp[ints]
    rw[aF] at O;refine wq au.u ak.i al (o:=i) (fun _=>?_) (by simp <;> omega) O (nJ _ _) ?_
    ·rw[if_neg (by omega)];simp[U4]
    ·intro aY aG aZ ao;have a1:=W.size;have a2:=aa.size;have aH:over (ints .i64 (r9 i c++r9 (n-i) 0)) i ((ints .i64 (r9 i c)).take (n-i))=ints .i64 (r9 (i+min i (n-i)) c++r9 (n-(i+min i (n-i))) 0):=by
      apply Y8;intro j;rw[li _ _ _ (by simp[ints] <;> omega)];simp only[ints,b6,List.map_replicate,List.getElem?_append,List.getElem?_take,List.getElem?_replicate,o8,List.length_replicate]
      repeat' split
      all_goals first|rfl|omega
     rw[aH] at ao;have aJ:min (i-0) (n-i)=min i (n-i):=by omega
     simp only[aI,aJ];have aK:Y0.wrap ((i:Int)+((min i (n-i):Nat):Int))=((i+min i (n-i):Nat):Int):=by rw[wrap_i64 (by omega) (by omega)];omega
     rw[aK];refine⟨⟨(W.trans aa).then aG (by rintro r ay rfl;omega),_,rfl,by omega,by omega,ao⟩,?_⟩;simp only[bB,Z3];omega
   ·have:i=n:=by omega
    subst this;rw[V2,List.replicate_zero,V9] at Y;exact⟨W,g,by omega,am.of (n:=i) (bG.full Y (by simp) (by simp[maxLen];omega))⟩
  ·intro aN ac;refine aM (fun v I=>v= .bool false∧ag=I) ?_ ?_
   ·rintro _ _ ⟨rfl,rfl⟩;rw[aP];exact ac _ rfl
   ·intro a6 aO;simp only[bA,ab];refine⟨fun h=>by omega,fun _=>aO _ _ ⟨?_,rfl⟩⟩;rw[decide_eq_false];omega
 ·intro aN ac;simp only[an,ab];exact⟨fun h=>by omega,fun _=>ac _ rfl⟩
end Go.Proofs.YtgbkinibgjmodaaGreatDoor
namespace Go.Proofs.YtgbkinibgjmodaaGreatDoor
open Go Go.Vc Go.RowKit Go.Proofs Go.Proofs.Tryz
set_option maxRecDepth 100000
def leads (v:x1) (r:Nat):Prop:=∃ a n c,v= .slice (some a) n c∧a.block=r
theorem bn {g:Nat} (h:am k e w g v l) {r:Nat} (I:leads v r):r=g∧g<w.heap.size:=by
 obtain⟨a,n,c,rfl,rfl⟩:=I;obtain⟨_,⟨h,_⟩|⟨cap,cs,h,J,_⟩⟩:=h
 ·cases h
 ·cases h;exact⟨rfl,J.lt⟩
theorem a6 {g:Nat} (h:am k e w g v l) (I:ad S w w') (J:∀ r,leads v r→¬S r):am k e w' g v l:=by
 refine⟨h.1,h.2.imp id fun⟨cap,cs,h1,U,V⟩=>⟨cap,cs,h1,U.O I (J g ⟨_,_,_,h1,rfl⟩),V⟩⟩
def cB (w:x2) (g I:Nat) (sv:x1) (szs:List Int) (k:Int) (cs:List Int):Prop:=
 (∃ aG gs,ae w g cD [sv,.int .i64 k,aG]∧am .i64 U w gs sv szs∧am .i64 ak w I aG cs)∧(g≠I∧¬leads sv I∧aE szs≤4096)∧bD szs∧cs.length=(aE szs).toNat
theorem cB.ext {g:Nat} {k:Int} {cs:List Int} (h:cB w g J sv szs k cs) (I:Ext w w'):cB w' g J sv szs k cs:=by
 obtain⟨⟨aG,gs,h1,O,U⟩,V⟩:=h;exact⟨⟨aG,gs,h1.ext I,O.ext I,U.ext I⟩,V⟩
def wG (w:x2) (l:List Int) (k I:Int) (v:x1) (w':x2):Prop:=
 Ext w w'∧
  (¬bD l→v= .tuple #[.pointer none,.int .i64 1])∧
  (bD l→4096<aE l→v= .tuple #[.pointer none,.int .i64 5])∧
  (bD l→aE l≤4096→¬cA I k→v= .tuple #[.pointer none,.int .i64 3])∧
  (bD l→aE l≤4096→cA I k→ ∃ g J sv,v= .tuple #[.pointer (some ⟨g,0,none⟩),.int .i64 0]∧w.heap.size≤g∧w.heap.size≤J∧(∀ r,leads sv r→w.heap.size≤r)∧
   cB w' g J sv l k (r9 (aE l).toNat I))
theorem pY {k ah:Int} (h:aB .i64 w sv l):af x3 rU [sv,.int .i64 k,.int .i64 ah] w (wG w l k ah):=by
 refine az func89 ?_;refine (Ea h).mono ?_;rintro v J _ ⟨av,aM,aN,aO⟩;obtain⟨aA,e,rfl,aP,he⟩:∃ (aA:x1) (e:Int),v= .tuple #[.agg #[aA],.int .i64 e]∧aA.oneCell'=true∧
   ((e=1∧¬bD l)∨(e=5∧bD l∧4096<aE l)∨(e=0∧bD l∧aE l≤4096∧ ∃ g,w.heap.size≤g∧am .i64 U J g aA l)):=by
  by_cases O:bD l
  ·by_cases ag:aE l≤4096
   ·obtain⟨g,aA,rfl,h1,aw⟩:=aO O ag;exact⟨aA,0,rfl,aw.ls.cells.2,.inr (.inr ⟨rfl,O,ag,g,h1,aw⟩)⟩
   ·exact⟨_,_,aN O (by omega),rfl,.inr (.inl ⟨rfl,O,by omega⟩)⟩
  ·exact⟨_,_,aM O,rfl,.inl ⟨rfl,O⟩⟩
 rw[aD (v:=.agg #[aA]) rfl,aD (v:=.int .i64 e) rfl];refine bu bg.i fun bl bm bo aQ aR=>?_;refine bN (vs:=[aA]) bg.i rfl rfl (by intro u hu;simp at hu;subst hu;exact aP) aR ?_;intro aS aT bp aU;have ay:Ext J aS:=aQ.then aT (by rintro r Y rfl;omega);have aC:=av.trans ay;simp only[bF,ab];refine⟨fun aV=>⟨aC,?_⟩,fun bq=>?_⟩
 ·rcases he with⟨rfl,ai⟩|⟨rfl,O,ag⟩|⟨rfl,_⟩
  ·exact⟨fun _=>rfl,fun h=>absurd h ai,fun h=>absurd h ai,fun h=>absurd h ai⟩
  ·exact⟨fun h=>absurd O h,fun _ _=>rfl,fun _ h=>by omega,fun _ h=>by omega⟩
  ·exact absurd rfl aV
 ·obtain⟨rfl,O,ag,gs,bt,hm⟩:e=0∧bD l∧aE l≤4096∧ ∃ g,w.heap.size≤g∧am .i64 U J g aA l:=by
   rcases he with⟨rfl,ai⟩|⟨rfl,O,ag⟩|h
   ·omega
   ·omega
   ·exact h
  have bx:=prod_bound O;refine jW.mono ?_;rintro _ bz _ ⟨rfl,an⟩;have aF:=aC.trans an;simp only[bc,br];refine⟨fun aW=>⟨aF,fun h=>absurd O h,fun _ h=>by omega,fun _ _ _=>rfl,fun _ _ h=>by simp[h] at aW⟩,fun aX=>?_⟩;have aY:cA ah k:=by simpa using aX
  simp only[be,cj];intro aG ao _ _;have aZ:=aF.trans ao;have aj:=(ay.trans an).trans ao;have aH:=(aU.ext an).ext ao;rw[bw bg.p bg.i rfl aH.range,bw bg.p bg.i rfl aH.range];have bA:=av.size;have bB:=aj.size;have aI:((aE l).toNat:Int)=aE l:=by omega
  have aJ:∀ {ad:x2} {ac:x1} {ae:Nat},Ext aG ad→aG.heap.size≤ae→am .i64 ak ad ae ac (r9 (aE l).toNat ah)→
    I x3 (Instr.build cD #[(0,.agg #[aA]),(1,.int .i64 k),(2,ac)]) ad fun a1=>ax x3 (Instr.box cD a1) ad fun a2 aK=>wG w l k ah (.tuple #[a2,.int .i64 0]) aK:=by
   intro ad ac ae aa aL Y;rw[cH (cs:=#[aA,.int .i64 k,ac]) (by
    obtain⟨_,_,_,_,_,rfl,_⟩:=Y.ls;obtain⟨_,_,_,_,_,rfl,_⟩:=hm.ls;kernel_rfl)]
   refine bL fun g aK bC ap a6=>?_;have bE:=aa.size;have a7:leads ac ae:=by
    obtain⟨bG,⟨_,a8⟩|⟨cap,cs,rfl,_⟩⟩:=Y
    ·simp at a8;omega
    ·exact⟨_,_,_,rfl,rfl⟩
   have bH:=(bn Y a7).2;refine⟨(aZ.trans aa).trans ap,fun h=>absurd O h,fun _ h=>by omega,fun _ _ h=>absurd aY h,fun _ _ _=>⟨g,ae,aA,rfl,by omega,by omega,fun r ba=>?_,⟨ac,gs,a6,((hm.ext aj).ext aa).ext ap,Y.ext ap⟩,⟨by omega,fun bb=>?_,ag⟩,O,by simp⟩⟩
   ·have:=(bn hm ba).1;omega
   ·have:=bn hm bb;omega
  constructor
  ·refine dx au.u ak.i rfl fun bd al bf bh V aq=>⟨.inl V,?_⟩;refine (mw ((hm.ext aj).ext V).ls O).mono ?_;rintro _ bi _ ⟨rfl,W⟩;refine⟨.inl (V.trans W),?_⟩;rw[←aI];refine (wF (aq.ext W).ls (by omega)).mono ?_;rintro ac ad _ ⟨aa,ae,aL,Y⟩;have bj:=V.size;have bk:=W.size;exact⟨.inl ((V.trans W).trans aa),aJ ((V.trans W).trans aa) (by omega) Y⟩
  ·refine (mw (hm.ext aj).ls O).mono ?_;rintro _ bf _ ⟨rfl,V⟩;refine⟨.inl V,?_⟩;refine dx au.u ak.i rfl fun bd al bi bh W aq=>⟨.inl (V.trans W),?_⟩;rw[←aI];refine (wF aq.ls (by omega)).mono ?_;rintro ac ad _ ⟨aa,ae,aL,Y⟩;have bj:=V.size;have bk:=W.size;exact⟨.inl ((V.trans W).trans aa),aJ ((V.trans W).trans aa) (by omega) Y⟩
end Go.Proofs.YtgbkinibgjmodaaGreatDoor
namespace Go.Proofs.YtgbkinibgjmodaaGreatDoor
open Go Go.Vc Go.RowKit Go.Proofs Go.Proofs.Tryz
set_option maxRecDepth 100000
theorem lp {g:Nat} {I:List x1} (h:ae w g e cs) (J:∀ j v,I[j]? =some v→cs[o+j]? =some v):w.rangeAt g o I:=fun j v O=>h.cell (J j v O)
theorem wH {g U:Nat} {t:List Int} {k:Int} {cs:List Int} (h:cB w g U sv szs k cs) (W:aB .i64 w aA t):
  af x3 CC [.pointer (some ⟨g,0,none⟩),aA] w fun v w'=>v=ja szs t∧Ext w w':=by
 obtain⟨⟨aG,gs,Y,hm,ab⟩,_,aa,_⟩:=h;refine az func174 ?_;rw[cI dM.u];simp only[Z1,aP];rw[aw,V cD.p rfl,bw (cs:=[sv]) bg.p bg.i rfl (lp Y (by
  intro j v I
  match j,I with
  |0,I=>exact I))]
 refine (wD hm.ls W aa).mono ?_;rintro _ J _ ⟨rfl,O⟩;unfold ja;cases bX szs t 0 with
 |none=>rw[aD (v:=.int .i64 0) rfl,aD (v:=.int .i64 3) rfl];exact⟨rfl,O⟩
 |some n=>rw[aD (v:=.int .i64 n) rfl,aD (v:=.int .i64 0) rfl];exact⟨rfl,O⟩
def my (szs t cs:List Int):x1:=match bX szs t 0 with
 |some n=>.tuple #[.int .i64 (cs.getD n.toNat 0),.int .i64 0]
 |none=>.tuple #[.int .i64 0,.int .i64 3]
theorem wI {t cs:List Int} {n:Int} (I:bD szs) (J:cs.length=(aE szs).toNat) (h:bX szs t 0=some n):n=(n.toNat:Int)∧n.toNat<cs.length:=by
 have:=i9 I.2 h;simp only[Int.zero_mul,Int.zero_add,Int.one_mul] at this;omega
theorem sq {g U:Nat} {t:List Int} {k:Int} {cs:List Int} (h:cB w g U sv szs k cs) (W:aB .i64 w aA t):
  af x3 Dj [.pointer (some ⟨g,0,none⟩),aA] w fun v w'=>v=my szs t cs∧Ext w w':=by
 refine az func259 ?_;refine (wH h W).mono ?_;rintro _ J _ ⟨rfl,I⟩;obtain⟨⟨aG,gs,Y,hm,ac⟩,_,ad,ae⟩:=h.ext I;unfold ja my;cases hi:bX szs t 0 with
 |none=>
  rw[aD (v:=.int .i64 0) rfl,aD (v:=.int .i64 3) rfl];simp only[bF,ab];exact⟨fun _=>⟨trivial,I⟩,fun h=>by simp at h⟩
 |some n=>
  obtain⟨ag,O⟩:=wI ad ae hi;rw[aD (v:=.int .i64 n) rfl,aD (v:=.int .i64 0) rfl];simp only[bF,ab];refine⟨fun h=>absurd rfl h,fun _=>?_⟩;rw[aw,V cD.p rfl,aa (by kernel_rfl) (Y.cell (o:=0+2) rfl),
   dt ag au.u ak.i (by kernel_rfl) ac.ls (y0 O)]
  refine⟨?_,I⟩;rw[u4,y0 O];rfl
def mz (szs t:List Int) (k c:Int) (cs:List Int):List Int:=match bX szs t 0 with
 |some n=>if cA c k then cs.set n.toNat c else cs
 |none=>cs
def wJ (szs t:List Int) (k c:Int):Int:=match bX szs t 0 with
 |some _=>if cA c k then 0 else 3
 |none=>3
theorem wK {g W:Nat} {t:List Int} {k c:Int} {cs:List Int} (h:cB w g W sv szs k cs) (an:aB .i64 w aA t):
  af x3 rW [.pointer (some ⟨g,0,none⟩),aA,.int .i64 c] w fun v w'=>v= .int .i64 (wJ szs t k c)∧ad (fun r=>r=W) w w'∧cB w' g W sv szs k (mz szs t k c cs):=by
 refine az func91 ?_;refine (wH h an).mono ?_;rintro _ J _ ⟨rfl,I⟩;have h1:=h.ext I;obtain⟨⟨aG,gs,U,hm,Y⟩,_,ac,ae⟩:=h1;unfold ja wJ mz;cases hi:bX szs t 0 with
 |none=>
  rw[aD (v:=.int .i64 0) rfl,aD (v:=.int .i64 3) rfl];simp only[bF,ab];exact⟨fun _=>⟨trivial,I.O _,h.ext I⟩,fun h=>by simp at h⟩
 |some n=>
  obtain⟨aF,aH⟩:=wI ac ae hi;rw[aD (v:=.int .i64 n) rfl,aD (v:=.int .i64 0) rfl];simp only[bF,ab];refine⟨fun h=>absurd rfl h,fun _=>?_⟩;rw[aw,V cD.p rfl,aa (by kernel_rfl) (U.cell (o:=0+1) rfl)];refine jW.mono ?_;rintro _ aI _ ⟨rfl,ag⟩;have ai:=(h.ext I).ext ag;by_cases aj:cA c k
  ·simp only[aj,decide_true,bc,Y4,aP,if_true];obtain⟨⟨aG,gs,U,hm,Y⟩,⟨ao,al⟩,ac,ae⟩:=ai;have aJ:=Y;obtain⟨aK,⟨rfl,aL⟩|⟨cap,full,rfl,ap,aq,av,ax,am⟩⟩:=Y
   ·omega
   ·rw[aw,V cD.p rfl,aa (by kernel_rfl) (U.cell (o:=0+2) rfl),
     wk (i:=n) au.u ak.i (by omega) (by omega) (fun _=>rfl)]
    refine bl ak.i rfl rfl ap (by omega) ?_;intro aM ah aN ay;refine⟨trivial,((I.trans ag).O _).trans ah,⟨_,gs,U.O ah (by omega),a6 hm ah (fun r aC aE=>al.1 (aE▸aC)),?_⟩,⟨ao,al⟩,ac,by simp[ae]⟩;refine⟨by simp,.inr ⟨cap,full.set (0+n.toNat*1) (.int .i64 c),?_,ay,by simpa using aq,av,by simpa using ax,?_⟩⟩
    ·simp
    ·simp only[Y6,W6,T1] at am ⊢;rw[List.take_set,am,ints,ints,U3]
  ·simp only[aj,decide_false,bc,X4,bC,if_false];exact⟨trivial,(I.trans ag).O _,ai⟩
def b0 (b:Int):Bool:=decide (b=32∨b=9∨b=10∨b=13)
def bq (b:Int):Bool:=decide (33≤b∧b≤126)
def lq:Nat→List Int→List (List Int)×Bool
 |0,_=>([],true)
 |n+1,p=>
  match p.dropWhile b0 with
  |[]=>([],true)
  |b::q=>
   if bq b then
    match (b::q).dropWhile bq with
    |[]=>([(b::q).takeWhile bq],true)
    |c::r=>if b0 c then (((b::q).takeWhile bq)::(lq n (c::r)).1,(lq n (c::r)).2) else ([],false)
   else ([],false)
def lex (p:List Int):List (List Int)×Bool:=lq (p.length+1) p
theorem mA (f:Int→Bool):∀ (l:List Int),(l.dropWhile f).length≤l.length
 |[]=>o7 _
 |x::l=>by
  rw[List.dropWhile_cons];split
  ·exact W7 (mA f l) (Nat.le_succ _)
  ·exact o7 _
theorem pZ {f:Int→Bool} (h:f x=true):((x::l).dropWhile f).length≤l.length:=by
 rw[List.dropWhile_cons,if_pos h];exact mA f l
theorem wL:∀ {n m:Nat} {p:List Int},p.length<n→p.length<m→lq n p=lq m p
 |n+1,m+1,p,V,hm=>by
  unfold lq;have h1:=mA b0 p;cases O:p.dropWhile b0 with
  |nil=>rfl
  |cons b q=>
   rw[O] at h1;simp only;by_cases I:bq b=true
   ·rw[if_pos I,if_pos I];have J:=pZ (l:=q) I;cases U:(b::q).dropWhile bq with
    |nil=>rfl
    |cons c r=>
     rw[U] at J;simp only[j4] at h1 J;simp only;rw[wL (n:=n) (m:=m) (p:=c::r) (by rw[j4];omega) (by rw[j4];omega)]
   ·rw[if_neg I,if_neg I]
theorem ip (p:List Int):lex p=match p.dropWhile b0 with
  |[]=>([],true)
  |b::q=>
   if bq b then
    match (b::q).dropWhile bq with
    |[]=>([(b::q).takeWhile bq],true)
    |c::r=>if b0 c then (((b::q).takeWhile bq)::(lex (c::r)).1,(lex (c::r)).2) else ([],false)
   else ([],false):=by
 unfold lex
 conv=>lhs;unfold lq
 have h1:=mA b0 p;cases O:p.dropWhile b0 with
 |nil=>rfl
 |cons b q=>
  rw[O] at h1;simp only;by_cases I:bq b=true
  ·rw[if_pos I,if_pos I];have J:=pZ (l:=q) I;cases U:(b::q).dropWhile bq with
   |nil=>rfl
   |cons c r=>
    rw[U] at J;simp only[j4] at h1 J;simp only;rw[wL (n:=p.length) (m:=(c::r).length+1) (p:=c::r) (by rw[j4];omega) (by omega)]
  ·rw[if_neg I,if_neg I]
theorem nP:∀ (n:Nat) (p:List Int),p.length≤n→(lex p).1.length≤p.length
 |n,p,W=>by
  rw[ip];have h1:=mA b0 p;cases U:p.dropWhile b0 with
  |nil=>simp
  |cons b q=>
   rw[U] at h1;simp only;by_cases I:bq b=true
   ·rw[if_pos I];have J:=pZ (l:=q) I;cases V:(b::q).dropWhile bq with
    |nil=>simp only[j4,List.length_nil] at h1 ⊢;omega
    |cons c r=>
     rw[V] at J;simp only[j4] at h1 J;simp only;by_cases O:b0 c=true
     ·rw[if_pos O]
      match n with
      |0=>omega
      |n+1=>
       have:=nP n (c::r) (by rw[j4];omega);simp only[j4] at this ⊢;omega
     ·rw[if_neg O];simp
   ·rw[if_neg I];simp
theorem p0:∀ (n:Nat) (p:List Int),p.length≤n→ ∀ w∈(lex p).1,w≠[]∧(∀ b∈w,bq b=true)∧w.length≤p.length
 |n,p,ab,w,hw=>by
  rw[ip] at hw;have h1:=mA b0 p;cases J:p.dropWhile b0 with
  |nil=>rw[J] at hw;simp at hw
  |cons b q=>
   rw[J] at h1 hw;simp only at hw;have Y:(b::q).length≤p.length:=h1;by_cases I:bq b=true
   ·rw[if_pos I] at hw;have O:=pZ (l:=q) I;have U:(b::q).takeWhile bq≠[]∧(∀ x∈(b::q).takeWhile bq,bq x=true)∧((b::q).takeWhile bq).length≤p.length:=
     ⟨by rw[List.takeWhile_cons,if_pos I];simp,fun x aa=>List.all_takeWhile (l:=b::q) (p:=bq) |> List.all_eq_true.1 |> fun h=>h x aa,W7 (List.takeWhile_sublist _).length_le Y⟩
    cases V:(b::q).dropWhile bq with
    |nil=>
     rw[V] at hw;simp only[j0] at hw;subst hw;exact U
    |cons c r=>
     rw[V] at O hw;simp only[j4] at h1 O;simp only at hw;by_cases W:b0 c=true
     ·rw[if_pos W] at hw;rcases U5.1 hw with rfl|hw
      ·exact U
      ·match n with
       |0=>omega
       |n+1=>
        have:=p0 n (c::r) (by rw[j4];omega) w hw;exact⟨this.1,this.2.1,W7 this.2.2 (by rw[j4];omega)⟩
     ·rw[if_neg W] at hw;simp at hw
   ·rw[if_neg I] at hw;simp at hw
def ao:Int:=4611686018427387904
def fg (b:Int):Bool:=decide (48≤b∧b≤57)
def ed (n b:Int):Int:=min ao (10*n+(b-48))
def iq:List Int→Option Int
 |[]=>none
 |l=>if l.all fg then some (l.foldl ed 0) else none
def fh:List Int→Option Int
 |45::l=>(iq l).map fun n=>-n
 |l=>iq l
theorem Ec {n b:Int} (J:0≤n) (I:fg b=true):0≤ed n b∧ed n b≤ao:=by
 have I:=of_decide_eq_true I;unfold ed ao;omega
theorem p1:∀ {l:List Int} {n:Int},l.all fg=true→0≤n∧n≤ao→0≤l.foldl ed n∧l.foldl ed n≤ao
 |[],n,_,I=>I
 |b::l,n,h,I=>by
  rw[List.all_cons,V5] at h;exact p1 (l:=l) h.2 (Ec I.1 h.1)
structure aC where
 toks:List (List Int)
 told:Int
 big:Bool
 shared:List (List Int×List (List Int×Int))
deriving DecidableEq
def df (s:aC):Option (List Int×aC):=match s.toks with
 |[]=>none
 |w::l=>some (w,{s with toks:=l})
def aY (lo hi:Int) (s:aC):Option (Int×aC):=match df s with
 |none=>none
 |some (w,s)=>match fh w with
  |none=>none
  |some n=>if lo≤n∧n≤hi then some (n,s) else none
def aV (b:Bool) (s:aC):aC:={s with big:=s.big||b}
def ch {α:Type} (f:List α→aC→Option (α×aC)):Nat→List α→aC→Option (List α×aC)
 |0,acc,s=>some (acc,s)
 |n+1,acc,s=>match f acc s with
  |none=>none
  |some (a,s)=>ch f n (acc++[a]) s
def ee (n:Int) (I:Nat) (s:aC):Option (List Int×aC):=ch (fun acc s=>match aY 0 (n-1) s with
 |none=>none
 |some (v,s)=>if v∈acc then none else some (v,s)) I [] s
def hd:List Int→List Int→aC→Option (List Int×aC)
 |[],acc,s=>some (acc,s)
 |k::l,acc,s=>match aY 0 (k-1) s with
  |none=>none
  |some (v,s)=>hd l (acc++[v]) s
def dg (sizes:List Int) (acc:List (List Int×Int)) (s:aC):Option ((List Int×Int)×aC):=match hd sizes [] s with
 |none=>none
 |some (t,s)=>match aY 0 ao s with
  |none=>none
  |some (c,s)=>if t∈acc.map (·.1) then none else some ((t,c),s)
def dh (sizes:List Int) (s:aC):Option (List (List Int×Int)×aC):=match aY (-ao) ao s with
 |none=>none
 |some (n,s)=>
  if n<0 then match s.shared[(-n-1).toNat]? with
   |none=>none
   |some (z,l)=>if z=sizes then some (l,s) else none
  else ch (dg sizes) n.toNat [] (aV (decide (16384<min (s.told+n) ao)) {s with told:=min (s.told+n) ao})
def cS (sizes:List Int):Bool:=decide (4096<aE (sizes.map fun k=>min k 4097))
structure bZ where
 scope:List Int
 sizes:List Int
 other:Int
 lines:List (List Int×Int)
deriving DecidableEq
def cF (all:List Int) (s:aC):Option (bZ×aC):=match aY (-ao) ao s with
 |none=>none
 |some (a,s)=>match ee all.length a.natAbs s with
  |none=>none
  |some (scope,s)=>
   let sizes:=scope.map fun v=>all.getD v.toNat 0
   match aY 0 ao (aV (decide (6<a.natAbs)||cS sizes) s) with
   |none=>none
   |some (other,s)=>match dh sizes s with
    |none=>none
    |some (lines,s)=>some (⟨scope,sizes,other,lines⟩,if a<0 then {s with shared:=s.shared++[(sizes,lines)]} else s)
def e2 (most:Int) (_:List Int) (s:aC):Option (Int×aC):=match aY 1 most s with
 |none=>none
 |some (z,s)=>some (z,aV (decide (32<z)) s)
structure bP where
 name:List Int
 k:Int
 sizes:List Int
 funs:List bZ
deriving DecidableEq
def gk (s:aC):Option (bP×aC):=match df s with
 |none=>none
 |some (name,s)=>match aY 1 ao (aV (decide (64<name.length)) s) with
  |none=>none
  |some (n,s)=>match aY 1 ao (aV (decide (64<n)) s) with
   |none=>none
   |some (most,s)=>match aY 0 ao s with
    |none=>none
    |some (count,s)=>match aY 1 ao (aV (decide (256<count)) s) with
     |none=>none
     |some (k,s)=>match ch (e2 most) n.toNat [] (aV (decide (2147483648<k)) s) with
      |none=>none
      |some (sizes,s)=>match ch (fun _ s=>cF sizes s) count.toNat [] s with
       |none=>none
       |some (funs,s)=>some (⟨name,k,sizes,funs⟩,s)
def fs (p:List Int):Option bP:=if 65536<p.length then none else match gk ⟨(lex p).1,0,false,[]⟩ with
 |none=>none
 |some (f,s)=>if s.toks=[]∧(lex p).2=true∧s.big=false then some f else none
def kH (n:Int) (I:Bool) (v:Int):Prop:=0≤n∧n≤4611686018427387909∧(I=true→v=ao)∧(I=false→v=min ao n)
theorem Ed {n b v:Int} {I:Bool} (h:kH n I v) (W:48≤b∧b≤57):
  kH (if I=true∨461168601842738790<n then n else 10*n+(b-48)) (I||decide (461168601842738790<n)) (ed v b):=by
 obtain⟨h1,O,U,V⟩:=h;unfold ed kH ao at*;cases I with
 |true=>
  have:=U rfl;rw[if_pos (.inl rfl)];exact⟨h1,O,fun _=>by omega,fun h=>by cases h⟩
 |false=>
  have:=V rfl;by_cases J:461168601842738790<n
  ·rw[if_pos (.inr J),decide_eq_true J];exact⟨h1,O,fun _=>by omega,fun h=>by cases h⟩
  ·rw[if_neg (by simp[J]),decide_eq_false J];exact⟨by omega,by omega,(fun h=>by cases h),fun _=>by omega⟩
theorem Ee:kH 0 false 0:=by unfold kH ao;exact⟨by omega,by omega,(fun h=>by cases h),fun _=>by omega⟩
theorem Ef {n v:Int} {I:Bool} (h:kH n I v):v=if I=true∨4611686018427387904<n then 4611686018427387904 else n:=by
 obtain⟨h1,V,O,U⟩:=h;unfold ao at*;cases I with
 |true=>rw[if_pos (.inl rfl)];exact O rfl
 |false=>
  have:=U rfl;by_cases J:4611686018427387904<n
  ·rw[if_pos (.inr J)];omega
  ·rw[if_neg (by simp[J])];omega
structure Cell where
 v:Int
 st:Nat
structure jb where
 i:Nat
 c:Cell
structure p2 where
 olds:Nat
 cells:Nat
 st:Nat
structure aH where
 cells:List Cell
 olds:List jb
 marks:List p2
 kI:Nat
def aH.bW (t:aH):List Int:=t.cells.map (·.v)
def aH.set (t:aH) (i:Nat) (x:Int):aH:=match t.cells[i]? with
 |none=>t
 |some c=>match t.marks.getLast? with
  |none=>{t with cells:=t.cells.set i ⟨x,c.st⟩}
  |some m=>if c.st<m.st∧i<m.cells then {t with olds:=t.olds++[⟨i,c⟩],cells:=t.cells.set i ⟨x,m.st⟩} else {t with cells:=t.cells.set i ⟨x,c.st⟩}
def aH.grow (t:aH) (n:Nat):aH:={t with cells:=t.cells++r9 n ⟨0,0⟩}
def back (os:List jb) (cs:List Cell):List Cell:=os.foldr (fun o cs=>cs.set o.i o.c) cs
theorem nQ:∀ (os:List jb) (cs:List Cell),(back os cs).length=cs.length
 |[],_=>rfl
 |o::os,cs=>by
  have:=nQ os cs;show ((back os cs).set o.i o.c).length=_;rw[Y6,this]
theorem back_append (a b:List jb) (cs:List Cell):back (a++b) cs=back a (back b cs):=by unfold back;rw[List.foldr_append]
theorem sr:∀ {os:List jb} {cs:List Cell} {n:Nat},(back os cs).take n=back (os.filter fun o=>decide (o.i<n)) (cs.take n)
 |[],cs,n=>rfl
 |o::os,cs,n=>by
  show ((back os cs).set o.i o.c).take n=_;by_cases h:o.i<n
  ·rw[List.filter_cons_of_pos (by simpa using h),List.take_set,sr];rfl
  ·rw[List.filter_cons_of_neg (by simpa using h),List.take_set_of_le (by omega),sr]
theorem wM {os:List jb} {cs:List Cell} (h:∀ o∈os,o.i<n):(back os cs).take n=back os (cs.take n):=by
 rw[sr,List.filter_eq_self.2 fun o I=>by simpa using h o I]
theorem wN:∀ {os:List jb} {cs I:List Cell} {i:Nat},cs.length=I.length→(∃ o∈os,o.i=i)→(back os cs)[i]? =(back os I)[i]?
 |[],_,_,_,_,⟨_,h,_⟩=>by cases h
 |o::os,cs,I,i,O,hm=>by
  show ((back os cs).set o.i o.c)[i]? =((back os I).set o.i o.c)[i]?;rw[Y5,Y5];by_cases h:o.i=i
  ·rw[if_pos h,if_pos h,nQ,nQ,O]
  ·rw[if_neg h,if_neg h];obtain⟨x,J,he⟩:=hm;rcases U5.1 J with rfl|J
   ·exact absurd he h
   ·exact wN O ⟨x,J,he⟩
theorem wO:∀ {os:List jb} {cs I:List Cell} {i:Nat},cs[i]? =I[i]? →cs.length=I.length→(back os cs)[i]? =(back os I)[i]?
 |[],_,_,_,h,_=>h
 |o::os,cs,I,i,h,J=>by
  show ((back os cs).set o.i o.c)[i]? =((back os I).set o.i o.c)[i]?;rw[Y5,Y5,nQ,nQ,J,wO h J]
def gG:aH→List aH→Prop
 |t,[]=>t.marks=[]∧t.olds=[]∧ ∀ c∈t.cells,c.st≤t.kI
 |t,s::h=>gG s h∧(∀ c∈t.cells,c.st≤t.kI)∧ ∃ m new,t.marks=s.marks++[m]∧m.olds=s.olds.length∧m.cells=s.cells.length∧t.olds=s.olds++new∧m.cells≤t.cells.length∧(back new t.cells).take m.cells=s.cells∧
   (∀ c∈s.cells,c.st<m.st)∧(∀ c∈t.cells,c.st≤m.st)∧(∀ (i:Nat) c,i<m.cells→t.cells[i]? =some c→c.st=m.st→ ∃ o∈new,o.i=i)∧(∀ o∈new,o.i<m.cells)∧m.st≤t.kI∧s.kI≤t.kI
theorem gG.grow {h:List aH} {t:aH} (J:gG t h):gG (t.grow n) h:=by
 cases h with
 |nil=>
  refine⟨J.1,J.2.1,fun c I=>?_⟩;rcases n9.1 I with I|I
  ·exact J.2.2 c I
  ·rw[(List.mem_replicate.1 I).2];exact Y7 _
 |cons s h=>
  obtain⟨h1,V,m,new,W,Y,a3,a4,a5,aa,ab,ac,a9,O,ad,ae⟩:=J;have U:∀ {b:Nat},(∀ c∈t.cells,c.st≤b)→ ∀ c∈(t.grow n).cells,c.st≤b:=fun af c I=>by
   rcases n9.1 I with I|I
   ·exact af c I
   ·rw[(List.mem_replicate.1 I).2];exact Y7 _
  refine⟨h1,U V,m,new,W,Y,a3,a4,by show m.cells≤(t.cells++_).length;rw[o5];omega,?_,ab,U ac,fun i c hi I he=>?_,O,ad,ae⟩
  ·show (back new (t.cells++_)).take m.cells=_;rw[wM O,List.take_append_of_le_length a5,←wM O];exact aa
  ·have I:(t.cells++r9 n ⟨0,0⟩)[i]? =some c:=I;rw[Z7 (by omega)] at I;exact a9 i c hi I he
theorem Eg {s:aH} {m:p2} {l:List p2} (h:l=s.marks++[m]):l.getLast? =some m:=by rw[h,List.getLast?_concat]
theorem gG.set {h:List aH} {t:aH} {i:Nat} (ad:gG t h):gG (t.set i x) h:=by
 unfold aH.set;cases V:t.cells[i]? with
 |none=>exact ad
 |some c=>
  have ah:=(x4.1 V).1;have aa:=x5 V;have W:∀ {b st:Nat},(∀ c∈t.cells,c.st≤b)→st≤b→ ∀ d∈t.cells.set i ⟨x,st⟩,d.st≤b:=fun ao ae d I=>by
   rcases X9 I with I|rfl
   ·exact ao d I
   ·exact ae
  cases h with
  |nil=>
   obtain⟨h1,Y,ai⟩:=ad;simp only[h1,List.getLast?_nil];exact⟨rfl,Y,W ai (ai c aa)⟩
  |cons s h=>
   obtain⟨h1,Y,m,new,af,aj,a3,a4,a5,ak,al,ab,a9,am,ag,an⟩:=ad;simp only[Eg af];by_cases ac:c.st<m.st∧i<m.cells
   ·rw[if_pos ac];refine⟨h1,W Y ag,m,new++[⟨i,c⟩],af,aj,a3,by show t.olds++_=_;rw[a4,V7],by show m.cells≤(t.cells.set i _).length;rw[Y6];exact a5,?_,al,W ab (o7 _),fun j d J I he=>?_,fun o U=>?_,ag,an⟩
    ·show (back (new++[⟨i,c⟩]) (t.cells.set i _)).take m.cells=_;rw[back_append];have:back [⟨i,c⟩] (t.cells.set i ⟨x,m.st⟩)=t.cells:=by
      show (t.cells.set i _).set i c=_;rw[List.set_set];refine Y8 fun j=>?_;rw[Y5];by_cases J:i=j
      ·subst J;rw[if_pos rfl,if_pos ah,V]
      ·rw[if_neg J]
     rw[this];exact ak
    ·have I:(t.cells.set i ⟨x,m.st⟩)[j]? =some d:=I;by_cases O:i=j
     ·exact⟨⟨i,c⟩,by simp,O⟩
     ·rw[Y5,if_neg O] at I;obtain⟨o,U,he⟩:=a9 j d J I he;exact⟨o,List.mem_append_left _ U,he⟩
    ·rcases n9.1 U with U|U
     ·exact am o U
     ·rw[j0.1 U];exact ac.2
   ·rw[if_neg ac];refine⟨h1,W Y (Y c aa),m,new,af,aj,a3,a4,by show m.cells≤(t.cells.set i _).length;rw[Y6];exact a5,?_,al,W ab (ab c aa),fun j d J I he=>?_,am,ag,an⟩
    ·rw[←ak];show (back new (t.cells.set i _)).take m.cells=_;refine Y8 fun j=>?_;by_cases J:j<m.cells
     ·rw[Z6 J,Z6 J];by_cases O:i=j
      ·subst O;have ae:c.st=m.st:=by
        have:=ab c aa;have:¬c.st<m.st:=fun ap=>ac ⟨ap,J⟩;omega
       exact wN (by rw[Y6]) (a9 i c J V ae)
      ·exact wO (by rw[Y5,if_neg O]) (by rw[Y6])
     ·rw[Z9 (by rw[o8];omega),Z9 (by rw[o8];omega)]
    ·have I:(t.cells.set i ⟨x,c.st⟩)[j]? =some d:=I;by_cases O:i=j
     ·subst O;rw[Y5,if_pos rfl,if_pos ah] at I;cases I;exact a9 i c J V he
     ·rw[Y5,if_neg O] at I;exact a9 j d J I he
theorem aH.mB {t:aH} {i:Nat}:(t.set i x).bW=t.bW.set i x:=by
 unfold aH.set aH.bW;cases I:t.cells[i]? with
 |none=>rw[List.set_eq_of_length_le (by rw[u5];exact List.getElem?_eq_none_iff.1 I)]
 |some c=>
  simp only;cases t.marks.getLast? with
  |none=>simp only;rw[U3]
  |some m=>simp only;split <;> rw[U3]
theorem aH.Eh {t:aH}:(t.grow n).bW=t.bW++r9 n 0:=by
 unfold aH.grow aH.bW;rw[b6,List.map_replicate]
end Go.Proofs.YtgbkinibgjmodaaGreatDoor
namespace Go.Vc
open Go Go.RowKit
section
variable {P:X5} {w:x2} {m:Bool} {S R:ag}
theorem p3 {b k l:Nat} {low high:Option x1} (V:P.underlying t=some (.slice e)) (hi:aJ P e k b z)
  (J:bS w k v n cs) (h1:jP low l) (W:jQ high n h) (O:l≤h) (Y:h≤n) (aa:∀ U,bS w k U (h-l) ((cs.drop (l*k)).take ((h-l)*k))→K U):
  I P (X6 t v low high none) w K:=by
 have ab:=J;obtain⟨_,ac,o,base,cap,rfl,ad,_⟩:=J;rw[gh V hi h1 W eM O (by omega) (o7 _)];exact aa _ (bS.part ab O Y (by omega) (o7 _))
theorem Ei {O:o4} {b i:Nat} (U:y=(i:Int)) (V:P.underlying t=some (.slice e)) (hi:aJ P e 1 b z)
  (h:aB k w v l) (W:i≤l.length) (Y:∀ J,aB k w J (l.drop i)→K J):I P (X6 t v (some (.int O y)) none none) w K:=by
 refine p3 V hi h (lg i y U) hT W (o7 _) fun J h'=>Y J (aB.of (n:=l.length-i) ?_);have aa:((ints k l).drop (i*1)).take ((l.length-i)*1)=ints k (l.drop i):=by
  rw[l5 (by simp),T1,ints,←List.map_drop]
 rw[aa] at h';exact h'
theorem p4 {O:o4} {b i:Nat} (U:y=(i:Int)) (V:P.underlying t=some (.slice e)) (hi:aJ P e 1 b z)
  (h:aB k w v l) (W:i≤l.length) (Y:∀ J,aB k w J (l.take i)→K J):I P (X6 t v none (some (.int O y)) none) w K:=by
 refine p3 V hi h hS (lh i y U) (Y7 _) W fun J h'=>Y J (aB.of (n:=i) ?_);have aa:((ints k l).drop (0*1)).take ((i-0)*1)=ints k (l.take i):=by
  simp[ints,List.map_take]
 rw[aa] at h';exact h'
theorem nR {b:Nat} {parts:Array (Nat×x1)} {K:x1→x2→Prop} (I:P.underlying t=some (.slice e)) (hi:aJ P e 1 b (.int .i64 0)) (aa:n≤100000) (J:l.length=n)
  (O:Instr.fill (fun j=>some (j*1,1)) ((Array.range (n*1)).map ((if n*1=0 then #[] else (W5 .i64 0).cells)[·% (if n*1=0 then #[] else (W5 .i64 0).cells).size]!)) parts.toList=some (ints .i64 l).toArray)
  (U:∀ v g w',g=w.heap.size→Ext w w'→am .i64 e w' g v l→K v w'):ax P (Z4 t n parts) w K:=
 il I hi (by omega) O fun g w' V W Y=>U _ g w' V W (am.of (n:=n) (bG.full (by simpa using Y) (by simp[J]) (by simp[maxLen];omega)))
end
section
variable {P:X5} {w:x2}
theorem Ej {J O:r8} {U kn:o4} {b k cap:Nat} {base:Option Addr} {K:x1→x2→Prop} (Y:y=(k:Int)) (aa:P.underlying t=some (.slice e)) (ab:P.underlying J=some (.int kn)) (hi:aJ P e 1 b z) (ac:z.cells= #[z])
  (ad:bS w 1 (.slice base n cap) n xs) (ae:0<k) (V:cap<n+k) (af:(n+k)*b≤140737488355328) (ag:n+k≤9223372036854775807)
  (ah:∀ v g w',g=w.heap.size→Ext w w'→bG w' g e 1 v (n+k) (xs++r9 k z)→K v w'):ax P (l9 #[t,J] O #[.slice base n cap,.int U y]) w K:=by
 subst Y;obtain⟨i,hi,ai,rfl,aj⟩:=hi;obtain⟨I,aw,o,ay,az,he,ak,aA,al,am⟩:=ad;cases he;have an:(n0.firstCells i.size n (.slice base n cap)).run P w.drew= .ok xs.toArray w.drew:=by
  rcases Nat.eq_zero_or_pos n with rfl|ao
  ·have:xs=[]:=b8 (by simpa using I);subst this;cases base with
   |none=>exact run_firstCells_none w.drew i.size 0 0 cap
   |some a=>exact run_firstCells_some w.drew i.size 0 a 0 cap [] (by simp) (by simp)
  ·have:=al ao;subst this;refine run_firstCells_some w.drew i.size n _ n cap xs (by rw[ai];exact I) fun j u hu=>?_;rw[U4];exact am j u hu
 have ap:k*i.bytes≤281474976710656:=by
  have:k*i.bytes≤(n+k)*i.bytes:=X0 _ (by omega);omega
 have aq:=Lib.run_append_grow_zeros (P:=P) w t J O e i z U kn aa ab hi aj base n cap xs an k ae (by omega) V (by omega) ap (growslice_fits V af);have au:n+k≤grownCap w (n+k) cap e:=grownCap_ge w _ _ _;have av:grownCap w (n+k) cap e≤maxLen:=grownCap_le_maxLen w (n+k) cap e (by simpa[maxLen] using ag);have W:∀ m,n0.zeroCells z.cells m=(r9 m z).toArray:=fun m=>by
  rw[ac];apply Array.ext
  ·simp[size_zeroCells]
  ·intro j h1 ak;simp[n0.zeroCells,Nat.mod_one]
 refine .of aq ((ni w _ (Nat.le_succ _)).trans (nk _ _)) (ah _ w.heap.size _ rfl ((pb w _).trans (nj _ _)) ⟨by simp at I;simp[I],.inr ⟨_,xs++r9 k z++r9 (grownCap w (n+k) cap e-(n+k)) z,rfl,?_,au,av,?_,?_⟩⟩)
 ·rw[W,W];have:=heap_alloc_new w.drew (.cells (xs.toArray++(r9 k z).toArray++(r9 (grownCap w (n+k) cap e-(n+k)) z).toArray) e);rw[List.append_toArray,List.append_toArray] at this ⊢;exact this
 ·simp at I;simp[I];omega
 ·simp at I;rw[List.take_append_of_le_length (by simp[I]),l5 (by simp[I])]
theorem wP {J:r8} {base:Option Addr} (O:P.underlying t=some (.slice e)):
  I P (n0.cap_ #[t] J #[.slice base n c]) w K=K (.int .i64 c):=I.of fun w' _=>by simp[n0.cap_,run_underlying O,goInt]
theorem Ek {g k:Nat} (h:ae w g e cs) (V:o+k≤cs.length) (J:k≤c) (O:c≤maxLen):bS w 1 (.slice (some ⟨g,o,none⟩) k c) k ((cs.drop o).take k):=by
 refine⟨by simp;omega,g,o,_,c,rfl,J,O,fun _=>rfl,fun j v I=>?_⟩;have U:=(x4.1 I).1;simp at U;rw[Z6 (by omega),List.getElem?_drop] at I;exact h.cell I
theorem wQ {U V:r8} {W g cap:Nat} {K:x1→x2→Prop} (Y:P.underlying t=some (.slice e)) (hi:aJ P e 1 W z) (aa:z.cells= #[z]) (h1:z.oneCell'=true)
  (I:ae w g V cs) (ab:0<n) (ai:o+n≤cs.length)
  (ac:∀ w',ad (fun r=>r=g) w w'→w'.heap.size=w.heap.size→ae w' g V (over cs o (r9 n z))→K (.tuple #[]) w'):ax P (n0.clear_ #[t] U #[.slice (some ⟨g,o,none⟩) n cap]) w K:=by
 obtain⟨i,hi,aj,rfl,af⟩:=hi;have ag:=Lib.run_clear_slice (P:=P) w t e U z Y (fun w=>by simp[zeroValue,typeInfo,hi,af]) aa h1 g o n cap ab
  (fun j ak=>by rw[I.cell (y0 (show o+j<cs.length by omega))];rfl) (fun j _=>I.frozen _ _)
 obtain⟨ah,J⟩:=lj (r9 n z) cs o w I;exact .of ag (J.dc I) (ac _ J.O J.size ah)
end
section
variable {P:X5} {w:x2}
theorem fS {J:r8} {O:o4} {i b g:Nat} (U:y=(i:Int)) (V:P.underlying t=some (.slice e)) (hi:aJ P e 1 b z)
  (h:am k J w g v l) (W:i<l.length):I P (o6 t v (.int O y)) w K=K (.pointer (some ⟨g,i,none⟩)):=by
 subst U;obtain⟨_,⟨_,Y⟩|⟨cap,cs,rfl,_⟩⟩:=h
 ·omega
 ·rw[fe V hi W (fun _=>rfl)];simp
theorem ss {O:o4} {i b:Nat} (U:y=(i:Int)) (V:P.underlying t=some (.slice e)) (hi:aJ P e 1 b z)
  (h:aB k w v l) (J:l[i]? =some x) (W:∀ b o,w.cell? ⟨b,o,none⟩=some (.int k x)→K (.pointer (some ⟨b,o,none⟩))):I P (o6 t v (.int O y)) w K:=by
 subst U;have Y:=(x4.1 J).1;obtain⟨_,_,_,_,_,rfl,_,_,aa,ab⟩:=h;rw[fe V hi Y aa,T1];exact W _ _ (ab i _ (jS J))
theorem fT {I:r8} {i b g:Nat} {K:Unit→x2→Prop} (hi:aJ P e 1 b z)
  (h:am k I w g v l) (af:i<l.length) (U:∀ w',ad (fun r=>r=g) w w'→w'.heap.size=w.heap.size→am k I w' g v (l.set i x)→K () w'):ax P (o3 e (.pointer (some ⟨g,i,none⟩)) (.int k x)) w K:=by
 obtain⟨ag,⟨_,ah⟩|⟨cap,full,rfl,V,W,Y,J,O⟩⟩:=h
 ·omega
 ·have aa:i<full.length:=by simp at J;omega
  refine bl hi rfl rfl V aa fun w' ab ac ae=>U w' ab ac ⟨by simp,.inr ⟨cap,full.set i (.int k x),by simp,ae,by simpa using W,Y,by simpa using J,?_⟩⟩;simp only[Y6,T1] at O ⊢;rw[List.take_set,O,ints,ints,U3]
theorem p5 {b:Nat} (I:kF P t=true) (h:w.cell? ⟨b,o,none⟩=some v):bb P (x6 t (.pointer (some ⟨b,o,none⟩))) v w:=fun w' J=>by
 have h':=lb J h;unfold kF at I;cases hu:P.underlying t with
 |none=>rw[hu] at I;cases I
 |some d=>
  rw[hu] at I;cases d <;> first|(cases I;done)|simp[x6,Instr.sureAddr,loadVar,isAgg,run_underlying hu,h']
theorem hW {S:ag} (h:aB k w v l) (O:ad S w w') (U:∀ r,S r→ ∀ a n c,v= .slice (some a) n c→a.block≠r):aB k w' v l:=by
 obtain⟨h1,b,o,base,cap,rfl,V,W,I,Y⟩:=h;refine⟨h1,b,o,base,cap,rfl,V,W,I,?_⟩;rcases Nat.eq_zero_or_pos l.length with J|J
 ·intro j u hu;have:=(x4.1 hu).1;simp at this;omega
 ·have aa:=I J;subst aa;exact pS O (fun h=>U _ h _ _ _ rfl rfl) Y
end
end Go.Vc
