/- own texts, made small by a tool (wip/ holds them as they were written): no statement of the seat. -/
import Derived.Test.YtgbkinibgjmodaaGreatDoorZa
set_option linter.unusedVariables false
set_option linter.unusedSimpArgs false
set_option linter.unnecessarySimpa false
open Array renaming getElem?_eq_some_iff→l7,getElem?_toList→T5
open BitVec renaming ofInt→V6
open Bool renaming not_true→Y4,not_false→X4,eq_iff_iff→V1,and_eq_true→V5,or_eq_false_iff→T3
open Decidable renaming not_not→Y9
open Go renaming Value→x1,World→x2,TypeId→r8,IntKind→o4,Builtin→n0,Program→X5,Oper→U2,Operand→T0
open Go.Addr renaming add_mid→U4
open Go.Builtin renaming append_→l9,len_→Z5
open Go.Instr renaming loadAt→x6,fieldAt→x7,storeAt→o3,indexAt→o6,extract→j6,buildSlice→Z4,sliceAt→X6,alloc→T7
open Go.IntKind renaming i64→Y0,u64→U1
open Go.Proofs.Tryz renaming prog→x3
open Go.Result renaming andThen→X3
open Go.Sem renaming run_bind→X2,run_pure→X8
open Go.Sort renaming Holds→T2
open Go.Value renaming int→W5
open Int renaming toNat_natCast→Z3
open List renaming getElem?_eq_getElem→y0,getElem?_eq_some_iff→x4,mem_of_getElem?→x5,getElem?_map→x8,getD_eq_getElem?_getD→u4,length_map→u5,take_add_one→u9,replicate→r9,length_append→o5,length_take→o8,take_length→o9,mem_append→n9,take_of_length_le→l5,mem_singleton→j0,length_cons→j4,mem_map→j5,map_append→b6,eq_nil_of_length_eq_zero→b8,getElem?_take_of_lt→Z6,getElem?_append_left→Z7,getElem?_append_right→Z8,getElem?_eq_none→Z9,mem_iff_getElem?→Y2,getElem?_set→Y5,length_set→Y6,ext_getElem?→Y8,length_eq_one_iff→X1,range→X7,mem_or_eq_of_mem_set→X9,drop_eq_getElem_cons→W0,getElem?_set_ne→W3,getElem?_set_self→W8,flatMap_cons→W9,pairwise_iff_getElem→V3,append_assoc→V7,set_append_right→V8,append_nil→V9,map_set→U3,mem_cons→U5,length_singleton→U8,map_cons→T4,getElem_mem→T6,length→T9
open List.cons renaming inj→T8
open Nat renaming le_refl→o7,zero_le→Y7,mul_le_mul_right→X0,zero_add→W6,le_trans→W7,sub_self→V2,add_mul→V4,beq→U6,mul_one→T1
open Option renaming some→j9,toList_some→Z0,isNone_some→Z1,map_some→Z2,map_eq_some_iff→Y1,map→V0,getD_some→U7
open Option.some renaming inj→b9,injEq→Y3
open Prod.mk renaming injEq→U9
variable {at_ c hi k lo o x y:Int}{N gs j m n r:Nat}{J e t:r8}{w w':x2}{cs:List x1}{C a ks l sizes szs:List Int}{K:x1→Prop}{clean cx cy:Bool}{sv v z:x1}{R S:Nat→Prop}{toks:List (List Int)}
namespace Go.Vc
open Go Go.RowKit Go.ChangeShapes Go.WideShapes
structure jX (P:X5) (t:r8) (α:Type) [ai α] (G:α→Prop):Prop where
 op:∀ {H:Type} {enc:r8×x1→H} {w:x2} {base:Nat} {spare:Nat→Bool} {held:Bool} {fuel:Nat} {cs:List x1} {x:DataW H×List MemPlace},
  DataW.trod enc P w base spare held fuel t cs=some x→ ∃ a:α,Seen eN w cs a∧G a
section
variable {P:X5} {α β:Type} [ai α] [ai β]
theorem wR {k:o4} {n:Int} (h:(Lit.int k n).wf=true):k.min≤n∧n≤k.max:=by simpa[Lit.wf] using h
theorem wS {k:o4} (I:P.underlying t=some (.int k)):jX P t (cJ k) fun n=>k.min≤n.val∧n.val≤k.max:=⟨fun h=>by
 obtain⟨n,rfl,_,hw⟩:=DataW.trod_int I h;exact⟨(n:Int),rfl,wR hw⟩⟩
theorem mC (I:P.underlying t=some (.int .i64)):jX P t Int fun n=>Y0.min≤n∧n≤Y0.max:=⟨fun h=>by
 obtain⟨n,rfl,_,hw⟩:=DataW.trod_int I h;exact⟨n,rfl,wR hw⟩⟩
theorem El (I:P.underlying t=some .bool):jX P t Bool fun _=>True:=⟨fun h=>by
 obtain⟨b,rfl,_⟩:=DataW.trod_bool I h;exact⟨b,rfl,trivial⟩⟩
theorem Em (a:Addr) (m n:Nat):(a.add m).add n=a.add (m+n):=by
 unfold Addr.add;by_cases hm:m=0 <;> by_cases I:n=0 <;> simp[hm,I,Nat.add_assoc]
theorem En {base:Nat} {a:Addr} (h:w.cells? base a n=some cs):cs.length=n∧ ∀ j v,cs[j]? =some v→w.cell? (a.add j)=some v:=by
 unfold x2.cells? at h;split at h
 ·have J:cs.length=n:=by
   have:=mapM_some_length h;simpa using this
  refine⟨J,fun j v I=>?_⟩;have O:=(x4.1 I).1;have:=mapM_some_get h j j (List.getElem?_range (by omega));rw[this,I]
 ·cases h
theorem p6 {G:α→Prop} (aj:P.underlying t=some (.slice e)) (he:jX P e α G) (ak:P.cellsOf e=ai.n α) (au:0<ai.n α):jX P t (List α) fun l=>∀ a∈l,G a:=by
 constructor;intro H enc w base spare held fuel cs x h;rcases DataW.trod_slice aj h with⟨rfl,_⟩|⟨a,len,cap,av,rest,n,_,rfl,rfl,aw,ax,hm,ay,al,_,_⟩
 ·exact⟨[],fQ,fun _ h=>by cases h⟩
 ·
  have af:∀ i,i<len→ ∃ (c:List x1) (y:α),c.length=ai.n α∧(∀ j v,c[j]? =some v→w.cell? (a.add (i*ai.n α+j))=some v)∧Seen eN w c y∧G y:=by
   intro i hi;have h1:=al i hi;rw[y0 (by omega),ak,Option.bind_eq_some_iff] at h1;obtain⟨c,U,V⟩:=h1;obtain⟨Y,aa⟩:=En U;obtain⟨y,ab,am⟩:=he.op V;exact⟨c,y,Y,fun j v O=>by have:=aa j v O;rwa [Em] at this,ab,am⟩
  have all:∀ m,m≤len→ ∃ (vs:List (List x1)) (l:List α),vs.length=m∧l.length=m∧(∀ c∈vs,c.length=ai.n α)∧(∀ (j:Nat) (v:x1),vs.flatten[j]? =some v→w.cell? (a.add j)=some v)∧
    (∀ (i:Nat) (c:List x1) (y:α),vs[i]? =some c→l[i]? =some y→Seen eN w c y)∧ ∀ y∈l,G y:=by
   intro m;induction m with
   |zero=>exact fun _=>⟨[],[],rfl,rfl,(fun _ h=>by cases h),(fun j v h=>by simp at h),(fun i c y h=>by simp at h),(fun _ h=>by cases h)⟩
   |succ m an=>
    intro hm;obtain⟨vs,l,h1,U,V,Y,aa,ab⟩:=an (by omega);obtain⟨c,y,ag,ac,ao,ap⟩:=af m (by omega);refine⟨vs++[c],l++[y],by simp[h1],by simp[U],fun d I=>?_,fun j v O=>?_,fun i d z I J=>?_,fun z J=>?_⟩
    ·rcases n9.1 I with I|I
     ·exact V d I
     ·simp at I;subst I;exact ag
    ·have W:=nL V;rw[h1] at W;rw[List.flatten_append] at O;by_cases aq:j<m*ai.n α
     ·rw[Z7 (by omega)] at O;exact Y j v O
     ·rw[Z8 (by omega),W] at O;simp at O;have:=ac _ v O;rwa [show m*ai.n α+(j-m*ai.n α)=j by omega] at this
    ·by_cases hi:i<m
     ·rw[Z7 (by omega)] at I J;exact aa i d z I J
     ·have ad:=(x4.1 I).1;simp[h1] at ad;have ad:i=m:=by omega
      subst ad;rw[Z8 (by omega),h1] at I;rw[Z8 (by omega),U] at J;simp at I J;subst I J;exact ao
    ·rcases n9.1 J with J|J
     ·exact ab z J
     ·simp at J;subst J;exact ap
  obtain⟨vs,l,h1,U,V,Y,aa,ab⟩:=all len (o7 _);have W:=nL V;rw[h1] at W;have ah:0<len→a=⟨a.block,a.off,none⟩:=fun ae=>by
   obtain⟨c,y,ag,ac,_⟩:=af 0 (by omega);have:=ac 0 c[0] (y0 (by omega));rw[Nat.zero_mul] at this;exact sh this
  refine⟨l,⟨_,rfl,vs,0,fun _ _=>False,⟨fun _ _ h=>h.elim,(fun h=>by cases h),(fun h=>by cases h)⟩,⟨by omega,aa⟩,⟨by rw[W,U],a.block,a.off,some a,cap,by rw[U],by omega,hm,fun ae=>congrArg some (ah (by omega)),fun _=>.inr trivial,fun j v O=>?_⟩,fun h=>by cases h⟩,ab⟩;have:=Y j v O;have aq:=(x4.1 O).1;have ae:0<len:=by
   rcases Nat.eq_zero_or_pos len with h|h
   ·rw[h,Nat.zero_mul] at W;omega
   ·exact h
  rw[ah ae,U4] at this;exact this
structure p7 (P:X5) (fs:List Field) (off:Nat) (α:Type) [ai α] (G:α→Prop):Prop where
 op:∀ {H:Type} {enc:r8×x1→H} {w:x2} {base:Nat} {spare:Nat→Bool} {held:Bool} {n:Nat} {cs:List x1},cs.length=off+ai.n α→
  (∀ f∈fs,∃ x,DataW.trod enc P w base spare held n f.type ((cs.drop f.offset).take (P.cellsOf f.type))=some x)→ ∃ a:α,Seen eN w (cs.drop off) a∧G a
theorem Eo {f:Field} {off:Nat} {G:α→Prop} (h:jX P f.type α G) (I:f.offset=off) (J:P.cellsOf f.type=ai.n α):p7 P [f] off α G:=by
 constructor;intro H enc w base spare held n cs W O;obtain⟨x,U⟩:=O f (.head _);obtain⟨a,h1,V⟩:=h.op U;rw[I,J,l5 (by simp;omega)] at h1;exact⟨a,h1,V⟩
theorem kJ {f:Field} {I:List Field} {off:Nat} {G:α→Prop} {J:β→Prop} (h:jX P f.type α G) (U:f.offset=off) (V:P.cellsOf f.type=ai.n α) (W:p7 P I (off+ai.n α) β J):
  p7 P (f::I) off (α×β) fun p=>G p.1∧J p.2:=by
 constructor;intro H enc w base spare held n cs ae O;obtain⟨x,Y⟩:=O f (.head _);obtain⟨a,h1,aa⟩:=h.op Y;rw[U,V] at h1;have af:ai.n (α×β)=ai.n α+ai.n β:=rfl;obtain⟨b,ab,ac⟩:=W.op (by omega) fun g ad=>O g (.tail _ ad);refine⟨(a,b),⟨(cs.drop off).take (ai.n α),cs.drop (off+ai.n α),fun _=>False,fun _=>False,?_,fun _ h=>h,fun _ h=>h,(fun h=>by cases h),h1,ab⟩,aa,ac⟩;rw[←List.drop_drop,List.take_append_drop]
theorem Ep {I:List Field} {G:α→Prop} (J:P.underlying t=some (.struct I.toArray)) (O:p7 P I 0 α G) (aa:P.cellsOf t=ai.n α):jX P t α G:=by
 constructor;intro H enc w base spare held fuel cs x h;obtain⟨xs,n,_,rfl,ab,U,V⟩:=DataW.trod_struct J h;have:=O.op (enc:=enc) (w:=w) (base:=base) (spare:=spare) (held:=held) (n:=n) (cs:=cs) (by omega) fun f W=>by
  obtain⟨i,hi,rfl⟩:=List.mem_iff_getElem.1 W;have Y:i<xs.length:=by simpa[U] using hi
  have:=V i I[i] (by simp[hi]);rw[y0 Y] at this;exact⟨_,this⟩
 simpa using this
end
end Go.Vc
namespace Go.Vc
open Go Go.RowKit
set_option maxRecDepth 100000
theorem Er:(⟨#[]⟩:ByteArray)=strOfNums []:=rfl
theorem Es {I:x1→x1→x1→x2→Prop} {B:(x1→x1→x1→x2→Prop)→Prop} (G:x1→x1→x1→x2→Prop) (h1:∀ t u v w,G t u v w→I t u v w)
  (O:∀ J:x1→x1→x1→x2→Prop,(∀ t u v w,G t u v w→J t u v w)→B J):be I B:=O I h1
theorem su {I:x1→x1→x1→x1→x2→Prop} {B:(x1→x1→x1→x1→x2→Prop)→Prop} (G:x1→x1→x1→x1→x2→Prop) (h1:∀ s t u v w,G s t u v w→I s t u v w)
  (O:∀ J:x1→x1→x1→x1→x2→Prop,(∀ s t u v w,G s t u v w→J s t u v w)→B J):be I B:=O I h1
abbrev bk (l:List Int):x1:=.string (strOfNums l)
def Bytes (l:List Int):Prop:=∀ b∈l,0≤b∧b<256
theorem kK (l:List Int):(strOfNums l).size=l.length:=strOfNums_size l
theorem Et (h:Bytes l) {i:Nat} {b:Int} (hi:l[i]? =some b):(strOfNums l)[i]? =some (UInt8.ofNat b.toNat)∧((UInt8.ofNat b.toNat).toNat:Int)=b:=by
 have U:=h b (x5 hi);have J:=x4.1 hi;refine⟨?_,by rw[UInt8.toNat_ofNat'];omega⟩;have O:i<(strOfNums l).size:=by rw[kK];exact J.1
 rw[getElem?_pos (strOfNums l) i O];congr 1;show (strOfNums l).data[i]=_;have I:(strOfNums l).data.toList[i]? =some (UInt8.ofNat b.toNat):=by rw[strOfNums_data,x8,hi];rfl
 rw[T5] at I;exact (l7.1 I).2
theorem str_inj {b:List Int} (I:Bytes a) (J:Bytes b) (h:strOfNums a=strOfNums b):a=b:=by
 have h1:(strOfNums a).data.toList=(strOfNums b).data.toList:=by rw[h]
 rw[strOfNums_data,strOfNums_data] at h1;have key:∀ {l:List Int},Bytes l→(l.map fun n=>UInt8.ofNat n.toNat).map (fun u=>((u.toNat:Nat):Int))=l:=fun {l} O=>by
  rw[List.map_map]
  conv=>rhs;rw[←List.map_id l]
  refine List.map_congr_left fun x U=>?_;have:=O x U;show (((UInt8.ofNat x.toNat).toNat:Nat):Int)=x;rw[UInt8.toNat_ofNat'];omega
 rw[←key I,←key J,h1]
theorem Eu (a b:List Int):strOfNums a++strOfNums b=strOfNums (a++b):=by
 apply ByteArray.ext;rw[ByteArray.data_append];simp[strOfNums]
theorem Ev (l:List Int) (i j:Nat):(strOfNums l).extract i j=strOfNums ((l.take j).drop i):=by
 apply ByteArray.ext;rw[ByteArray.data_extract];apply Array.toList_inj.1;rw[Array.toList_extract];simp[strOfNums,List.extract_eq_take_drop,List.map_drop,List.map_take,List.drop_take]
theorem wT (l:List Int):(strOfNums l).toList=l.map fun n=>UInt8.ofNat n.toNat:=by
 rw[ByteArray.toList_eq];exact strOfNums_data l
theorem wU {b:List Int} (I:Bytes a) (J:Bytes b):((strOfNums a).toList == (strOfNums b).toList)=decide (a=b):=by
 rw[V1,beq_iff_eq,decide_eq_true_eq,wT,wT];refine⟨fun h=>str_inj I J ?_,fun h=>by rw[h]⟩;unfold strOfNums;rw[h]
section
variable {P:X5} {w:x2}
theorem lr (O:P.underlying t=some .string):I P (Z5 #[t] J #[bk l]) w K=K (.int .i64 l.length):=I.of fun w' _=>by
 simp[Z5,run_underlying O,goInt,kK]
theorem nS {k:o4} {b:Int} {i:Nat} (J:y=(i:Int)) (O:P.underlying t=some .string) (U:Bytes l) (hi:l[i]? =some b):I P (Instr.index t (bk l) (.int k y)) w K=K (.int .u8 b):=I.of fun w' _=>by
 subst J;obtain⟨h1,V⟩:=Et U hi;have e:(0:Int)≤(i:Int):=by omega
 simp only[Instr.index,asIntOf,X2,X8,X3,run_underlying O];rw[if_pos e,Z3,h1];simp only[X8,V]
theorem sw {b:List Int} (h:a.length+b.length≤9223372036854775807):I P (av .add t cx cy (bk a) (bk b)) w K=K (bk (a++b)):=I.of fun w' _=>by
 have:=run_string_add_sum (P:=P) (w:=w') (strOfNums a) (strOfNums b) (by rw[kK,kK];exact h);simp only[av,eqGuard,binOp];simp[this,Eu]
theorem wV {b:List Int} (J:Bytes a) (O:Bytes b):I P (av .eql t cx cy (bk a) (bk b)) w K=K (.bool (decide (a=b))):=I.of fun w' _=>by
 simp[av,eqGuard,binOp,Op.stringOp,wU J O]
theorem Ew {b:List Int} (J:Bytes a) (O:Bytes b):I P (av .neq t cx cy (bk a) (bk b)) w K=K (.bool (decide (a≠b))):=I.of fun w' _=>by
 simp[av,eqGuard,binOp,Op.stringOp,wU J O]
theorem wW {k:o4} {i:Nat} (J:y=(i:Int)) (O:P.underlying t=some .string) (hi:i≤l.length):I P (X6 t (bk l) (some (.int k y)) none none) w K=K (bk (l.drop i)):=I.of fun w' _=>by
 have U:=pV (P:=P) w' (sl:=false) (n:=(strOfNums l).size) (c:=(strOfNums l).size) (low:=some (.int k y)) (high:=none) (mx:=none) (l:=i) (h:=(strOfNums l).size) (m:=(strOfNums l).size) (lg i y J) hT eM (by rw[kK];exact hi) (o7 _) (o7 _);have e:(strOfNums l).extract i (strOfNums l).size=strOfNums (l.drop i):=by rw[Ev,kK,o9]
 simp[X6,Instr.slice,run_underlying O,U,e]
theorem sx {s:r8} (J:P.underlying s=some (.slice e)) (he:P.underlying e=some (.int .u8)) (O:P.underlying t=some .string) (h:aB .u8 w v l):I P (convert s t v) w K=K (bk l):=I.of fun w' W=>by
 obtain⟨U,b,o,base,cap,rfl,_,_,Y,aa⟩:=h.ext W;have U:l.length=l.length*1:=by simpa using U
 by_cases ab:0<l.length
 ·rw[Y ab];refine run_convert_bytes_arg w' s e J he b o l.length cap l rfl (fun i hi=>?_) t O;have V:l[i]? =some l[i]:=y0 hi;rw[u4,V];exact aa i _ (jS V)
 ·have ac:l=[]:=b8 (by omega);subst ac;cases base with
  |none=>
   rw[run_convert_bytes_nil w' s e J he _ _ t O];rfl
  |some a=>
   rw[run_convert_bytes_string w' s t e _ _ _ J he O];have:=run_bytesToString (P:=P) w' a 0 cap [] (by have:=run_loadCells_list (P:=P) w' a [] (fun j v ad=>by simp at ad);simpa using this);simp only[List.length_nil];rw[this];rfl
theorem sy {s:r8} {u:TypeDesc} {K:x1→x2→Prop} (W:P.underlying s=some u) (Y:P.underlying t=some (.slice e)) (he:P.underlying e=some (.int .u8)) (aa:Bytes l) (hm:l.length≤1000000000)
  (ab:∀ v w',Ext w w'→aB .u8 w' v l→(∀ r,(∃ a n c,v= .slice (some a) n c∧a.block=r)→w.heap.size≤r)→K v w'):ax P (convert s t (bk l)) w K:=by
 have ac:=Lib.bytesWorld_at_new w e (strOfNums l);have U:=fun j I=>Lib.bytesWorld_at_old w e (strOfNums l) j I;have ad:=Lib.bytesWorld_size w e (strOfNums l);refine .of (Lib.run_convert_string_bytes w s t e (strOfNums l) W Y he) ⟨rfl,⟨rfl,Nat.le_succ _⟩,rfl,by omega,fun r o J _=>?_⟩ (ab _ _ ⟨by omega,fun r o J _=>?_⟩ ?_ ?_)
 ·rw[U r (l7.1 J).1];exact J
 ·rw[U r (l7.1 J).1];exact J
 ·rw[kK];refine⟨by simp,w.heap.size,0,_,_,rfl,?_,?_,fun _=>rfl,fun j v O=>?_⟩
  ·exact grownCap_ge w _ _ _
  ·exact grownCap_le_maxLen w _ _ _ (by simp[maxLen];omega)
  ·have I:j<l.length:=by have:=(x4.1 O).1;simpa using this
   have V:l[j]? =some l[j]:=y0 I;rw[W6,Lib.bytesWorld_cell w e (strOfNums l) j (by rw[kK];exact I)];rw[jS V] at O;rw[←b9 O,strOfNums_data,u4,x8,V];have:=aa l[j] (T6 I);simp only[Z2,U7];congr 2;rw[UInt8.toNat_ofNat'];omega
 ·rintro r ⟨a,n,c,h1,rfl⟩;cases h1;exact o7 _
end
end Go.Vc
namespace Go.Proofs.YtgbkinibgjmodaaGreatDoor
open Go Go.Vc Go.RowKit Go.Proofs Go.Proofs.Tryz
set_option maxRecDepth 100000
theorem wX {b:Int} (h:b0 b=true):bq b=false:=by
 have h:=of_decide_eq_true h;unfold bq;rw[decide_eq_false_iff_not];omega
theorem wY {b:Int} {p:List Int} (h:b0 b=true):lex (b::p)=lex p:=by
 rw[ip,ip p,List.dropWhile_cons,if_pos h]
theorem Ex {b:Int} {p:List Int} (h:b0 b=false) (I:bq b=false):lex (b::p)=([],false):=by
 rw[ip,List.dropWhile_cons,if_neg (by simp[h])];simp only[I,Bool.false_eq_true,if_false]
theorem wZ {b:Int} {p:List Int} (h:bq b=true):lex (b::p)=match p.dropWhile bq with
  |[]=>([b::p.takeWhile bq],true)
  |c::r=>if b0 c then ((b::p.takeWhile bq)::(lex (c::r)).1,(lex (c::r)).2) else ([],false):=by
 have I:b0 b=false:=by
  cases J:b0 b with
  |false=>rfl
  |true=>rw[wX J] at h;cases h
 rw[ip,List.dropWhile_cons,if_neg (by simp[I])];simp only[h,if_true,List.dropWhile_cons,List.takeWhile_cons]
 all_goals (cases List.dropWhile bq p <;> rfl)
def gH:List Int→List (List Int)→List Int→Bool→List (List Int)×Bool
 |[],out,w,op=>(if op then out++[w] else out,true)
 |b::p,out,w,op=>
  if b0 b then gH p (if op then out++[w] else out) [] false
  else if bq b then gH p out (if op then w++[b] else[b]) true
  else (out,false)
theorem nT:∀ (p:List Int) (out:List (List Int)) (w:List Int),gH p out w false=(out++(lex p).1,(lex p).2)∧
  gH p out w true=match p.dropWhile bq with
   |[]=>(out++[w++p.takeWhile bq],true)
   |c::r=>if b0 c then (out++[w++p.takeWhile bq]++(lex (c::r)).1,(lex (c::r)).2) else (out,false)
 |[],out,w=>by simp[gH,ip []]
 |b::p,out,w=>by
  by_cases I:b0 b=true
  ·have hw:=wX I;refine⟨?_,?_⟩
   ·rw[gH,if_pos I,(nT p _ _).1,wY I];simp
   ·rw[gH,if_pos I,if_pos rfl,(nT p _ _).1,List.dropWhile_cons,if_neg (by simp[hw])];simp only[I,if_true,wY I,List.takeWhile_cons,hw,Bool.false_eq_true,if_false,V9]
  ·have O:b0 b=false:=by cases h:b0 b;rfl;exact absurd h I
   by_cases hw:bq b=true
   ·refine⟨?_,?_⟩
    ·rw[gH,if_neg I,if_pos hw,if_neg (by simp),(nT p _ _).2,wZ hw];cases p.dropWhile bq with
     |nil=>simp
     |cons c r=>
      simp only;by_cases J:b0 c=true
      ·simp[J]
      ·simp[J]
    ·rw[gH,if_neg I,if_pos hw,if_pos rfl,(nT p _ _).2,List.dropWhile_cons,if_pos hw,List.takeWhile_cons,if_pos hw];cases p.dropWhile bq with
     |nil=>simp
     |cons c r=>
      simp only;by_cases J:b0 c=true
      ·simp[J]
      ·simp[J]
   ·have U:bq b=false:=by cases h:bq b;rfl;exact absurd h hw
    refine⟨?_,?_⟩
    ·rw[gH,if_neg I,if_neg hw,Ex O U];simp
    ·rw[gH,if_neg I,if_neg hw,List.dropWhile_cons,if_neg hw];simp[O]
theorem Ey (p:List Int):gH p [] [] false=lex p:=by rw[(nT p [] []).1];simp
def mD:Nat→Nat→List Int
 |0,_=>[]
 |k+1,n=>(if n<10 then[] else mD k (n / 10))++[48+((n % 10:Nat):Int)]
def eA (n:Nat):List Int:=mD (n+1) n
theorem w1:∀ {k m n:Nat},n<k→n<m→mD k n=mD m n
 |k+1,m+1,n,h1,I=>by
  unfold mD;by_cases h:n<10
  ·rw[if_pos h,if_pos h]
  ·rw[if_neg h,if_neg h,w1 (k:=k) (m:=m) (n:=n / 10) (by omega) (by omega)]
theorem lu (n:Nat):eA n=(if n<10 then[] else eA (n / 10))++[48+((n % 10:Nat):Int)]:=by
 unfold eA;rw[mD];by_cases h:n<10
 ·rw[if_pos h,if_pos h]
 ·rw[if_neg h,if_neg h,w1 (k:=n) (m:=n / 10+1) (by omega) (by omega)]
theorem w2:∀ (k n:Nat),n<k→ ∀ b∈eA n,48≤b∧b≤57
 |k+1,n,J,b,I=>by
  rw[lu] at I;rcases n9.1 I with I|I
  ·by_cases h:n<10
   ·rw[if_pos h] at I;simp at I
   ·rw[if_neg h] at I;exact w2 k (n / 10) (by omega) b I
  ·rw[j0] at I;omega
theorem w3 (n:Nat):∀ b∈eA n,48≤b∧b≤57:=w2 (n+1) n (by omega)
def nU (l:List Int):Int:=l.foldl (fun n b=>10*n+(b-48)) 0
theorem Ez (l:List Int) (b:Int):nU (l++[b])=10*nU l+(b-48):=by simp[nU]
theorem sz:∀ (k n:Nat),n<k→nU (eA n)=n
 |k+1,n,I=>by
  rw[lu,Ez];by_cases h:n<10
  ·rw[if_pos h];have:nU []=0:=rfl;omega
  ·rw[if_neg h,sz k (n / 10) (by omega)];omega
theorem EA {a b:Nat} (h:eA a=eA b):a=b:=by
 have h1:=sz (a+1) a (by omega);have I:=sz (b+1) b (by omega);rw[h,I] at h1;omega
theorem sA:∀ (k n:Nat),n<10 ^ k→1≤k→(eA n).length≤k
 |k+1,n,h,_=>by
  rw[lu,o5];by_cases I:n<10
  ·rw[if_pos I];simp
  ·rw[if_neg I];have J:1≤k:=by
    rcases k with _|k
    ·simp at h;omega
    ·omega
   have O:(10:Nat) ^ (k+1)=10*10 ^ k:=by rw[Nat.pow_succ,Nat.mul_comm]
   have:=sA k (n / 10) (by omega) J;simp only[U8];omega
def ds (t:List Int):List Int:=t.flatMap fun v=>eA v.toNat++[32]
theorem EB (t:List Int) (v:Int):ds (t++[v])=ds t++(eA v.toNat++[32]):=by simp[ds]
theorem w4 {r:List Int} (I:∀ b∈l,b≠32):(l++32::r).takeWhile (fun b=>decide (b≠32))=l∧(l++32::r).dropWhile (fun b=>decide (b≠32))=32::r:=by
 induction l with
 |nil=>simp
 |cons x l J=>
  have O:=I x (.head _);have:=J fun b U=>I b (.tail _ U);simp only[List.cons_append,List.takeWhile_cons,List.dropWhile_cons];simp only[O,ne_eq,not_false_eq_true,decide_true,if_true];exact⟨by rw[this.1],this.2⟩
theorem w5:∀ {a b:List Int},(∀ x∈a,0≤x)→(∀ x∈b,0≤x)→ds a=ds b→a=b
 |[],[],_,_,_=>rfl
 |[],y::b,_,_,h=>by simp[ds] at h
 |x::a,[],_,_,h=>by simp[ds] at h
 |x::a,y::b,O,U,h=>by
  have e:∀ (z:Int) (l:List Int),ds (z::l)=eA z.toNat++32::ds l:=fun z l=>by simp[ds]
  rw[e,e] at h;have d:∀ z:Int,∀ c∈eA z.toNat,c≠32:=fun z c W=>by have:=w3 _ c W;omega
  have I:=w4 (r:=ds a) (d x);have V:=w4 (r:=ds b) (d y);rw[h] at I;have Y:eA x.toNat=eA y.toNat:=I.1.symm.trans V.1;have aa:=I.2.symm.trans V.2;have ac:=O x (.head _);have ad:=U y (.head _);have:=EA Y;have ab:x=y:=by omega
  subst ab;rw[w5 (fun z J=>O z (.tail _ J)) (fun z J=>U z (.tail _ J)) (T8 aa).2]
theorem w6 (t:List Int):Bytes (ds t):=fun b I=>by
 obtain⟨v,_,I⟩:=List.mem_flatMap.1 I;rcases n9.1 I with I|I
 ·have:=w3 _ b I;omega
 ·rw[j0] at I;omega
theorem w7 {b:Int}:af x3 CQ [.int .u8 b] w fun v w'=>v= .bool (b0 b)∧Ext w w':=by
 refine az func204 ?_;refine aM (fun v J=>v= .bool (b0 b)∧Ext w J) (fun _ _ h=>h) fun O I=>?_;rw[a8,ab];refine⟨fun h=>I _ _ ⟨by unfold b0;rw[decide_eq_true (.inl h)],Ext.refl _⟩,fun h1=>?_⟩;rw[a8,ab];refine⟨fun h=>I _ _ ⟨by unfold b0;rw[decide_eq_true (.inr (.inl h))],Ext.refl _⟩,fun U=>?_⟩;rw[a8,ab];refine⟨fun h=>I _ _ ⟨by unfold b0;rw[decide_eq_true (.inr (.inr (.inl h)))],Ext.refl _⟩,fun V=>?_⟩;rw[a8];refine I _ _ ⟨?_,Ext.refl _⟩;congr 1;unfold b0;rw[V1,decide_eq_true_eq,decide_eq_true_eq];omega
theorem EC {b:Int}:af x3 CP [.int .u8 b] w fun v w'=>v= .bool (bq b)∧Ext w w':=by
 refine az func203 ?_;refine aM (fun v J=>v= .bool (bq b)∧Ext w J) (fun _ _ h=>h) fun O I=>?_;rw[cm,ab];refine⟨fun h=>?_,fun h=>I _ _ ⟨by unfold bq;rw[decide_eq_false (by omega)],Ext.refl _⟩⟩;rw[ld];refine I _ _ ⟨?_,Ext.refl _⟩;congr 1;unfold bq;rw[V1,decide_eq_true_eq,decide_eq_true_eq];omega
def jY (w:x2) (g:Nat) (I:x1) (p:List Int) (at_:Nat) (bad:Int):Prop:=Bytes p∧p.length≤100000∧at_≤p.length∧ae w g gf [I,.int .i64 (at_:Int),.int .i64 bad]∧ ∃ J,am .u8 b5 w J I p
theorem jY.ext {g:Nat} {I:x1} {p:List Int} {at_:Nat} {bad:Int} (h:jY w g I p at_ bad) (J:Ext w w'):jY w' g I p at_ bad:=by
 obtain⟨h1,O,U,V,W,Y⟩:=h;exact⟨h1,O,U,V.ext J,W,Y.ext J⟩
theorem ED (h:aB .u8 w v l) (ag:l.length≤100000):af x3 CK [v] w fun O w'=>Ext w w'∧ ∃ g,am .u8 b5 w' g O l:=by
 have I:=h;obtain⟨ah,b,o,base,cap,rfl,ai,hm,V,W⟩:=h;refine az func197 ?_;rw[pT b7.u,br];refine⟨fun Y=>⟨Ext.refl _,0,?_⟩,fun _=>?_⟩
 ·have:l=[]:=by
   cases base with
   |none=>
        by_cases I:0<l.length
        ·have:=V I;cases this
        ·exact b8 (by omega)
   |some a=>cases Y
  subst this;exact am.nil _ _ _ _
 ·refine il (k:=1) (cs:=#[]) b7.u b5.i (by omega) (by kernel_rfl) fun g J aj U aa=>?_;have ab:am .u8 b5 J g (.slice (some ⟨g,0,none⟩) 0 0) []:=am.of (n:=0) (bG.full (by simpa using aa) rfl (by simp));refine hb b7.u b5.i rfl ab (I.ext U) (by simp;omega) (by simp;omega) fun O ac ak al ad ae=>?_;exact⟨U.then ae (fun r W he=>by have he:r=g:=he;omega),ac,by simpa using ad⟩
theorem w8 (h:aB .u8 w v l) (Y:Bytes l) (O:l.length≤100000):af x3 vQ [v] w fun aa w'=>Ext w w'∧ ∃ g,aa= .pointer (some ⟨g,0,none⟩)∧w.heap.size≤g∧ ∃ I,jY w' g I l 0 (-1):=by
 refine az func146 ?_;refine (ED h O).mono ?_;rintro I J _ ⟨U,ab,V⟩;rw[cH (cs:=#[I,.int .i64 0,.int .i64 (-1)]) (by obtain⟨_,_,_,_,_,rfl,_⟩:=V.ls;kernel_rfl)];refine bL fun g ad ae W ac=>?_;have ag:=U.size;exact⟨U.trans W,g,rfl,by omega,I,Y,O,Y7 _,ac,ab,V.ext W⟩
def runN (f:Int→Bool) (p:List Int):Nat:=(p.takeWhile f).length
theorem EE (f:Int→Bool) (p:List Int):runN f p≤p.length:=(List.takeWhile_sublist f).length_le
theorem w9 {f:Int→Bool} {p:List Int} {i:Nat} {b:Int} (hi:p[i]? =some b) (J:f b=true):i+runN f (p.drop i)=(i+1)+runN f (p.drop (i+1)):=by
 have I:=x4.1 hi;unfold runN;rw[W0 I.1,I.2,List.takeWhile_cons,if_pos J,j4];omega
theorem xa {f:Int→Bool} {p:List Int} {i:Nat} (h:∀ b,p[i]? =some b→f b=false):runN f (p.drop i)=0:=by
 unfold runN;cases I:p[i]? with
 |none=>
  rw[List.drop_of_length_le (List.getElem?_eq_none_iff.1 I)];rfl
 |some b=>
  have J:=x4.1 I;rw[W0 J.1,J.2,List.takeWhile_cons,if_neg (by simp[h b I])];rfl
theorem EF {g at_:Nat} {ai:x1} {p:List Int} {bad:Int} (h:jY w g ai p at_ bad):af x3 CO [.pointer (some ⟨g,0,none⟩)] w fun v w'=>v= .int .i64 ((at_+runN b0 (p.drop at_):Nat):Int)∧Ext w w':=by
 obtain⟨av,ax,aj,I,ay,W⟩:=h;refine az func202 ?_;rw[aw,V gf.p rfl,aa (by kernel_rfl) (I.cell (o:=0+1) rfl)];refine⟨fun v J=>Ext w J∧ ∃ i:Nat,v= .int .i64 (i:Int)∧i≤p.length∧i+runN b0 (p.drop i)=at_+runN b0 (p.drop at_),fun v _=>p.length-(bB v).toNat,⟨Ext.refl _,at_,rfl,aj,rfl⟩,?_⟩;rintro _ J ⟨U,i,rfl,hi,he⟩;refine aM (fun v Y=>Ext w Y∧ ∃ c:Bool,v= .bool c∧(c=true↔ ∃ b,p[i]? =some b∧b0 b=true)) ?_ ?_
 ·rintro _ Y ⟨ac,c,rfl,ad⟩;rw[br];refine⟨fun ak=>?_,fun ae=>?_⟩
  ·obtain⟨b,O,al⟩:=ad.1 ak;have am:=(x4.1 O).1;rw[aI,wrap_i64 (by omega) (by omega)];exact⟨⟨ac,i+1,rfl,am,by rw[←he,w9 O al]⟩,by simp only[bB];omega⟩
  ·have ao:=xa (f:=b0) (p:=p) (i:=i) fun b I=>by
    cases ap:b0 b with
    |false=>rfl
    |true=>rw[ad.2 ⟨b,I,ap⟩] at ae;cases ae
   exact⟨by rw[←he,ao,Nat.add_zero],ac⟩
 ·intro aA ag;have ah:=I.ext U;rw[aw,V gf.p rfl,aa (by kernel_rfl) (ah.cell (o:=0+0) rfl),aL b7.u (W.ext U).ls,an,ab];refine⟨fun aB=>?_,fun aC=>ag _ _ ⟨U,false,rfl,⟨fun h=>(by cases h),fun⟨b,I,_⟩=>by have:=(x4.1 I).1;omega⟩⟩⟩;have aq:i<p.length:=by omega
  have O:p[i]? =some p[i]:=y0 aq;rw[aw,V gf.p rfl,aa (by kernel_rfl) (ah.cell (o:=0+0) rfl),aZ b7.u b5.i (by kernel_rfl) (W.ext U).ls O];refine w7.mono ?_;rintro _ aD _ ⟨rfl,au⟩;exact ag _ _ ⟨U.trans au,_,rfl,⟨fun h=>⟨_,O,h⟩,fun⟨b,I,h⟩=>by rw[O] at I;cases I;exact h⟩⟩
inductive EG where
 |word (from_ to:Nat)
 |none
 |text (at_:Nat)
def fi (p:List Int) (at_:Nat):Nat:=at_+runN b0 (p.drop at_)
def hf (p:List Int) (a:Nat):Nat:=a+runN bq (p.drop a)
open Classical in
noncomputable def mE (p:List Int) (at_:Nat):EG:=
 if hf p (fi p at_)<p.length∧(∀ c,p[hf p (fi p at_)]? =some c→b0 c=false) then .text (hf p (fi p at_)) else if fi p at_=hf p (fi p at_) then .none else .word (fi p at_) (hf p (fi p at_))
def nV (w:x2) (g:Nat) (I:x1) (p:List Int) (at_:Nat) (v:x1) (w':x2):Prop:=
 match mE p at_ with
 | .word a b=>v= .tuple #[bk ((p.take b).drop a),.int .i64 (a:Int),.int .i64 0]∧ad (fun r=>r=g) w w'∧jY w' g I p b (-1)
 | .none=>∃ n:Nat,v= .tuple #[bk [],.int .i64 (n:Int),.int .i64 2]∧Ext w w'
 | .text b=>v= .tuple #[bk [],.int .i64 (b:Int),.int .i64 11]∧ad (fun r=>r=g) w w'∧jY w' g I p at_ (b:Int)
theorem fB {aO:Nat→Prop} {a b c:x2} (h:ad S a b) (k:ad aO b c) (U:∀ r,r<a.heap.size→aO r→S r):ad S a c:=
 ⟨W7 h.size k.size,fun r o I J O=>k.ba r o (h.ba r o I J O) J fun hu=>O (U r (l7.1 I).1 hu)⟩
theorem bQ {g J:Nat} {k:o4} {O:r8} (h:am k e w g v l) (U:ae w J O cs) (W:e≠O) (V:leads v r):r≠J:=by
 obtain⟨rfl,_⟩:=bn h V;obtain⟨_,⟨rfl,_⟩|⟨_,_,_,I,_⟩⟩:=h
 ·obtain⟨a,n,c,h,_⟩:=V;cases h
 ·rintro rfl;unfold ae at U I;rw[U] at I;injection I with h1;injection h1 with aa Y;exact W Y.symm
theorem EH {s:r8} {O U:o4} {b i:Nat} (V:x3.underlying s=some (.slice t)) (hi:aJ x3 t 1 b z)
  (h:aB .u8 w v l) (W:i≤j) (Y:j≤l.length) (aa:∀ J,aB .u8 w J ((l.take j).drop i)→K J):I x3 (X6 s v (some (.int O (i:Int))) (some (.int U (j:Int))) none) w K:=by
 refine p3 V hi h (lg i _ rfl) (lh j _ rfl) W Y fun J h'=>aa J (aB.of (n:=j-i) ?_);have ab:((ints .u8 l).drop (i*1)).take ((j-i)*1)=ints .u8 ((l.take j).drop i):=by
  rw[T1,T1,ints,ints,List.map_drop,List.map_take,List.drop_take]
 rw[ab] at h';exact h'
set_option maxHeartbeats 1000000 in
theorem EI {g at_:Nat} {aj:x1} {p:List Int} (h:jY w g aj p at_ (-1)):af x3 r0 [.pointer (some ⟨g,0,none⟩)] w (nV w g aj p at_):=by
 obtain⟨aA,aB,aW,I,aC,ak⟩:=id h;refine az func152 ?_;rw[cI pP.u,Z1,aP,aw,V gf.p rfl,aa (by kernel_rfl) (I.cell (o:=0+2) rfl),cm,ab];refine⟨fun h=>by omega,fun _=>?_⟩;refine (EF h).mono ?_;rintro _ aX _ ⟨rfl,aY⟩;obtain⟨a,aD⟩:∃ a,a=at_+runN b0 (p.drop at_):=⟨_,rfl⟩;rw[←aD];have a1:a≤p.length:=by have:=EE b0 (p.drop at_);rw[List.length_drop] at this;omega
 refine⟨fun v al=>Ext aX al∧ ∃ i:Nat,v= .int .i64 (i:Int)∧a≤i∧i≤p.length∧i+runN bq (p.drop i)=a+runN bq (p.drop a),fun v _=>p.length-(bB v).toNat,⟨Ext.refl _,a,rfl,o7 _,a1,rfl⟩,?_⟩;rintro _ al ⟨aE,i,rfl,a2,hi,he⟩;have am:=aY.trans aE;have aF:=I.ext am;have aG:=ak.ext am;refine aM (fun v ad=>Ext al ad∧ ∃ c:Bool,v= .bool c∧(c=true↔ ∃ b,p[i]? =some b∧bq b=true)) ?_ ?_
 rotate_left
 ·intro a7 W;rw[aw,V gf.p rfl,aa (by kernel_rfl) (aF.cell (o:=0+0) rfl),aL b7.u aG.ls,an,ab];refine⟨fun ba=>?_,fun bb=>W _ _ ⟨Ext.refl _,false,rfl,⟨fun h=>(by cases h),fun⟨b,I,_⟩=>by have:=(x4.1 I).1;omega⟩⟩⟩;have ae:i<p.length:=by omega
  have J:p[i]? =some p[i]:=y0 ae;rw[aw,V gf.p rfl,aa (by kernel_rfl) (aF.cell (o:=0+0) rfl),aZ b7.u b5.i (by kernel_rfl) aG.ls J];refine EC.mono ?_;rintro _ ad _ ⟨rfl,ag⟩;exact W _ _ ⟨ag,_,rfl,⟨fun h=>⟨_,J,h⟩,fun⟨b,I,h⟩=>by rw[J] at I;cases I;exact h⟩⟩
 rintro _ ad ⟨ag,c,rfl,Y⟩;have ao:=am.trans ag;have aH:=I.ext ao;have aJ:=ak.ext ao;rw[br];refine⟨fun ap=>?_,fun aK=>?_⟩
 ·obtain⟨b,J,bd⟩:=Y.1 ap;have be:=(x4.1 J).1;rw[aI,wrap_i64 (by omega) (by omega)];exact⟨⟨aE.trans ag,i+1,rfl,by omega,be,by rw[←he,w9 J bd]⟩,by simp only[bB];omega⟩
 have bj:=xa (f:=bq) (p:=p) (i:=i) fun b I=>by
  cases aq:bq b with
  |false=>rfl
  |true=>rw[Y.2 ⟨b,I,aq⟩] at aK;cases aK
 have bf:i=a+runN bq (p.drop a):=by omega
 refine aM (fun v au=>Ext ad au∧ ∃ c:Bool,v= .bool c∧(c=true↔i<p.length∧ ∀ c,p[i]? =some c→b0 c=false)) ?_ ?_
 rotate_left
 ·intro a7 W;rw[aw,V gf.p rfl,aa (by kernel_rfl) (aH.cell (o:=0+0) rfl),aL b7.u aJ.ls,an,ab];refine⟨fun ba=>?_,fun bb=>W _ _ ⟨Ext.refl _,false,rfl,⟨fun h=>(by cases h),fun h=>by omega⟩⟩⟩;have ae:i<p.length:=by omega
  have J:p[i]? =some p[i]:=y0 ae;rw[aw,V gf.p rfl,aa (by kernel_rfl) (aH.cell (o:=0+0) rfl),aZ b7.u b5.i (by kernel_rfl) aJ.ls J];refine w7.mono ?_;rintro _ au _ ⟨rfl,av⟩;rw[bc];refine W _ _ ⟨av,_,rfl,⟨fun h=>⟨ae,fun c Y=>?_⟩,fun h=>by rw[h.2 _ J];rfl⟩⟩;rw[J] at Y;cases Y;cases aq:b0 p[i] with
  |false=>rfl
  |true=>rw[aq] at h;cases h
 rintro _ au ⟨av,bk,rfl,aN⟩;have ac:=ao.trans av;have ah:=I.ext ac;have ai:=ak.ext ac;have aO:∀ r,leads aj r→r≠g:=fun r bg=>bQ ai ah (by decide) bg;have ax:mE p at_=open Classical in if i<p.length∧(∀ c,p[i]? =some c→b0 c=false) then .text i else if a=i then .none else .word a i:=by
  unfold mE;rw[show fi p at_=a from aD.symm,show hf p a=i from bf.symm]
 rw[br];refine⟨fun ap=>?_,fun aQ=>?_⟩
 ·rw[aw,V gf.p rfl];refine bl (g:=g) (o:=2) U.i rfl rfl ah (by simp) fun bm aR bn bh=>?_;unfold nV;rw[ax,if_pos (aN.1 ap)];exact⟨rfl,(ac.O _).trans aR,aA,aB,aW,bh,aC,a6 ai aR aO⟩
 ·have aS:¬(i<p.length∧ ∀ c,p[i]? =some c→b0 c=false):=fun h=>by rw[aN.2 h] at aQ;cases aQ
  rw[a8,ab];refine⟨fun bo=>?_,fun bp=>?_⟩
  ·intro bt ay _ _;rw[aw,V gf.p rfl,aa (by kernel_rfl) ((ah.ext ay).cell (o:=0+0) rfl),aL b7.u (ai.ext ay).ls];unfold nV;rw[ax,if_neg aS,if_pos (by omega)];exact⟨p.length,rfl,ac.trans ay⟩
  ·rw[aw,V gf.p rfl];refine bl (g:=g) (o:=1) U.i rfl rfl ah (by simp) fun bu aT bw aU=>?_;have aV:=a6 ai aT aO;rw[aw,V gf.p rfl,aa (by kernel_rfl) (aU.cell (o:=0+0) rfl)];refine EH (i:=a) (j:=i) b7.u b5.i aV.ls a2 hi fun bx bi=>?_;rw[sx b7.u b5.u cz.u bi];unfold nV;rw[ax,if_neg aS,if_neg (by omega)];exact⟨rfl,(ac.O _).trans aT,aA,aB,hi,aU,aC,aV⟩
abbrev bh:ag:=fun _=>False
abbrev dV (n:Nat):ag:=fun r=>n≤r
theorem xb {b:List Int} {cn bv:x1} (O:aB .i64 w cn a) (ad:aB .i64 w bv b):
  af x3 Cb [cn,bv] w fun v w'=>v= .bool (decide (a=b))∧Ext w w':=by
 refine az func124 ?_;rw[aL ac.u O,aL ac.u ad];simp only[bF,ab];refine⟨fun W=>⟨?_,Ext.refl _⟩,fun ae=>?_⟩
 ·rw[decide_eq_false];rintro rfl;exact W rfl
 ·have ae:a.length=b.length:=by omega
  rw[aL ac.u O];refine bt.range a.length (fun i _ J=>Ext w J∧a.take i=b.take i) O.le ⟨Ext.refl _,rfl⟩ ?_ ?_
  ·rintro i t4 J k ag ⟨I,Y⟩ ah;simp only[an,ab,cj];refine⟨fun _ aj ai _ _=>?_,fun h=>by omega⟩;have I:=I.trans ai;obtain⟨x,aa⟩:∃ x,a[i]? =some x:=⟨_,y0 ag⟩;obtain⟨y,V⟩:∃ y,b[i]? =some y:=⟨_,y0 (by omega)⟩;rw[aZ ac.u U.i (by kernel_rfl) (O.ext I) aa,aZ ac.u U.i (by kernel_rfl) (ad.ext I) V];simp only[bF,ab,aI];refine⟨fun W=>⟨?_,I⟩,fun ak=>ah _ _ ⟨I,sg Y aa V (by omega)⟩⟩;rw[decide_eq_false];rintro rfl;rw[aa] at V;cases V;exact W rfl
  ·rintro _ J k ⟨I,Y⟩;simp only[an,ab];refine⟨fun h=>by omega,fun _=>⟨?_,I⟩⟩;rw[decide_eq_true];rwa [o9,ae,o9] at Y
def hI (rest:List (List Int)) (i:Nat):List (List Int):=(X7 i).flatMap fun(v:Nat)=>rest.map fun t=>(v:Int)::t
theorem EJ (rest:List (List Int)) (i:Nat):hI rest (i+1)=hI rest i++rest.map fun t=>(i:Int)::t:=by
 simp[hI,List.range_succ]
theorem xc (rest:List (List Int)) (i:Nat):(hI rest i).length=i*rest.length:=by
 simp only[hI,List.length_flatMap,u5];rw[List.map_const',List.length_range,List.sum_replicate_nat]
theorem p8:∀ (s:List Int) {sv:x1} {w:x2},aB .i64 w sv s→bD s→
  af x3 rV [sv] w fun v w'=>Ext w w'∧bi (dV w.heap.size) bh w' [v] (bm s)
 |[],sv,w,h,ad=>by
  refine az func90 ?_;rw[aL ac.u h];simp only[a8,List.length_nil,Int.natCast_zero,decide_true,bC];refine hF (α:=List Int) (a:=[]) (cs:=[.slice none 0 0]) (A:=bh) cQ.u ac.i (by decide) rfl fQ fun v w' aq I _=>⟨aq,ai.mono I (fun r _ h=>?_) fun _ _ h=>h⟩;exact h.elim False.elim id
 |k::s,sv,w,h,ad=>by
  have aQ:=prod_bound ad;have ae:bD s:=ad.drop 1;have aR:=ad.2 k (.head _);have au:=hV ae.2;have aS:=prod_bound ae;obtain⟨kn,rfl⟩:∃ kn:Nat,k=kn:=⟨k.toNat,by omega⟩;have aT:kn*(bm s).length≤1073741824:=by
   have e:((kn*(bm s).length:Nat):Int)=aE ((kn:Int)::s):=by
    rw[Int.natCast_mul,au,aE,Int.toNat_of_nonneg (by omega)]
   omega
  refine az func90 ?_;rw[aL ac.u h];simp only[a8,ab];refine⟨fun av=>by simp at av;omega,fun _=>?_⟩;refine Ei (i:=1) rfl ac.u U.i h (by simp) fun aw h'=>?_;refine (p8 s h' ae).mono ?_;rintro aU V _ ⟨ag,Y⟩;have aV:=jT Y;refine bt.range kn (fun i out J=>Ext V J∧bi (dV V.heap.size) bh J [out] (hI (bm s) i)) (by omega) ⟨Ext.refl _,fQ⟩ ?_ ?_
  ·rintro i out ax ay am ⟨W,I⟩ aA;have aC:=bO Y W;rw[dt (y:=0) (i:=0) rfl ac.u U.i (by kernel_rfl) (h.ext (ag.trans W)) (by rfl)];simp only[an,ab];refine⟨fun _=>?_,fun h=>by omega⟩;rw[fR cQ.u aC];refine bt.range (bm s).length (fun j out J=>Ext V J∧bi (dV V.heap.size) bh J [out] (hI (bm s) i++((bm s).take j).map fun t=>(i:Int)::t)) (by omega) ⟨W,by simpa using I⟩ ?_ ?_
   ·rintro j out O aD aF ⟨aa,I⟩ aG;simp only[an,ab];refine⟨fun _=>?_,fun h=>by omega⟩;obtain⟨x,ah⟩:∃ x,(bm s)[j]? =some x:=⟨_,y0 aF⟩;have aX:x.length≤100:=by
     have:=DY ah;have:=ae.1;omega
    refine io rfl rfl cQ.u ac.i (by kernel_rfl) (bO Y aa) ah fun u hu=>?_;refine dx ac.u U.i rfl fun a aW aY aZ aj aH=>?_;refine hb ac.u U.i rfl aH (ff (bO hu aj)) (by simp;omega) (by simp;omega) fun b a1 aJ a2 ak aK=>?_;have a6:=aj.size;have ao:Ext O aJ:=aj.then aK (by rintro r Y rfl;omega);have a7:=ao.size;refine hF (α:=List Int) (a:=(i:Int)::x) (cs:=[b]) (A:=dV O.heap.size) (R:=bh) cQ.u ac.i (by decide) (nM (ln ak (R:=bh))) (ai.mono (ln ak) (fun r _ h=>by subst h;show O.heap.size≤r;omega) fun _ _ h=>h) fun c ba al _ aM=>?_;have ap:=ao.trans al;have bb:=al.size;refine lm (α:=List Int) (a:=(i:Int)::x) (A:=dV O.heap.size) cQ.u ac.i rfl (bO (jT I) ap) aM (bO (ai.mono (ln ak) (fun r _ h=>by subst h;show O.heap.size≤r;omega) fun _ _ h=>h) al) (fun r _ h h'=>?_) ?_ ?_ fun aw bc aN aO=>?_
    ·rcases h' with h'|h'
     ·have:=h.2;have:O.heap.size≤r:=h';omega
     ·exact h'
    ·have aP:(hI (bm s) i++((bm s).take j).map fun t=>(i:Int)::t).length+1≤kn*(bm s).length:=by
      simp only[o5,xc,u5,o8];have:(i+1)*(bm s).length≤kn*(bm s).length:=X0 _ am;rw[V4] at this;omega
     omega
    ·have aP:(hI (bm s) i++((bm s).take j).map fun t=>(i:Int)::t).length+1≤kn*(bm s).length:=by
      simp only[o5,xc,u5,o8];have:(i+1)*(bm s).length≤kn*(bm s).length:=X0 _ am;rw[V4] at this;omega
     omega
    ·simp only[aI];have bd:=aa.size;refine aG _ _ ⟨(aa.trans ap).then aO (fun r Y h=>?_),?_⟩
     ·have:=h.1;have:V.heap.size≤r:=this;omega
     ·have e:hI (bm s) i++((bm s).take (j+1)).map (fun t=>(i:Int)::t)=(hI (bm s) i++((bm s).take j).map fun t=>(i:Int)::t)++[(i:Int)::x]:=by
       rw[u9,ah];simp
      rw[e];refine ai.mono aN (fun r _ h=>?_) fun _ _ h=>h;show V.heap.size≤r;rcases h with h|h|h
      ·exact h.1
      ·have:O.heap.size≤r:=h;omega
      ·omega
   ·rintro out O aD ⟨aa,I⟩;simp only[an,ab,aI];refine⟨fun h=>by omega,fun _=>aA _ _ ⟨aa,?_⟩⟩;rw[EJ];simpa using I
  ·rintro out ax ay ⟨W,I⟩;rw[dt (y:=0) (i:=0) rfl ac.u U.i (by kernel_rfl) (h.ext (ag.trans W)) (by rfl)];simp only[an,ab];refine⟨fun h=>by omega,fun _=>⟨ag.trans W,?_⟩⟩;have be:=ag.size;have e:bm ((kn:Int)::s)=hI (bm s) kn:=by simp[bm,hI]
   rw[e];exact ai.mono I (fun r _ h=>by have:V.heap.size≤r:=h;show w.heap.size≤r;omega) fun _ _ h=>h
def mF (l:List (List Int)) (t:List Int):Int:=match l.findIdx? (·=t) with
 |some i=>i
 |none=>-1
theorem EK {s t:List Int} {aA:x1} (h:aB .i64 w sv s) (V:bD s) (ag:aB .i64 w aA t):
  af x3 Cy [sv,aA] w fun v w'=>v= .int .i64 (mF (bm s) t)∧Ext w w':=by
 have al:=hV V.2;have am:=prod_bound V;refine az func169 ?_;refine (p8 s h V).mono ?_;rintro ao J _ ⟨W,ad⟩;rw[fR cQ.u ad];refine bt.range (bm s).length (fun i _ Y=>Ext J Y∧ ∀ j,j<i→(bm s)[j]? ≠some t) (by omega) ⟨Ext.refl _,fun j I=>by omega⟩ ?_ ?_
 ·rintro i _ Y k hi ⟨O,U⟩ ah;simp only[an,ab];refine⟨fun _=>?_,fun h=>by omega⟩;obtain⟨x,aa⟩:∃ x,(bm s)[i]? =some x:=⟨_,y0 hi⟩;refine io rfl rfl cQ.u ac.i (by kernel_rfl) (bO ad O) aa fun u hu=>?_;refine (xb (ff hu) (ag.ext (W.trans O))).mono ?_;rintro _ ap _ ⟨rfl,ae⟩;simp only[ab,aI];refine⟨fun he=>⟨?_,(W.trans O).trans ae⟩,fun ai=>ah _ _ ⟨O.trans ae,fun j I=>?_⟩⟩
  ·subst he;have:(bm s).findIdx? (·=x)=some i:=by
    rw[List.findIdx?_eq_some_iff_getElem];refine⟨hi,by simpa using (x4.1 aa).2,fun j I=>?_⟩;have:=U j I;rw[y0 (by omega)] at this;simpa using this
   unfold mF;rw[this]
  ·by_cases aj:j=i
   ·subst aj;rw[aa];intro h;exact ai (by simpa using h)
   ·exact U j (by omega)
 ·rintro _ Y k ⟨O,U⟩;simp only[an,ab];refine⟨fun h=>by omega,fun _=>⟨?_,W.trans O⟩⟩;have:(bm s).findIdx? (·=t)=none:=by
   rw[List.findIdx?_eq_none_iff];intro x ak;obtain⟨j,I,rfl⟩:=List.mem_iff_getElem.1 ak;have:=U j I;rw[y0 I] at this;simpa using this
  unfold mF;rw[this]
end Go.Proofs.YtgbkinibgjmodaaGreatDoor
namespace Go.Proofs.YtgbkinibgjmodaaGreatDoor
open Go Go.Vc Go.RowKit Go.Proofs Go.Proofs.Tryz
set_option maxRecDepth 100000
def ir (a c:Nat):Nat:=(BitVec.ofNat 64 a &&& ~~~BitVec.ofNat 64 c).toNat
theorem EL (a c i:Nat):(ir a c).testBit i=(decide (i<64)&&(a.testBit i&& !c.testBit i)):=by
 unfold ir;rw[BitVec.testBit_toNat,BitVec.getLsbD_and,BitVec.getLsbD_not,BitVec.getLsbD_ofNat,BitVec.getLsbD_ofNat];by_cases h:i<64 <;> simp[h]
theorem EM {a:Nat} (h:∀ i,n≤i→a.testBit i=false):a<2 ^ n:=Nat.lt_pow_two_of_testBit a h
end Go.Proofs.YtgbkinibgjmodaaGreatDoor
namespace Go.Proofs.YtgbkinibgjmodaaGreatDoor
open Go Go.Vc Go.RowKit Go.Proofs Go.Proofs.Tryz
set_option maxRecDepth 100000
section
variable {P:X5} {w:x2} {t:r8} {cx cy:Bool} {a b:Nat} {K:x1→Prop}
theorem kL (a:Nat):V6 64 (a:Int)=BitVec.ofNat 64 a:=BitVec.ofInt_natCast _ _
theorem xd (x:BitVec 64):U1.wrap (x.toNat:Int)=(x.toNat:Int):=by
 have:=x.isLt;rw[wrap_u64 (by omega) (by omega)]
theorem u64_and (J:a<2 ^ 64) (O:b<2 ^ 64):I P (av .and t cx cy (.int .u64 a) (.int .u64 b)) w K=K (.int .u64 ((a &&& b:Nat):Int)):=I.of fun w' _=>by
 have e:(V6 64 (a:Int) &&& V6 64 (b:Int)).toNat=a &&& b:=by
  rw[kL,kL,BitVec.toNat_and,BitVec.toNat_ofNat,BitVec.toNat_ofNat,Nat.mod_eq_of_lt J,Nat.mod_eq_of_lt O]
 have hw:U1.wrap ((a &&& b:Nat):Int)=((a &&& b:Nat):Int):=by rw[←e];exact xd _
 have U:(V6 U1.bits (a:Int) &&& V6 U1.bits (b:Int)).toNat=a &&& b:=e;simp only[av,eqGuard,binOp,Op.intBits,U,hw];rfl
theorem EN:I P (av .andNot t cx cy (.int .u64 a) (.int .u64 b)) w K=K (.int .u64 (ir a b:Int)):=I.of fun w' _=>by
 have e:(V6 64 (a:Int) &&& ~~~V6 64 (b:Int)).toNat=ir a b:=by rw[kL,kL];rfl
 have hw:U1.wrap (ir a b:Int)=(ir a b:Int):=xd _;have J:(V6 U1.bits (a:Int) &&& ~~~V6 U1.bits (b:Int)).toNat=ir a b:=e;simp only[av,eqGuard,binOp,Op.intBits,J,hw];rfl
theorem sB {k:o4} (J:n<64):I P (av .shr t cx cy (.int .u64 (a:Int)) (.int k (n:Int))) w K=K (.int .u64 ((a / 2 ^ n:Nat):Int)):=I.of fun w' _=>by
 have e:(a:Int).fdiv (2 ^ min n U1.bits)=((a / 2 ^ n:Nat):Int):=by
  have:min n U1.bits=n:=Nat.min_eq_left (by show n≤64;omega);rw[this,Int.fdiv_eq_ediv_of_nonneg _ (by exact Int.le_of_lt (Int.pow_pos (by omega)))];simp
 simp only[av,eqGuard,binOp,Op.shift,Z3,e];simp[show ¬(n:Int)<0 by omega]
theorem xe {k:o4} (J:n<64):I P (av .shl t cx cy (.int .u64 1) (.int k (n:Int))) w K=K (.int .u64 ((2 ^ n:Nat):Int)):=by
 rw[wg (by omega)];have e:min ((n:Int).toNat) U1.bits=n:=Nat.min_eq_left (by show n≤64;omega);have O:2 ^ n<2 ^ 64:=Nat.pow_lt_pow_right (by omega) J;rw[e,Int.one_mul,show ((2:Int) ^ n)=((2 ^ n:Nat):Int) by simp];generalize 2 ^ n=q at O ⊢;rw[wrap_u64 (by omega) (by omega)]
end
def jc (b n:Nat):x1:=.agg #[.int .u64 (b:Int),.int .i64 (n:Int)]
def nW (b n:Nat):Prop:=n≤32∧b<2 ^ n
theorem EO (s i:Nat):(2 ^ s-1).testBit i=decide (i<s):=Nat.testBit_two_pow_sub_one s i
theorem xf {b:Nat} {v:Int}:af x3 B2 [jc b n,.int .i64 v] w fun r w'=>r= .bool (decide (0≤v∧v<n))∧Ext w w':=by
 refine az func79 ?_;refine bL fun g J U I O=>?_;simp only[be,cm,ab];refine⟨fun h=>?_,fun h=>⟨?_,I⟩⟩
 ·rw[V cc.p rfl,aa (by kernel_rfl) (O.cell (o:=0+1) rfl)];simp only[an];exact⟨by simp[h],I⟩
 ·rw[decide_eq_false];omega
theorem EP {b:Nat}:af x3 BN [jc b n] w fun r w'=>r= .int .i64 n∧Ext w w':=by
 refine az func62 ?_;refine bL fun g J U I O=>?_;rw[V cc.p rfl,aa (by kernel_rfl) (O.cell (o:=0+1) rfl)];exact⟨rfl,I⟩
theorem EQ {n:Int}:af x3 BY [.int .i64 n] w fun r w'=>Ext w w'∧r=(if 1≤n∧n≤32 then .tuple #[jc (2 ^ n.toNat-1) n.toNat,.int .i64 0] else .tuple #[jc 0 0,.int .i64 1]):=by
 refine az func76 ?_;refine bu cc.i fun g J ae U V=>?_;refine aM (fun v Y=>v= .bool (decide (¬(1≤n∧n≤32)))∧J=Y) ?_ ?_
 ·rintro _ _ ⟨rfl,rfl⟩;simp only[ab];refine⟨fun h=>?_,fun h=>?_⟩
  ·rw[cH (cs:=#[.int .u64 0,.int .i64 0]) (by kernel_rfl)];refine bN (vs:=[.int .u64 0,.int .i64 0]) cc.i rfl rfl (by intro u hu;simp at hu;rcases hu with rfl|rfl <;> rfl) V fun aa I ac O=>?_;rw[ez cc.p cc.i rfl O.range,if_neg h];exact⟨U.then I (by rintro r ad rfl;omega),rfl⟩
  ·have h:1≤n∧n≤32:=Y9.1 h;obtain⟨m,rfl⟩:∃ m:Nat,n=m:=⟨n.toNat,by omega⟩;rw[xe (by omega)];have ag:0<2 ^ m:=Nat.two_pow_pos m;have ah:2 ^ m≤2 ^ 32:=Nat.pow_le_pow_right (by omega) (by omega);simp only[dd];rw[wrap_u64 (by omega) (by omega),show (((2 ^ m:Nat):Int)-1)=((2 ^ m-1:Nat):Int) by omega];rw[cH (cs:=#[.int .u64 ((2 ^ m-1:Nat):Int),.int .i64 m]) (by kernel_rfl)];refine bN (vs:=[.int .u64 ((2 ^ m-1:Nat):Int),.int .i64 m]) cc.i rfl rfl (by intro u hu;simp at hu;rcases hu with rfl|rfl <;> rfl) V fun aa I ac O=>?_;rw[ez cc.p cc.i rfl O.range,if_pos h];exact⟨U.then I (by rintro r ad rfl;omega),rfl⟩
 ·intro ai W;simp only[an,bA,ab];refine⟨fun h=>W _ _ ⟨?_,rfl⟩,fun h=>W _ _ ⟨?_,rfl⟩⟩
  ·rw[decide_eq_true];omega
  ·congr 1;simp;omega
theorem ER {b:Nat} {v:Int} (an:nW b n):af x3 B1 [jc b n,.int .i64 v] w fun r w'=>r=jc (if 0≤v∧v<n then ir b (2 ^ v.toNat) else b) n∧Ext w w':=by
 refine az func78 ?_;refine bL fun g J aA ad ag=>?_;refine bu cc.i fun ao aB aC ah ai=>?_;have aD:=ad.size;have aE:=ag.lt;refine c3 (fun U=>∃ W,ae U g cc [.int .u64 ((W:Nat):Int),.int .i64 (n:Int)]∧ae U ao cc [.int .u64 0,.int .i64 0]∧Ext w U∧W=(if 0≤v∧v<n then ir b (2 ^ v.toNat) else b)) ?_ ?_
 ·rintro U ⟨W,ap,aq,au,rfl⟩;rw[bw cc.p cc.i rfl ap.range];refine bN (vs:=[_,_]) cc.i rfl rfl (by intro u hu;simp at hu;rcases hu with rfl|rfl <;> rfl) aq fun aF av aG aw=>?_;rw[ez cc.p cc.i rfl aw.range];exact⟨rfl,au.then av (by rintro r ax rfl;omega)⟩
 ·intro aH aj;have Y:=ag.ext ah;rw[bw cc.p cc.i rfl Y.range];refine xf.mono ?_;rintro _ aI _ ⟨rfl,I⟩;have ak:=(ad.trans ah).trans I;simp only[ab,cj];refine⟨fun h aJ ac _ _=>?_,fun h=>aj _ ⟨b,Y.ext I,ai.ext I,ak,by rw[if_neg h]⟩⟩;have al:=(Y.ext I).ext ac;rw[V cc.p rfl,aa (by kernel_rfl) (al.cell (o:=0+0) rfl)];obtain⟨s,rfl⟩:∃ s:Nat,v=s:=⟨v.toNat,by omega⟩;have aK:=an.1;rw[xe (by omega),EN,V cc.p rfl];refine bl eb.i rfl rfl al (by simp[jc,x1.cells]) fun aL am aM ay=>?_;refine aj _ ⟨_,ay,((ai.ext I).ext ac).O am (by omega),(ak.trans ac).then am (by rintro r ax rfl;omega),?_⟩;rw[if_pos h,Z3]
end Go.Proofs.YtgbkinibgjmodaaGreatDoor
namespace Go.Proofs.YtgbkinibgjmodaaGreatDoor
open Go Go.Vc Go.RowKit Go.Proofs Go.Proofs.Tryz
set_option maxRecDepth 100000
abbrev dC (s:List Int):Prop:=∀ x∈s,1≤x∧x≤32
theorem dC.tail {s:List Int} (h:dC (k::s)):dC s:=fun x I=>h x (.tail _ I)
theorem jZ {s:List Int} (h:dC s):1≤aE s:=(nN s h).1
theorem mG:∀ (s t:List Int) (m:Int),bX s t m=(bX s t 0).map fun n=>n+m*aE s
 |[],[],m=>by simp[bX,aE]
 |k::s,v::t,m=>by
  unfold bX;split
  ·rw[mG s t (m*k+v),mG s t (0*k+v)];simp only[Option.map_map,aE];congr 1;funext n;simp only[Function.comp];rw[Int.add_mul,Int.add_mul,←Int.mul_assoc];simp;omega
  ·rfl
 |[],_::_,_=>rfl
 |_::_,[],_=>rfl
theorem sC {L j:Nat} {rest:List (List Int)} (U:rest.length=L):∀ {kn v:Nat},v<kn→ ∀ {x:List Int},rest[j]? =some x→
  ((X7 kn).flatMap fun(v:Nat)=>rest.map fun t=>(v:Int)::t)[v*L+j]? =some ((v:Int)::x)
 |0,v,h,_,_=>by omega
 |kn+1,v,h,x,J=>by
  have V:=(x4.1 J).1;have O:((X7 kn).flatMap fun(v:Nat)=>rest.map fun t=>(v:Int)::t).length=kn*L:=by
   simp only[List.length_flatMap,u5,U];rw[List.map_const',List.length_range,List.sum_replicate_nat]
  rw[List.range_succ,List.flatMap_append];by_cases I:v<kn
  ·have:(v+1)*L≤kn*L:=X0 _ I;rw[V4] at this;rw[Z7 (by rw[O];omega)];exact sC U I J
  ·have I:v=kn:=by omega
   subst I;rw[Z8 (by rw[O];omega),O,show v*L+j-v*L=j by omega];simp[J]
theorem p9:∀ {s:List Int},dC s→ ∀ {i:Nat} {t:List Int},(bm s)[i]? =some t→bX s t 0=some (i:Int)
 |[],_,i,t,h=>by
  cases i with
  |zero=>simp[bm] at h;subst h;rfl
  |succ i=>simp[bm] at h
 |k::s,I,i,t,h=>by
  have ab:=I k (.head _);have J:=hV I.tail;have ac:=jZ I.tail;obtain⟨kn,rfl⟩:∃ kn:Nat,k=kn:=⟨k.toNat,by omega⟩;have hi:=(x4.1 h).1;rw[hV I,aE,Int.toNat_mul (by omega) (by omega),←J,Z3] at hi;have W:0<(bm s).length:=by omega
  have O:i / (bm s).length<kn:=Nat.div_lt_of_lt_mul (by rw[Nat.mul_comm];exact hi);have Y:i % (bm s).length<(bm s).length:=Nat.mod_lt _ W;obtain⟨x,U⟩:∃ x,(bm s)[i % (bm s).length]? =some x:=⟨_,y0 Y⟩;have V:=sC (kn:=kn) rfl O U;rw[Nat.mul_comm,Nat.div_add_mod] at V;have h':((X7 ((kn:Int).toNat)).flatMap fun(v:Nat)=>(bm s).map fun t=>(v:Int)::t)[i]? =some t:=h;rw[Z3,V] at h';cases h';unfold bX;rw[if_pos ⟨Int.natCast_nonneg _,Int.ofNat_lt.2 O⟩,mG,p9 I.tail U];simp only[Z2,Y3,Int.zero_mul,Int.zero_add];have aa:aE s=((bm s).length:Int):=by rw[J];omega
  rw[aa,←Int.natCast_mul,←Int.natCast_add];congr 1;rw[Nat.mul_comm,Nat.add_comm,Nat.div_add_mod]
theorem nX:∀ {s:List Int},dC s→ ∀ {t:List Int} {n:Int},bX s t 0=some n→(bm s)[n.toNat]? =some t
 |[],_,[],n,h=>by simp[bX] at h;subst h;rfl
 |k::s,J,v::t,n,h=>by
  have Y:=J k (.head _);have U:=hV J.tail;have aa:=jZ J.tail;obtain⟨kn,rfl⟩:∃ kn:Nat,k=kn:=⟨k.toNat,by omega⟩;unfold bX at h;split at h
  ·rename_i ab;rw[mG] at h;cases O:bX s t 0 with
   |none=>rw[O] at h;cases h
   |some q=>
    rw[O] at h;simp only[Z2,Y3,Int.zero_mul,Int.zero_add] at h;have V:=i9 J.tail O;simp only[Int.zero_mul,Int.zero_add,Int.one_mul] at V;obtain⟨I,rfl⟩:∃ I:Nat,v=I:=⟨v.toNat,by omega⟩;have W:=sC (kn:=kn) (v:=I) rfl (by omega) (nX J.tail O);have e:n.toNat=I*(bm s).length+q.toNat:=by
     rw[←h,U];have:((I*(aE s).toNat:Nat):Int)=(I:Int)*aE s:=by rw[Int.natCast_mul,Int.toNat_of_nonneg (by omega)]
     omega
    rw[e];show ((X7 ((kn:Int).toNat)).flatMap fun(v:Nat)=>(bm s).map fun t=>(v:Int)::t)[_]? =_;rw[Z3];exact W
  ·cases h
 |[],_,_::_,_,h=>by cases h
 |_::_,_,[],_,h=>by cases h
theorem xg:∀ (s:List Int),dC s→ ∀ (n c:Int),ct s (n+c*aE s)=ct s n
 |[],_,_,_=>rfl
 |k::s,I,n,c=>by
  have J:=jZ I.tail;simp only[ct,aE];rw[←Int.mul_assoc,xg s I.tail,Int.add_mul_ediv_right _ _ (by omega),Int.add_mul_emod_self_right]
theorem nY:∀ {s:List Int},dC s→ ∀ {n:Int},0≤n→n<aE s→bX s (ct s n) 0=some n
 |[],_,n,J,h1=>by simp[aE] at h1;simp[ct,bX];omega
 |k::s,I,n,J,h1=>by
  have V:=I k (.head _);have W:=jZ I.tail;simp only[ct,aE] at h1 ⊢;have O:n / aE s<k:=Int.ediv_lt_of_lt_mul (by omega) h1;have U:0≤n / aE s:=Int.ediv_nonneg J (by omega);have hm:n / aE s % k=n / aE s:=Int.emod_eq_of_lt U O;rw[hm];unfold bX;rw[if_pos ⟨U,O⟩,mG];have e:ct s n=ct s (n % aE s):=by
   have:=xg s I.tail (n % aE s) (n / aE s);rw[←this];congr 1;have:=Int.emod_add_mul_ediv n (aE s);rw[Int.mul_comm (n / aE s)];omega
  rw[e,nY I.tail (Int.emod_nonneg _ (by omega)) (Int.emod_lt_of_pos _ (by omega))];simp only[Z2,Y3,Int.zero_mul,Int.zero_add];have:=Int.emod_add_mul_ediv n (aE s);rw[Int.mul_comm (n / aE s)];omega
theorem nZ {s:List Int} (I:dC s) {i:Nat} (h:(i:Int)<aE s):(bm s)[i]? =some (ct s i):=by
 have:=nX I (nY I (n:=(i:Int)) (by omega) h);simpa using this
end Go.Proofs.YtgbkinibgjmodaaGreatDoor
namespace Go.Proofs.YtgbkinibgjmodaaGreatDoor
open Go Go.Vc Go.RowKit Go.Proofs Go.Proofs.Tryz
set_option maxRecDepth 100000
def cu (s cs t:List Int):Int:=match bX s t 0 with
 |some n=>cs.getD n.toNat 0
 |none=>0
def upto {α:Type} (l:List α) (d:α) (i:Nat):List α:=l.take i++r9 (l.length-i) d
theorem lv {α:Type} (l:List α) (d:α) (i:Nat):(upto l d i).length=l.length:=by simp[upto];omega
theorem lw {α:Type} (l:List α) (d:α):upto l d 0=r9 l.length d:=by simp[upto]
theorem lx {α:Type} (l:List α) (d:α):upto l d l.length=l:=by simp[upto]
theorem ly {α:Type} {l:List α} {d x:α} {i:Nat} (h:l[i]? =some x):(upto l d i).set i x=upto l d (i+1):=by
 have hi:=(x4.1 h).1;unfold upto;rw[V8 _ _ (by simp;omega),u9,h];have e:i-(l.take i).length=0:=by simp;omega
 obtain⟨m,hm⟩:∃ m,l.length-i=m+1:=⟨l.length-i-1,by omega⟩;rw[e,hm,show l.length-(i+1)=m by omega];simp[List.replicate_succ]
theorem mH {α:Type} {l:List α} {i:Nat} {x:α} (h:l[i]? =some x):l.set i x=l:=by
 apply Y8;intro j;rw[Y5];split
 ·rename_i I;subst I;rw[if_pos (x4.1 h).1,h]
 ·rfl
end Go.Proofs.YtgbkinibgjmodaaGreatDoor
namespace Go.Proofs.YtgbkinibgjmodaaGreatDoor
open Go Go.Vc Go.RowKit Go.Proofs Go.Proofs.Tryz
set_option maxRecDepth 100000
def sD:List Int→Int
 |[]=>0
 |x::l=>l.foldl min x
def xh (P:Int→Prop) (m:Int):Prop:=P m∧ ∀ x,P x→m≤x
def cL (s t:List Int):Prop:=∃ n,bX s t 0=some n
theorem ES (k v:Int) (s t:List Int):bX (k::s) (v::t) 0=if 0≤v∧v<k then (bX s t 0).map (fun n=>n+(0*k+v)*aE s) else none:=by
 conv=>lhs;unfold bX
 rw[mG]
theorem xi {v:Int} {s t:List Int}:cL (k::s) (v::t)↔(0≤v∧v<k)∧cL s t:=by
 unfold cL;rw[ES];constructor
 ·rintro⟨n,h⟩;split at h
  ·rename_i I;cases J:bX s t 0 with
   |none=>rw[J] at h;cases h
   |some q=>exact⟨I,q,rfl⟩
  ·cases h
 ·rintro⟨I,q,J⟩;rw[if_pos I,J];exact⟨_,rfl⟩
theorem xj {t:List Int}:cL [] t↔t=[]:=by
 cases t with
 |nil=>exact⟨fun _=>rfl,fun _=>⟨0,rfl⟩⟩
 |cons v t=>
  constructor
  ·rintro⟨_,h⟩;cases h
  ·intro h;cases h
theorem qa {s t:List Int} (h:cL s t):s.length=t.length:=by
 obtain⟨n,h⟩:=h;rcases Nat.decEq s.length t.length with I|I
 ·rw[si s t 0 I] at h;cases h
 ·exact I
theorem xk {s t:List Int} (I:dC s) {n:Int} (h:bX s t 0=some n):ct s n=t:=by
 have O:=i9 I h;have h1:=nX I h;simp only[Int.zero_mul,Int.zero_add,Int.one_mul] at O;have J:=nZ I (i:=n.toNat) (by omega);rw[h1] at J;have e:((n.toNat:Nat):Int)=n:=by omega
 rw[e] at J;exact (b9 J).symm
theorem qb {s cs:List Int} (I:dC s) (J:cs.length=(aE s).toNat):cs=(X7 (aE s).toNat).map fun(q:Nat)=>cu s cs (ct s q):=by
 apply List.ext_getElem
 ·simp[J]
 ·intro i h1 O;rw[List.getElem_map,List.getElem_range];have U:=jZ I;have hi:(i:Int)<aE s:=by omega
  unfold cu;rw[nY I (by omega) hi];simp only[Z3];rw[u4,y0 h1];rfl
theorem sE {s:List Int} (I:dC s) {q:Nat} (J:q<(aE s).toNat):cL s (ct s q):=⟨_,nY I (by omega) (by have:=jZ I;omega)⟩
theorem ET {s cs I:List Int} (J:dC s) (O:cs.length=(aE s).toNat) (U:I.length=(aE s).toNat) (h:∀ t,cL s t→cu s cs t=cu s I t):cs=I:=by
 rw[qb J O,qb J U];apply List.map_congr_left;intro q V;exact h _ (sE J (by simpa using V))
theorem EU (h:l≠[]):xh (fun c=>c∈l) (sD l):=by
 obtain⟨x,r,rfl⟩:∃ v r,l=v::r:=by cases l with
  |nil=>exact absurd rfl h
  |cons v r=>exact⟨v,r,rfl⟩
 clear h;show xh (fun c=>c∈x::r) (r.foldl min x);induction r generalizing x with
 |nil=>exact⟨.head _,fun y O=>by simp at O;simp[O]⟩
 |cons y r U=>
  rw[List.foldl_cons];obtain⟨h1,J⟩:=U (min x y);refine⟨?_,fun z I=>?_⟩
  ·rcases U5.1 h1 with h1|h1
   ·rw[h1];rcases Int.le_total x y with h|h
    ·rw[Int.min_eq_left h];exact .head _
    ·rw[Int.min_eq_right h];exact .tail _ (.head _)
   ·exact .tail _ (.tail _ h1)
  ·rcases U5.1 I with rfl|I
   ·have:=J _ (.head _);omega
   ·rcases U5.1 I with rfl|I
    ·have:=J _ (.head _);omega
    ·exact J _ (.tail _ I)
end Go.Proofs.YtgbkinibgjmodaaGreatDoor
namespace Go.Proofs.YtgbkinibgjmodaaGreatDoor
open Go Go.Vc Go.RowKit Go.Proofs Go.Proofs.Tryz
set_option maxRecDepth 100000
def mI (m:List Int) (i j:Nat):Prop:=∀ (p q:Nat) (x y:Int),p<q→q≤i→q≠j→m[p]? =some x→m[q]? =some y→x≤y
def n1 (m:List Int) (i:Nat):Prop:=∀ (p q:Nat) (x y:Int),p<q→q<i→m[p]? =some x→m[q]? =some y→x≤y
theorem EV {m:List Int} {i:Nat} (h:n1 m i):mI m i i:=fun p q x y h1 O U I J=>h p q x y h1 (by omega) I J
theorem EW {m:List Int} {i:Nat} (h:mI m i 0):n1 m (i+1):=fun p q x y h1 O I J=>h p q x y h1 (by omega) (by omega) I J
theorem EX {m:List Int} {i:Nat} {a b:Int} (h:mI m i j) (aa:0<j) (O:m[j-1]? =some a) (V:m[j]? =some b) (W:a≤b):n1 m (i+1):=by
 intro p q x y h1 ab I J;by_cases U:q=j
 ·subst U;rw[V] at J;cases J;by_cases Y:p=q-1
  ·subst Y;rw[O] at I;cases I;exact W
  ·have:=h p (q-1) x a (by omega) (by omega) (by omega) I O;omega
 ·exact h p q x y h1 (by omega) U I J
theorem EY {m:List Int} {i:Nat} {a b:Int} (h:mI m i j) (ae:0<j) (hi:j≤i) (V:m[j-1]? =some a) (W:m[j]? =some b) (af:b<a):mI ((m.set j a).set (j-1) b) i (j-1):=by
 intro p q x y h1 U Y I J;have aa:=(x4.1 W).1;have ab:∀ (r:Nat),((m.set j a).set (j-1) b)[r]? =if r=j-1 then some b else if r=j then some a else m[r]?:=fun r=>by
  by_cases h:r=j-1
  ·subst h;rw[W8 (by simp;omega),if_pos rfl]
  ·rw[W3 (Ne.symm h),if_neg h];by_cases h':r=j
   ·subst h';rw[W8 aa,if_pos rfl]
   ·rw[W3 (Ne.symm h'),if_neg h']
 rw[ab] at I J;rw[if_neg Y] at J;by_cases O:q=j
 ·rw[if_pos O] at J;cases J;split at I
  ·cases I;omega
  ·split at I
   ·omega
   ·exact h p (j-1) x a (by omega) (by omega) (by omega) I V
 ·rw[if_neg O] at J;split at I
  ·cases I;have:=h j q b y;by_cases ac:j<q
   ·exact this ac U O W J
   ·omega
  ·split at I
   ·rename_i ad;subst ad;cases I;exact h (p-1) q a y (by omega) U O V J
   ·exact h p q x y h1 U O I J
theorem swap_perm {m:List Int} {i:Nat} {a b:Int} (U:i<j) (J:m[i]? =some a) (I:m[j]? =some b):((m.set j a).set i b).Perm m:=by
 induction m generalizing i j with
 |nil=>simp at J
 |cons x m O=>
  cases j with
  |zero=>omega
  |succ j=>
   cases i with
   |zero=>
    simp at J I ⊢;subst J;obtain⟨V,I⟩:=x4.1 I;rw[show m=m.take j++m[j]::m.drop (j+1) by simp];rw[V8 _ _ (by simp;omega)];have e:j-(m.take j).length=0:=by simp;omega
    rw[e,I];simp only[List.set_cons_zero];refine (List.Perm.cons b (List.perm_middle)).trans ?_;refine (List.Perm.swap x b _).trans ?_;exact List.Perm.cons x List.perm_middle.symm
   |succ i=>
    simp at J I ⊢;exact O (by omega) J I
theorem EZ {m:List Int} (h:n1 m m.length):m.Pairwise (·≤ ·):=by
 rw[V3];intro i j hi I J;exact h i j _ _ J I (y0 hi) (y0 I)
end Go.Proofs.YtgbkinibgjmodaaGreatDoor
namespace Go.Proofs.YtgbkinibgjmodaaGreatDoor
open Go Go.Vc Go.RowKit Go.Proofs Go.Proofs.Tryz
set_option maxRecDepth 100000
def Good (o:List Int) (n:Nat):Prop:=o.length=n∧ ∀ (i:Nat) (p:Int),o[i]? =some p→(0≤p∧p<n)∧ ∀ j,j<i→o[j]? ≠some p
theorem Good.inj {o:List Int} {i:Nat} {p:Int} (h:Good o n) (hi:o[i]? =some p) (I:o[j]? =some p):i=j:=by
 rcases Nat.lt_trichotomy i j with h1|h1|h1
 ·exact absurd hi ((h.2 j p I).2 i h1)
 ·exact h1
 ·exact absurd I ((h.2 i p hi).2 j h1)
def xl (m:List Int):Prop:=∀ i:Nat,i<m.length→m[i]? =some (i:Int)
theorem xm {o m:List Int} (h:Good o n) (I:m.Perm o) (W:m.Pairwise (·≤ ·)):xl m:=by
 have Y:o.Nodup:=V3.2 fun i j hi aa af he=>by
  have:=h.inj (i:=i) (j:=j) (p:=o[j]) (by rw[y0 hi,he]) (y0 aa);omega
 have ab:m.Nodup:=I.nodup_iff.2 Y;have ag:m.length=n:=by rw[I.length_eq,h.1]
 have U:∀ x∈m,0≤x∧x<(n:Int):=fun x ac=>by
  obtain⟨i,hi,he⟩:=List.getElem_of_mem (I.mem_iff.1 ac);exact (h.2 i x (by rw[y0 hi,he])).1
 have V:∀ (i:Nat) (hi:i+1<m.length),m[i]<m[i+1]:=fun i hi=>by
  have h1:=V3.1 W i (i+1) (by omega) hi (by omega);have J:=V3.1 ab i (i+1) (by omega) hi (by omega);omega
 have ad:∀ (i:Nat) (hi:i<m.length),(i:Int)≤m[i]:=by
  intro i;induction i with
  |zero=>intro hi;exact (U _ (T6 hi)).1
  |succ i O=>
   intro hi;have h1:=O (by omega);have J:=V i hi;omega
 have ae:∀ (d i:Nat) (hi:i<m.length),i+d+1=m.length→m[i]≤(i:Int):=by
  intro d;induction d with
  |zero=>
   intro i hi he;have:=(U _ (T6 hi)).2;omega
  |succ d O=>
   intro i hi he;have h1:=O (i+1) (by omega) (by omega);have J:=V i (by omega);omega
 intro i hi;rw[y0 hi];have h1:=ad i hi;have J:=ae (m.length-i-1) i hi (by omega);congr 1;omega
theorem E0 {o m:List Int} (h:xl m) (J:m.Perm o):Good o m.length:=by
 have Y:m.Nodup:=V3.2 fun i j hi I ab he=>by
  have h1:=h i hi;have O:=h j I;rw[y0 hi] at h1;rw[y0 I] at O;have h1:=b9 h1;have O:=b9 O;omega
 have aa:o.Nodup:=J.nodup_iff.1 Y;refine⟨J.length_eq.symm,fun i p hi=>⟨?_,fun j I U=>?_⟩⟩
 ·obtain⟨k,V,he⟩:=List.getElem_of_mem (J.mem_iff.2 (x5 hi));have h1:=h k V;rw[y0 V,he] at h1;cases h1;omega
 ·have W:i<o.length:=(x4.1 hi).1;have:=V3.1 aa j i (by omega) W I;rw[y0 W] at hi;rw[y0 (show j<o.length by omega)] at U;exact this ((b9 U).trans (b9 hi).symm)
theorem Good.xn {o:List Int} {p:Nat} (h:Good o n) (J:p<n):∃ j:Nat,o[j]? =some (p:Int):=by
 let le:Int→Int→Bool:=fun a b=>decide (a≤b);have h1:(o.mergeSort le).Perm o:=List.mergeSort_perm o le;have I:(o.mergeSort le).Pairwise (·≤ ·):=by
  refine (List.pairwise_mergeSort (le:=le) (fun a b c h1 I=>?_) (fun a b=>?_) o).imp fun h=>by simpa[le] using h
  ·simp[le] at*;omega
  ·simp[le];omega
 have O:=xm h h1 I p (by rw[h1.length_eq,h.1];exact J);obtain⟨j,U,he⟩:=List.getElem_of_mem (h1.mem_iff.1 (x5 O));exact⟨j,by rw[y0 U,he]⟩
def j1 (o x:List Int):List Int:=(X7 o.length).map fun(p:Nat)=>x.getD (o.idxOf (p:Int)) 0
theorem xo (o x:List Int):(j1 o x).length=o.length:=by simp[j1]
theorem xp {o x:List Int} {p:Int} (h:Good o n) (V:x.length=n) (I:o[j]? =some p):(j1 o x)[p.toNat]? =x[j]?:=by
 have h1:=(h.2 j p I).1;have W:j<o.length:=(x4.1 I).1;have hm:p∈o:=x5 I;have J:=List.idxOf_lt_length_of_mem hm;have O:o.idxOf p=j:=h.inj (by rw[y0 J,List.getElem_idxOf J]) I;have U:((p.toNat:Nat):Int)=p:=by omega
 have Y:=h.1;unfold j1;rw[x8,List.getElem?_range (by omega)];simp only[Z2,U,O];rw[u4,y0 (show j<x.length by omega)];rfl
theorem xq {o x y:List Int} (h:Good o n) (O:x.length=n) (W:y.length=n) (U:∀ (j:Nat) (p:Int),o[j]? =some p→y[p.toNat]? =x[j]?):y=j1 o x:=by
 refine Y8 fun p=>?_;have Y:=h.1;by_cases V:p<n
 ·obtain⟨j,I⟩:=h.xn V;have h1:=U j p I;have J:=xp h O I;rw[Z3] at h1 J;rw[h1,J]
 ·rw[Z9 (by omega),Z9 (by rw[xo];omega)]
theorem lz:∀ {s t:List Int},cL s t↔s.length=t.length∧ ∀ (i:Nat) (a v:Int),s[i]? =some a→t[i]? =some v→0≤v∧v<a
 |[],t=>by
  rw[xj];exact⟨fun h=>⟨by rw[h],fun i a v h _=>by simp at h⟩,fun h=>b8 h.1.symm⟩
 |k::s,[]=>⟨fun h=>absurd (qa h) (by simp),fun h=>absurd h.1 (by simp)⟩
 |k::s,v::t=>by
  rw[xi,lz (s:=s) (t:=t)];refine⟨fun⟨h1,J,O⟩=>⟨by simp[J],fun i a u I hu=>?_⟩,fun⟨h1,J⟩=>⟨J 0 k v rfl rfl,by simpa using h1,fun i a u I hu=>J (i+1) a u (by simpa using I) (by simpa using hu)⟩⟩;cases i with
  |zero=>simp at I hu;subst I;subst hu;exact h1
  |succ i=>exact O i a u (by simpa using I) (by simpa using hu)
def dy (s o:List Int):List Int:=o.map fun p=>s.getD p.toNat 0
theorem qc (s o:List Int):(dy s o).length=o.length:=by simp[dy]
theorem xr {s o:List Int} {p:Int} (h:Good o n) (J:s.length=n) (I:o[j]? =some p):(dy s o)[j]? =s[p.toNat]?:=by
 have h1:=(h.2 j p I).1;unfold dy;rw[x8,I,Z2,u4,y0 (show p.toNat<s.length by omega)];rfl
theorem E1 {s o:List Int} (h:Good o n) (U:s.length=n) (I:x∈dy s o):x∈s:=by
 obtain⟨p,J,rfl⟩:=j5.1 I;obtain⟨j,O,he⟩:=List.getElem_of_mem J;have h1:=(h.2 j p (by rw[y0 O,he])).1;rw[u4,y0 (show p.toNat<s.length by omega)];exact T6 _
theorem bD.E2 {s o:List Int} (I:bD s) (h:Good o n) (J:s.length=n):bD (dy s o):=
 ⟨by rw[qc,h.1,←J];exact I.1,fun x O=>I.2 x (E1 h J O)⟩
theorem E3 {s o x:List Int} (h:Good o n) (I:s.length=n) (W:cL (dy s o) x):cL s (j1 o x):=by
 obtain⟨h1,Y⟩:=lz.1 W;rw[qc,h.1] at h1;refine lz.2 ⟨by rw[xo,h.1,I],fun p a v J aa=>?_⟩;have ab:p<n:=by have:=(x4.1 J).1;omega
 obtain⟨j,O⟩:=h.xn ab;have U:=xr h I O;have V:=xp h h1.symm O;rw[Z3] at U V;exact Y j a v (by rw[U,J]) (by rw[←V,aa])
def lA (s cs o:List Int):List Int:=(X7 (aE (dy s o)).toNat).map fun(q:Nat)=>cu s cs (j1 o (ct (dy s o) q))
theorem xt (s cs o:List Int):(lA s cs o).length=(aE (dy s o)).toNat:=by simp[lA]
theorem sF {f:Int→Bool}:runN f (x::l)=if f x=true then runN f l+1 else 0:=by
 unfold runN;rw[List.takeWhile_cons];by_cases h:f x=true
 ·rw[if_pos h,if_pos h,j4]
 ·rw[if_neg h,if_neg h];rfl
theorem sG (f:Int→Bool):∀ l:List Int,l.dropWhile f=l.drop (runN f l)
 |[]=>rfl
 |x::l=>by
  rw[List.dropWhile_cons,sF];by_cases h:f x=true
  ·rw[if_pos h,if_pos h,sG f l];rfl
  ·rw[if_neg h,if_neg h];rfl
theorem xu (f:Int→Bool):∀ l:List Int,l.takeWhile f=l.take (runN f l)
 |[]=>rfl
 |x::l=>by
  rw[List.takeWhile_cons,sF];by_cases h:f x=true
  ·rw[if_pos h,if_pos h,List.take_succ_cons,xu f l]
  ·rw[if_neg h,if_neg h];rfl
theorem xv {f:Int→Bool}:∀ {l:List Int} {b:Int} {q:List Int},l.dropWhile f=b::q→f b=false
 |x::l,b,q,h=>by
  rw[List.dropWhile_cons] at h;by_cases I:f x=true
  ·rw[if_pos I] at h;exact xv h
  ·rw[if_neg I] at h;have:=(T8 h).1;subst this;cases J:f x
   ·rfl
   ·exact absurd J I
theorem sH {p:List Int} {a:Nat} {b:Int} {q:List Int} (h:p.drop a=b::q):p[a]? =some b:=by
 have:=List.getElem?_drop (xs:=p) (i:=a) (j:=0);rw[h] at this;simpa using this.symm
theorem E4 (p:List Int) (at_:Nat):match mE p at_ with
  | .word a b=>lex (p.drop at_)=(((p.take b).drop a)::(lex (p.drop b)).1,(lex (p.drop b)).2)
  | .none=>lex (p.drop at_)=([],true)
  | .text _=>lex (p.drop at_)=([],false):=by
 have U:(p.drop at_).dropWhile b0=p.drop (fi p at_):=by rw[sG,List.drop_drop];rfl
 have V:(p.drop (fi p at_)).dropWhile bq=p.drop (hf p (fi p at_)):=by rw[sG,List.drop_drop];rfl
 have Y:(p.drop (fi p at_)).takeWhile bq=(p.take (hf p (fi p at_))).drop (fi p at_):=by
  rw[xu,List.drop_take];congr 1;unfold hf;omega
 have O:runN bq (p.drop (fi p at_))=hf p (fi p at_)-fi p at_:=by unfold hf;omega
 have ak:fi p at_≤hf p (fi p at_):=by unfold hf;omega
 unfold mE;generalize fi p at_=a at*;generalize hf p a=b at*;by_cases h1:b<p.length∧(∀ c,p[b]? =some c→b0 c=false)
 ·rw[if_pos h1];simp only;rw[ip,U];cases I:p.drop a with
  |nil=>
   have:=List.drop_eq_nil_iff.1 I;omega
  |cons x q=>
   simp only;rw[I] at V Y O;by_cases J:bq x=true
   ·rw[if_pos J,V];cases W:p.drop b with
    |nil=>have:=List.drop_eq_nil_iff.1 W;omega
    |cons c r=>
     simp only;rw[h1.2 c (sH W)];rfl
   ·rw[if_neg J]
 ·rw[if_neg h1];by_cases aa:a=b
  ·rw[if_pos aa];simp only;subst aa;rw[ip,U];cases I:p.drop a with
   |nil=>rfl
   |cons x q=>
    exfalso;have ab:=sH I;have af:=(x4.1 ab).1;rw[I] at O;rw[I] at U;have ag:=xv U;refine h1 ⟨af,fun c ac=>?_⟩;rw[ab] at ac;cases ac;exact ag
  ·rw[if_neg aa];simp only;rw[ip (p.drop at_),U];cases I:p.drop a with
   |nil=>
    rw[I] at O;have:runN bq []=0:=rfl;omega
   |cons x q=>
    simp only;rw[I] at V Y O;have J:bq x=true:=by
     rw[sF] at O;by_cases J:bq x=true
     ·exact J
     ·rw[if_neg J] at O;omega
    rw[if_pos J,V,Y];cases W:p.drop b with
    |nil=>simp only;rw[ip []];rfl
    |cons c r=>
     simp only;have ad:=sH W;have ah:=(x4.1 ad).1;have ai:b0 c=true:=by
      cases aj:b0 c with
      |true=>rfl
      |false=>exact absurd ⟨ah,fun d ae=>by rw[ad] at ae;cases ae;exact aj⟩ h1
     rw[if_pos ai]
def fU (w:x2) (g:Nat) (R:Nat→Prop) (toks:List (List Int)) (clean:Bool):Prop:=∃ I p at_,jY w g I p at_ (-1)∧(∀ r,leads I r→R r)∧lex (p.drop at_)=(toks,clean)
theorem fU.O {g:Nat} (h:fU w g R toks clean) (I:ad S w w') (U:¬S g) (V:∀ r,R r→¬S r):fU w' g R toks clean:=by
 obtain⟨W,p,a,⟨h1,Y,aa,ab,ac,ae⟩,J,af⟩:=h;exact⟨W,p,a,⟨h1,Y,aa,ab.O I U,ac,a6 ae I fun r ag=>V r (J r ag)⟩,J,af⟩
theorem fU.words {g:Nat} (h:fU w g R toks clean):toks.length≤100000∧ ∀ t∈toks,Bytes t∧t≠[]∧t.length≤100000:=by
 obtain⟨W,p,a,⟨Y,aa,ab,_⟩,_,J⟩:=h;have ac:(p.drop a).length≤100000:=by rw[List.length_drop];omega
 have I:=nP _ (p.drop a) (o7 _);rw[J] at I;refine⟨by show toks.length≤_;have I:toks.length≤_:=I;omega,fun t U=>?_⟩;have O:=p0 _ (p.drop a) (o7 _) t (by rw[J];exact U);refine⟨fun b V=>?_,O.1,by omega⟩;have:=of_decide_eq_true (O.2.1 b V);omega
def E5 (w:x2) (g:Nat) (R:Nat→Prop) (toks:List (List Int)) (clean:Bool) (v:x1) (w':x2):Prop:=ad (fun r=>r=g) w w'∧match toks with
 |t::l=>fU w' g R l clean∧ ∃ n:Int,v= .tuple #[bk t,.int .i64 n,.int .i64 0]
 |[]=>∃ n:Int,v= .tuple #[bk [],.int .i64 n,.int .i64 (if clean then 2 else 11)]
theorem n2 {g:Nat} (h:fU w g R toks clean):af x3 r0 [.pointer (some ⟨g,0,none⟩)] w (E5 w g R toks clean):=by
 obtain⟨aa,p,a,h1,ab,V⟩:=h;refine (EI h1).mono ?_;intro v w' _ hw;have I:=E4 p a;unfold nV at hw;cases W:mE p a with
 |word x y=>
  rw[W] at hw I;simp only at hw I;rw[V] at I;obtain⟨rfl,Y,ac⟩:=hw;obtain⟨J,U⟩:=Prod.mk.inj I;subst J U;exact⟨Y,⟨aa,p,y,ac,ab,rfl⟩,_,rfl⟩
 |none=>
  rw[W] at hw I;simp only at hw I;rw[V] at I;obtain⟨J,U⟩:=Prod.mk.inj I;subst J U;obtain⟨n,rfl,ad⟩:=hw;exact⟨ad.O _,_,rfl⟩
 |text b=>
  rw[W] at hw I;simp only at hw I;rw[V] at I;obtain⟨J,U⟩:=Prod.mk.inj I;subst J U;obtain⟨rfl,Y,_⟩:=hw;exact⟨Y,_,rfl⟩
def iu (w:List Int):x1:=match fh w with
 |some n=>.tuple #[.int .i64 n,.int .i64 0]
 |none=>.tuple #[.int .i64 0,.int .i64 4]
theorem xw {i:Nat} {b:Int} (hi:l[i]? =some b):(l.take (i+1)).all fg=((l.take i).all fg&&fg b):=by
 rw[u9,hi,List.all_append];simp
theorem xx {i:Nat} {b:Int} (hi:l[i]? =some b):(l.take (i+1)).foldl ed 0=ed ((l.take i).foldl ed 0) b:=by
 rw[u9,hi,List.foldl_append];rfl
theorem xy (I:l≠[]) (h:l.all fg=true):iq l=some (l.foldl ed 0):=by
 unfold iq;cases l with
 |nil=>exact absurd rfl I
 |cons x l=>simp only[h,if_true]
theorem xz {i:Nat} {b:Int} (hi:l[i]? =some b) (I:fg b=false):iq l=none:=by
 unfold iq;cases l with
 |nil=>simp at hi
 |cons x l=>
  simp only;rw[if_neg];intro h;have:=List.all_eq_true.1 h b (x5 hi);rw[I] at this;cases this
def mJ (w l:List Int) (s:Int):Prop:=(s=1∨s= -1)∧fh w=(iq l).map fun n=>s*n
theorem xA:mJ (45::l) l (-1):=⟨.inr rfl,by simp only[fh];congr 1;funext n;omega⟩
theorem xB {w:List Int} (h:∀ b,w[0]? =some b→b≠45):mJ w w 1:=⟨.inl rfl,by
 have e:fh w=iq w:=by
  unfold fh;cases w with
  |nil=>rfl
  |cons x l=>
   have:=h x rfl;split
   ·rename_i l' he;exact absurd (T8 he).1 this
   ·rfl
 rw[e];cases iq w with
 |none=>rfl
 |some n=>simp⟩
theorem qd {w:List Int} {s:Int} (h:mJ w l s) (I:iq l=none):iu w= .tuple #[.int .i64 0,.int .i64 4]:=by
 unfold iu;rw[h.2,I];rfl
theorem xC {w:List Int} {s n:Int} (h:mJ w l s) (I:iq l=some n):iu w= .tuple #[.int .i64 (s*n),.int .i64 0]:=by
 unfold iu;rw[h.2,I];rfl
set_option maxHeartbeats 1000000 in
theorem E6 (ad:Bytes l) (ap:l.length≤100000):af x3 CL [bk l] w fun v w'=>v=iu l∧Ext w w':=by
 refine az func198 ?_;rw[Er];refine gY (fun aA aB J=>Ext w J∧ ∃ (m:List Int) (s:Int),aA=bk m∧aB= .int .i64 s∧Bytes m∧m.length≤100000∧mJ l m s) ?_ ?_
 ·rintro _ _ J ⟨aj,m,s,rfl,rfl,al,aQ,ae⟩;rw[wV al (fun b I=>by cases I),ab];refine⟨fun O=>⟨by rw[qd ae (by rw[O];rfl)],aj⟩,fun O=>?_⟩;refine sy cz.u b7.u b5.u al (by omega) fun bv ag aq au _=>?_;rw[aL b7.u au];refine po.range m.length (fun i _ _ c ah=>Ext ag ah∧c= .int .i64 ((m.take i).foldl ed 0)∧(m.take i).all fg=true) (by omega) ⟨Ext.refl _,rfl,rfl⟩ ?_ ?_
  ·rintro i aC t3 _ ah aD hi ⟨U,rfl,V⟩ aE;obtain⟨b,Y⟩:∃ b,m[i]? =some b:=⟨_,y0 hi⟩;have aR:=al b (x5 Y);rw[an,ab];refine⟨fun _=>?_,fun h=>by omega⟩;refine Es (fun _ _ c ai=>Ext ag ai∧c= .int .i64 ((m.take (i+1)).foldl ed 0)∧(m.take (i+1)).all fg=true) ?_ ?_
   ·rintro aS aT c ai aF;rw[aI];exact aE _ _ _ _ aF
   intro aG W;rw[aZ b7.u b5.i (by kernel_rfl) (au.ext U) Y];refine aM (fun v ai=>ah=ai∧v= .bool (!fg b)) ?_ ?_
   rotate_left
   ·intro aH aa;rw[an,ab];refine⟨fun h=>aa _ _ ⟨rfl,by unfold fg;rw[decide_eq_false (by omega)];rfl⟩,fun h=>?_⟩;rw[bA];refine aa _ _ ⟨rfl,?_⟩;unfold fg;congr 1;by_cases av:57<b
    ·rw[decide_eq_true av,decide_eq_false (by omega)];rfl
    ·rw[decide_eq_false av,decide_eq_true (by omega)];rfl
   rintro _ _ ⟨rfl,rfl⟩;cases am:fg b with
   |false=>
    rw[X4,bC];exact⟨by rw[qd ae (xz Y am)],(aj.trans aq).trans U⟩
   |true=>
    rw[Y4,aP];have aU:=of_decide_eq_true am;have ac:=p1 (l:=m.take i) (n:=0) V ⟨Int.le_refl _,by decide⟩;rw[xx Y,xw Y,V,am] at W;generalize (m.take i).foldl ed 0=n at*;have ac:0≤n∧n≤4611686018427387904:=ac;rw[dd,wrap_u8 (by omega) (by omega),e1 b5.u ak.u,wrap_i64 (x:=b-48) (by omega) (by omega),dd,wrap_i64 (by omega) (by omega),nG (by decide),Int.tdiv_eq_ediv_of_nonneg (by omega)];rw[wrap_i64 (by omega) (by omega),bA,ab];refine⟨fun aJ=>W _ _ _ _ ⟨U,?_,rfl⟩,fun aJ=>?_⟩
    ·congr 1;unfold ed ao;omega
    ·rw[e0,wrap_i64 (by omega) (by omega),aI,wrap_i64 (by omega) (by omega)];refine W _ _ _ _ ⟨U,?_,rfl⟩;congr 1;unfold ed ao;omega
  ·rintro aC t3 _ ah aD ⟨U,rfl,V⟩;rw[o9] at V ⊢;rw[an,ab];refine⟨fun h=>by omega,fun _=>?_⟩;have ac:=p1 (l:=m) (n:=0) V ⟨Int.le_refl _,by decide⟩;have ac:0≤m.foldl ed 0∧m.foldl ed 0≤4611686018427387904:=ac;rw[e0];have hw:Y0.wrap (s*m.foldl ed 0)=s*m.foldl ed 0:=by
    rcases ae.1 with rfl|rfl <;> exact wrap_i64 (by omega) (by omega)
   rw[hw];exact⟨by rw[xC ae (xy O V)],(aj.trans aq).trans U⟩
 ·intro aG W;refine aM (fun v ag=>w=ag∧ ∃ c:Bool,v= .bool c∧(c=true↔l[0]? =some 45)) ?_ ?_
  ·rintro _ _ ⟨rfl,c,rfl,aw⟩;rw[br];refine⟨fun aK=>?_,fun ax=>?_⟩
   ·intro aV aN _ _;have ay:=aw.1 aK;cases l with
    |nil=>simp at ay
    |cons x r=>
     have aO:x=45:=by simpa using ay
     subst aO;rw[wW (y:=1) (i:=1) rfl cz.u (by simp)];exact W _ _ _ ⟨aN,r,-1,rfl,rfl,fun b I=>ad b (.tail _ I),by simp at ap;omega,xA⟩
   ·refine W _ _ _ ⟨Ext.refl _,l,1,rfl,rfl,ad,ap,xB fun b I he=>?_⟩;subst he;rw[aw.2 I] at ax;cases ax
  ·intro aH aa;rw[Ew ad (fun b I=>by cases I),ab];refine⟨fun O=>?_,fun O=>aa _ _ ⟨rfl,false,rfl,⟨fun h=>(by cases h),fun h=>by rw[Y9.1 O] at h;simp at h⟩⟩⟩;cases l with
   |nil=>exact absurd rfl O
   |cons x r=>
    rw[nS (y:=0) (i:=0) (b:=x) rfl cz.u ad rfl,a8];exact aa _ _ ⟨rfl,_,rfl,by simp⟩
theorem qe {s s':aC} {w:List Int} (h:df s=some (w,s')):s.toks=w::s'.toks∧s'={s with toks:=s'.toks}:=by
 unfold df at h;cases I:s.toks with
 |nil=>rw[I] at h;cases h
 |cons x l=>
  rw[I] at h;simp only[Y3,U9] at h;obtain⟨rfl,rfl⟩:=h;exact⟨rfl,rfl⟩
theorem gl {n:Int} {s s':aC} (h:aY lo hi s=some (n,s')):(lo≤n∧n≤hi)∧(∃ w,s.toks=w::s'.toks∧fh w=some n)∧s'={s with toks:=s'.toks}:=by
 unfold aY at h;cases hw:df s with
 |none=>rw[hw] at h;cases h
 |some q=>
  obtain⟨w,U⟩:=q;rw[hw] at h;simp only at h;obtain⟨h1,J⟩:=qe hw;cases I:fh w with
  |none=>rw[I] at h;cases h
  |some m=>
   rw[I] at h;simp only at h;split at h
   ·rename_i O;simp only[Y3,U9] at h;obtain⟨rfl,rfl⟩:=h;exact⟨O,⟨w,h1,I⟩,J⟩
   ·cases h
def gI (k:Nat) (s s':aC):Prop:=s.toks.length=s'.toks.length+k∧s'={s with toks:=s'.toks}
theorem gI.refl (s:aC):gI 0 s s:=⟨rfl,rfl⟩
theorem gI.trans {a b:Nat} {r s t:aC} (h:gI a r s) (k:gI b s t):gI (a+b) r t:=⟨by have:=h.1;have:=k.1;omega,by rw[k.2,h.2]⟩
theorem c6 {n:Int} {s s':aC} (h:aY lo hi s=some (n,s')):gI 1 s s':=by
 obtain⟨_,⟨w,h1,_⟩,I⟩:=gl h;exact⟨by rw[h1];simp,I⟩
theorem gI.eqs {k:Nat} {s s':aC} (h:gI k s s'):s'.told=s.told∧s'.big=s.big∧s'.shared=s.shared:=by rw[h.2];exact⟨rfl,rfl,rfl⟩
theorem iv {α:Type} {f:List α→aC→Option (α×aC)} (I:List α→aC→Prop) (U:∀ acc s a s',I acc s→f acc s=some (a,s')→I (acc++[a]) s'):
  ∀ (n:Nat) (acc:List α) (s:aC) (l:List α) (s':aC),I acc s→ch f n acc s=some (l,s')→I l s'∧l.length=acc.length+n
 |0,acc,s,l,s',J,h=>by
  simp only[ch,Y3,U9] at h;obtain⟨rfl,rfl⟩:=h;exact⟨J,by omega⟩
 |n+1,acc,s,l,s',J,h=>by
  simp only[ch] at h;cases O:f acc s with
  |none=>rw[O] at h;cases h
  |some q=>
   obtain⟨a,V⟩:=q;rw[O] at h;have:=iv I U n _ _ _ _ (U _ _ _ _ J O) h;exact⟨this.1,by rw[this.2];simp;omega⟩
theorem sI {n:Int} {k:Nat} {s s':aC} (h:ee n k s=some (l,s')):gI l.length s s'∧l.length=k∧l.Nodup∧ ∀ v∈l,0≤v∧v<n:=by
 have:=iv (fun acc t=>gI acc.length s t∧acc.Nodup∧ ∀ v∈acc,0≤v∧v<n) (fun acc t a aa ⟨h1,U,V⟩ h=>by
  cases J:aY 0 (n-1) t with
  |none=>rw[J] at h;cases h
  |some q=>
   obtain⟨v,ab⟩:=q;rw[J] at h;simp only at h;split at h
   ·cases h
   ·rename_i W;simp only[Y3,U9] at h;obtain⟨rfl,rfl⟩:=h;have ac:=(gl J).1;refine⟨by rw[o5];exact h1.trans (c6 J),List.nodup_append.2 ⟨U,by simp,fun x I y O he=>?_⟩,fun x I=>?_⟩
    ·rw[j0] at O;subst O;subst he;exact W I
    ·rcases n9.1 I with I|I
     ·exact V x I
     ·rw[j0.1 I];omega) k [] s l s' ⟨gI.refl s,List.nodup_nil,fun v Y=>by cases Y⟩ h
 exact⟨this.1.1,by simpa using this.2,this.1.2.1,this.1.2.2⟩
theorem sJ:∀ {ks acc:List Int} {s s':aC} {t:List Int},hd ks acc s=some (t,s')→ ∃ u,t=acc++u∧cL ks u∧gI u.length s s'
 |[],acc,s,s',t,h=>by
  simp only[hd,Y3,U9] at h;obtain⟨rfl,rfl⟩:=h;exact⟨[],by simp,xj.2 rfl,gI.refl s⟩
 |k::ks,acc,s,s',t,h=>by
  simp only[hd] at h;cases I:aY 0 (k-1) s with
  |none=>rw[I] at h;cases h
  |some q=>
   obtain⟨v,O⟩:=q;rw[I] at h;obtain⟨u,rfl,hu,J⟩:=sJ h;have U:=(gl I).1;exact⟨v::u,by simp,xi.2 ⟨by omega,hu⟩,by rw[j4,Nat.add_comm];exact (c6 I).trans J⟩
def kM (sizes:List Int) (l:List (List Int×Int)):Prop:=(l.map (·.1)).Nodup∧ ∀ p∈l,cL sizes p.1∧0≤p.2
theorem mK {acc:List (List Int×Int)} {s s':aC} {a:List Int×Int} (h:dg sizes acc s=some (a,s')):a.1∉acc.map (·.1)∧cL sizes a.1∧0≤a.2∧gI (a.1.length+1) s s':=by
 unfold dg at h;cases J:hd sizes [] s with
 |none=>rw[J] at h;cases h
 |some q=>
  obtain⟨t,O⟩:=q;rw[J] at h;simp only at h;obtain⟨u,hu,U,V⟩:=sJ J;rw[List.nil_append] at hu;subst hu;cases I:aY 0 ao O with
  |none=>rw[I] at h;cases h
  |some q=>
   obtain⟨c,Y⟩:=q;rw[I] at h;simp only at h;split at h
   ·cases h
   ·rename_i W;simp only[Y3,U9] at h;obtain⟨rfl,rfl⟩:=h;exact⟨W,U,(gl I).1.1,V.trans (c6 I)⟩
structure xD (s s':aC):Prop where
 toks:s'.toks.length<s.toks.length
 big:s.big=true→s'.big=true
theorem E7 {s s':aC} {l:List (List Int×Int)} (ac:∀ q∈s.shared,kM q.1 q.2∧q.2.length≤N) (am:s.toks.length≤N) (h:dh sizes s=some (l,s')):
  kM sizes l∧l.length≤N∧s'.shared=s.shared∧xD s s':=by
 unfold dh at h;cases V:aY (-ao) ao s with
 |none=>rw[V] at h;cases h
 |some q=>
  obtain⟨n,J⟩:=q;rw[V] at h;simp only at h;have h1:=c6 V;obtain⟨an,ad,W⟩:=h1.eqs;split at h
  ·cases Y:J.shared[(-n-1).toNat]? with
   |none=>rw[Y] at h;cases h
   |some q=>
    obtain⟨z,l'⟩:=q;rw[Y] at h;simp only at h;split at h
    ·rename_i ag;simp only[Y3,U9] at h;obtain⟨rfl,rfl⟩:=h;subst ag;have hm:=x5 Y;rw[W] at hm;exact⟨(ac _ hm).1,(ac _ hm).2,W,by have:=h1.1;omega,fun O=>by rw[ad];exact O⟩
    ·cases h
  ·have:=iv (fun acc t=>kM sizes acc∧t.shared=s.shared∧t.toks.length+acc.length≤J.toks.length∧(s.big=true→t.big=true)) (fun acc t a ap ⟨U,aa,ah,ab⟩ g=>by
    obtain⟨ai,aj,ak,ae⟩:=mK g;obtain⟨f1,f2,f3⟩:=ae.eqs;refine⟨⟨?_,fun p I=>?_⟩,by rw[f3,aa],by have:=ae.1;simp only[o5,U8];omega,fun O=>by rw[f2];exact ab O⟩
    ·rw[b6];exact List.nodup_append.2 ⟨U.1,by simp,fun x al y af he=>by
      simp only[T4,List.map_nil,j0] at af;subst af;subst he;exact ai al⟩
    ·rcases n9.1 I with I|I
     ·exact U.2 p I
     ·rw[j0.1 I];exact⟨aj,ak⟩) n.toNat [] (aV (decide (16384<min (J.told+n) ao)) {J with told:=min (J.told+n) ao}) l s' ⟨⟨by simp,fun p I=>by cases I⟩,W,by simp[aV],fun O=>by simp[aV,ad,O]⟩ h
   obtain⟨⟨U,aa,ah,ab⟩,_⟩:=this;have:=h1.1;exact⟨U,by omega,aa,⟨by omega,ab⟩⟩
structure qf (all:List Int) (N:Nat) (f:bZ):Prop where
 scope:f.scope.Nodup∧ ∀ v∈f.scope,0≤v∧v<all.length
 sizes:f.sizes=f.scope.map fun v=>all.getD v.toNat 0
 other:0≤f.other
 lines:kM f.sizes f.lines
 len:f.lines.length≤N
theorem E8 {all:List Int} {s s':aC} {f:bZ} (ac:∀ q∈s.shared,kM q.1 q.2∧q.2.length≤N) (aA:s.toks.length≤N) (h:cF all s=some (f,s')):
  qf all N f∧(∀ q∈s'.shared,kM q.1 q.2∧q.2.length≤N)∧xD s s'∧(s'.big=false→f.scope.length≤6∧cS f.sizes=false):=by
 unfold cF at h;cases ad:aY (-ao) ao s with
 |none=>rw[ad] at h;cases h
 |some q=>
 obtain⟨a,an⟩:=q;rw[ad] at h;simp only at h;have t0:=c6 ad;obtain⟨aB,ap,aq⟩:=t0.eqs;cases h1:ee all.length a.natAbs an with
 |none=>rw[h1] at h;cases h
 |some q=>
 obtain⟨sc,V⟩:=q;rw[h1] at h;simp only at h;obtain⟨af,aD,au,av⟩:=sI h1;obtain⟨aE,aw,ax⟩:=af.eqs;generalize ay:sc.map (fun v=>all.getD v.toNat 0)=sizes at h;cases Y:aY 0 ao (aV (decide (6<a.natAbs)||cS sizes) V) with
 |none=>rw[Y] at h;cases h
 |some q=>
 obtain⟨other,O⟩:=q;rw[Y] at h;simp only at h;have ag:=c6 Y;obtain⟨aF,aa,W⟩:=ag.eqs;have W:O.shared=s.shared:=by rw[W];show V.shared=_;rw[ax,aq]
 have aG:O.toks.length<s.toks.length:=by
  have:=t0.1;have:=af.1;have ab:=ag.1;have:(aV (decide (6<a.natAbs)||cS sizes) V).toks.length=V.toks.length:=rfl;omega
 cases ab:dh sizes O with
 |none=>rw[ab] at h;cases h
 |some q=>
 obtain⟨lines,J⟩:=q;rw[ab] at h;simp only[Y3,U9] at h;obtain⟨rfl,rfl⟩:=h;obtain⟨ah,ai,aj,ak⟩:=E7 (N:=N) (by rw[W];exact ac) (by omega) ab;have az:=ak.big;have aH:=ak.toks;have al:O.big=true→ ∀ ae:aC,ae=(if a<0 then {J with shared:=J.shared++[(sizes,lines)]} else J)→ae.big=true:=fun U ae he=>by
  rw[he];split <;> exact az U
 have aa:O.big=(s.big||(decide (6<a.natAbs)||cS sizes)):=by
  rw[aa];show (V.big||_)=_;rw[aw,ap]
 refine⟨⟨⟨au,av⟩,ay.symm,(gl Y).1.1,ah,ai⟩,fun q I=>?_,⟨?_,fun U=>al (by rw[aa,U];rfl) _ rfl⟩,fun U=>?_⟩
 ·split at I
  ·rcases n9.1 I with I|I
   ·rw[show J.shared=s.shared by rw[aj,W]] at I;exact ac q I
   ·rw[j0.1 I];exact⟨ah,ai⟩
  ·rw[show J.shared=s.shared by rw[aj,W]] at I;exact ac q I
 ·have:(if a<0 then {J with shared:=J.shared++[(sizes,lines)]} else J).toks=J.toks:=by split <;> rfl
  rw[this];omega
 ·have am:O.big=false:=by
   cases I:O.big with
   |false=>rfl
   |true=>rw[al I _ rfl] at U;cases U
  rw[aa,T3,T3,decide_eq_false_iff_not] at am;show sc.length≤6∧_;exact⟨by omega,am.2.2⟩
structure eo (N:Nat) (f:bP):Prop where
 name:f.name.length≤64
 k:1≤f.k∧f.k≤2147483648
 sizes:1≤f.sizes.length∧f.sizes.length≤64∧ ∀ z∈f.sizes,1≤z∧z≤32
 jd:f.funs.length≤256
 funs:∀ x∈f.funs,qf f.sizes N x∧x.scope.length≤6∧cS x.sizes=false
theorem n3 {b:Bool} {s:aC} (h:(aV b s).big=false):s.big=false∧b=false:=by
 have h:(s.big||b)=false:=h;exact T3.1 h
theorem E9 {a b:aC} (h:a.big=true→b.big=true) (I:b.big=false):a.big=false:=by
 cases J:a.big with
 |false=>rfl
 |true=>rw[h J] at I;cases I
set_option maxHeartbeats 800000 in
theorem xE {s s':aC} {f:bP} (az:s.shared=[]) (h:gk s=some (f,s')) (I:s'.big=false):eo s.toks.length f∧f.name∈s.toks:=by
 unfold gk at h;cases ah:df s with
 |none=>rw[ah] at h;cases h
 |some q=>
 obtain⟨name,s0⟩:=q;rw[ah] at h;simp only at h;obtain⟨J,aA⟩:=qe ah;cases h1:aY 1 ao (aV (decide (64<name.length)) s0) with
 |none=>rw[h1] at h;cases h
 |some q=>
 obtain⟨n,ac⟩:=q;rw[h1] at h;simp only at h;have V:=c6 h1;cases ai:aY 1 ao (aV (decide (64<n)) ac) with
 |none=>rw[ai] at h;cases h
 |some q=>
 obtain⟨most,aB⟩:=q;rw[ai] at h;simp only at h;have aj:=c6 ai;cases ak:aY 0 ao aB with
 |none=>rw[ak] at h;cases h
 |some q=>
 obtain⟨count,ad⟩:=q;rw[ak] at h;simp only at h;have t3:=c6 ak;cases ae:aY 1 ao (aV (decide (256<count)) ad) with
 |none=>rw[ae] at h;cases h
 |some q=>
 obtain⟨k,Y⟩:=q;rw[ae] at h;simp only at h;have t4:=c6 ae;cases al:ch (e2 most) n.toNat [] (aV (decide (2147483648<k)) Y) with
 |none=>rw[al] at h;cases h
 |some q=>
 obtain⟨sizes,af⟩:=q;rw[al] at h;simp only at h;cases am:ch (fun _ s=>cF sizes s) count.toNat [] af with
 |none=>rw[am] at h;cases h
 |some q=>
 obtain⟨funs,aD⟩:=q;rw[am] at h;simp only[Y3,U9] at h;obtain⟨rfl,rfl⟩:=h;have aE:=iv (fun(acc:List Int) t=>t.shared=[]∧t.toks.length≤s.toks.length∧(t.big=false→Y.big=false∧k≤2147483648∧ ∀ z∈acc,1≤z∧z≤32)) (fun acc t a aF ⟨an,av,ap⟩ g=>by
  unfold e2 at g;cases W:aY 1 most t with
  |none=>rw[W] at g;cases g
  |some q=>
   obtain⟨z,V⟩:=q;rw[W] at g;simp only[Y3,U9] at g;obtain⟨rfl,rfl⟩:=g;have aw:=c6 W;obtain⟨a7,aG,aH⟩:=aw.eqs;have a8:=(gl W).1;refine⟨by show V.shared=[];rw[aH,an],by show V.toks.length≤_;have:=aw.1;omega,fun I=>?_⟩;obtain⟨O,aa⟩:=n3 I;rw[aG] at O;obtain⟨aq,au,aI⟩:=ap O;refine⟨aq,au,fun y ab=>?_⟩;rcases n9.1 ab with ab|ab
   ·exact aI y ab
   ·rw[j0.1 ab];have:=of_decide_eq_false aa;omega) n.toNat [] (aV (decide (2147483648<k)) Y) sizes af ⟨by
     show Y.shared=[];rw[t4.eqs.2.2];show ad.shared=[];rw[t3.eqs.2.2,aj.eqs.2.2];show ac.shared=[];rw[V.eqs.2.2];show s0.shared=[];rw[aA];exact az,by
     show Y.toks.length≤_;have aJ:=V.1;have aK:=aj.1;have a3:=t3.1;have a4:=t4.1;have O:(aV (decide (64<name.length)) s0).toks=s0.toks:=rfl;have aa:(aV (decide (64<n)) ac).toks=ac.toks:=rfl;have ag:(aV (decide (256<count)) ad).toks=ad.toks:=rfl;rw[O] at aJ;rw[aa] at aK;rw[ag] at a4;rw[J,j4];omega,fun I=>by
     obtain⟨O,aa⟩:=n3 I;have:=of_decide_eq_false aa;exact⟨O,by omega,fun z aL=>by cases aL⟩⟩ al
 obtain⟨⟨aM,aN,aO⟩,aP⟩:=aE;have aQ:=iv (fun(acc:List bZ) t=>(∀ q∈t.shared,kM q.1 q.2∧q.2.length≤s.toks.length)∧t.toks.length≤s.toks.length∧(t.big=false→af.big=false∧ ∀ x∈acc,qf sizes s.toks.length x∧x.scope.length≤6∧cS x.sizes=false)) (fun acc t a aF ⟨an,av,ap⟩ g=>by
  obtain⟨aR,aS,ax,aT⟩:=E8 an av g;refine⟨aS,by have:=ax.toks;omega,fun I=>?_⟩;obtain⟨aq,au⟩:=ap (E9 ax.big I);refine⟨aq,fun x U=>?_⟩;rcases n9.1 U with U|U
  ·exact au x U
  ·rw[j0.1 U];exact⟨aR,aT I⟩) count.toNat [] af funs aD ⟨(by rw[aM];intro q W;cases W),aN,fun I=>⟨I,fun x U=>by cases U⟩⟩ am
 obtain⟨⟨_,_,d3⟩,d4⟩:=aQ;obtain⟨aU,d5⟩:=d3 I;obtain⟨ag,aW,aX⟩:=aO aU;rw[t4.eqs.2.1] at ag;obtain⟨ay,aZ⟩:=n3 ag;rw[t3.eqs.2.1,aj.eqs.2.1] at ay;obtain⟨O,a1⟩:=n3 ay;rw[V.eqs.2.1] at O;obtain⟨_,a2⟩:=n3 O;have:=of_decide_eq_false aZ;have:=of_decide_eq_false a1;have:=of_decide_eq_false a2;have ba:=(gl h1).1;have a6:=(gl ae).1;simp only[List.length_nil,W6] at aP d4;exact⟨⟨by show name.length≤64;omega,⟨a6.1,aW⟩,⟨by show 1≤sizes.length;omega,by show sizes.length≤64;omega,aX⟩,by show funs.length≤256;omega,d5⟩,by rw[J];exact .head _⟩
def hX (x:bZ) (k:Int) (t:List Int):Int:=min (match x.lines.find? (fun p=>decide (p.1=t)) with
 |some p=>p.2
 |none=>x.other) k
def a7 (l:List Int):List Int:=((X7 64).map fun(v:Nat)=>(v:Int)).filter fun v=>decide (v∈l)
def bd (sizes scope:List Int):List Int:=scope.map fun v=>sizes.getD v.toNat 0
def mL (scope I t:List Int):List Int:=scope.map fun v=>t.getD (I.idxOf v) 0
abbrev ca:Type:=List Int×List Int
def gm (sizes:List Int) (k:Int) (x:bZ):ca:=(a7 x.scope,(bm (bd sizes (a7 x.scope))).map fun t=>hX x k (mL x.scope (a7 x.scope) t))
def dl (k:Int) (a b:List Int):List Int:=List.zipWith (fun x y=>min (x+y) k) a b
def gJ (k:Int) (acc:List ca) (g:ca):List ca:=if g.1∈acc.map (·.1) then acc.map fun h=>if h.1=g.1 then (h.1,dl k h.2 g.2) else h else acc++[g]
def hJ:List Int→Int
 |[]=>0
 |x::l=>x*64 ^ l.length+hJ l
def cG (l:List Int):Int:=l.length*64 ^ 6+hJ l
def fV (g:ca):List ca→List ca
 |[]=>[g]
 |h::l=>if cG h.1<cG g.1 then h::fV g l else g::h::l
def eO (g:ca):Bool:=g.2.any fun c=>decide (0<c)
def eB (f:bP):List ca:=(f.funs.map (gm f.sizes f.k)).foldl (gJ f.k) []
def eP (f:bP):List ca:=((eB f).filter eO).foldl (fun l g=>fV g l) []
structure aS where
 k:Int
 sizes:List Int
 zero:Int
 unary:List (List Int)
 funs:List ca
deriving DecidableEq
def cR (f:bP):aS:=(eP f).foldl (fun n g=>match g.1 with
 |[]=>{n with zero:=g.2.getD 0 0}
 |[v]=>{n with unary:=n.unary.set v.toNat g.2}
 |_=>{n with funs:=n.funs++[g]}) ⟨f.k,f.sizes,0,f.sizes.map fun z=>r9 z.toNat 0,[]⟩
abbrev hg:Type:=Rd (List Int)×Rd (List (List Int×Int))
def bj (g gs:Nat) (A:ag):ag:=fun r=>r=g∨r=gs∨A r
def eQ (gs:Nat) (e big I J told:Int) (sv:x1):List x1:=[.pointer (some ⟨gs,0,none⟩),.int .i64 e,.int .i64 big,.int .i64 I,.int .i64 J,.int .i64 told,sv]
def b3 (g gs:Nat) (A:ag) (B:ag):ag:=fun r=>¬bj g gs A r∧B r
def je (w:x2) (g gs:Nat) (A:ag) (B:ag):Prop:=g≠gs∧¬A g∧¬A gs∧(∀ r,bj g gs A r→r<w.heap.size)∧ ∀ r,B r→r<w.heap.size
def cK (w:x2) (g gs:Nat) (A:ag) (B:ag) (s:aC) (clean:Bool):Prop:=je w g gs A B∧fU w gs (b3 g gs A B) s.toks clean∧(0≤s.told∧s.told≤ao∧s.shared.length+s.toks.length≤100000)∧
 ∃ big I J told sv,ae w g bT (eQ gs 0 big I J told sv)∧((s.big=true↔big≠0)∧(s.big=false→told=s.told))∧bi A (b3 g gs A B) w [sv] (show List hg from s.shared)
def dG (w:x2) (g gs:Nat) (A:ag) (B:ag):Prop:=je w g gs A B∧ ∃ (e big I J told:Int) (sv:x1) (l:List hg),ae w g bT (eQ gs e big I J told sv)∧(e≠0∧l.length≤100000)∧bi A (b3 g gs A B) w [sv] l
theorem je.O {g:Nat} {A:ag} {B:ag} (h:je w g gs A B) (J:ad S w w'):je w' g gs A B:=by
 obtain⟨h1,U,V,W,Y⟩:=h;exact⟨h1,U,V,fun r I=>Nat.lt_of_lt_of_le (W r I) J.size,fun r I=>Nat.lt_of_lt_of_le (Y r I) J.size⟩
theorem xF {g:Nat} {A:ag} {B:ag} (I:∀ r,A r→¬S r) (J:∀ r,b3 g gs A B r→¬S r):∀ r,A r∨b3 g gs A B r→¬S r:=fun r h=>h.elim (I r) (J r)
theorem cK.O {g:Nat} {A:ag} {B:ag} {s:aC} (h:cK w g gs A B s clean) (I:ad S w w') (J:∀ r,bj g gs A r→¬S r) (U:∀ r,b3 g gs A B r→¬S r):cK w' g gs A B s clean:=by
 obtain⟨h1,V,W,big,Y,aa,told,sv,ab,ac,ae⟩:=h;exact⟨h1.O I,V.O I (J gs (.inr (.inl rfl))) U,W,big,Y,aa,told,sv,ab.O I (J g (.inl rfl)),ac,ai.O ae I fun r _ h=>xF (fun r af=>J r (.inr (.inr af))) U r h⟩
theorem dG.O {g:Nat} {A:ag} {B:ag} (h:dG w g gs A B) (I:ad S w w') (J:∀ r,bj g gs A r→¬S r) (U:∀ r,b3 g gs A B r→¬S r):dG w' g gs A B:=by
 obtain⟨h1,e,big,V,W,told,sv,l,Y,aa,ab⟩:=h;exact⟨h1.O I,e,big,V,W,told,sv,l,Y.O I (J g (.inl rfl)),aa,ai.O ab I fun r _ h=>xF (fun r ac=>J r (.inr (.inr ac))) U r h⟩
theorem cK.ext {g:Nat} {A:ag} {B:ag} {s:aC} (h:cK w g gs A B s clean) (I:Ext w w'):cK w' g gs A B s clean:=h.O (I.O fun _=>False) (fun _ _ h=>h) (fun _ _ h=>h)
theorem dG.ext {g:Nat} {A:ag} {B:ag} (h:dG w g gs A B) (I:Ext w w'):dG w' g gs A B:=h.O (I.O fun _=>False) (fun _ _ h=>h) (fun _ _ h=>h)
def e3 (w:x2) (g gs:Nat) (A:ag) (B:ag) (clean:Bool) (s':Option aC) (w':x2):Prop:=ad (bj g gs A) w w'∧match s' with
 |some s'=>cK w' g gs A B s' clean
 |none=>dG w' g gs A B
theorem sK {g:Nat} {e big I J told:Int} (O:ae w g bT (eQ gs e big I J told sv)):af x3 iU [.pointer (some ⟨g,0,none⟩)] w fun v w'=>v= .bool (decide (e=0))∧Ext w w':=by
 refine az func150 ?_;rw[aw,V bT.p rfl,V ec.p rfl,aa (by kernel_rfl) (O.cell (o:=0+1+0) rfl),a8];exact⟨rfl,Ext.refl _⟩
theorem mM {g:Nat} {A:ag} {B:ag} {s:aC} (h:cK w g gs A B s clean):af x3 iU [.pointer (some ⟨g,0,none⟩)] w fun v w'=>v= .bool true∧Ext w w':=by
 obtain⟨_,_,_,big,J,O,told,sv,I,_⟩:=h;exact (sK I).mono fun _ _ _ h=>h
theorem lB {g:Nat} {A:ag} {B:ag} (h:dG w g gs A B):af x3 iU [.pointer (some ⟨g,0,none⟩)] w fun v w'=>v= .bool false∧Ext w w':=by
 obtain⟨_,e,big,V,W,told,sv,l,I,O,_⟩:=h;refine (sK I).mono ?_;rintro _ J _ ⟨rfl,U⟩;exact⟨by rw[decide_eq_false O.1],U⟩
theorem qg {g:Nat} {A B:ag} (h:A r∨b3 g gs A B r) (I:¬A g):r≠g:=by
 rintro rfl;rcases h with h|h
 ·exact I h
 ·exact h.1 (.inl rfl)
theorem qh {g:Nat} {A:ag} {B:ag} {big ah I told e:Int} {l:List hg} (aj:je w g gs A B) (ak:ae w g bT (eQ gs 0 big ah I told sv)) (al:bi A (b3 g gs A B) w [sv] l) (he:e≠0) (am:l.length≤100000):
  af x3 k8 [.pointer (some ⟨g,0,none⟩),.int .i64 e,.int .i64 at_] w fun _ w'=>ad (fun r=>r=g) w w'∧dG w' g gs A B:=by
 refine az func153 ?_;rw[aw,V bT.p rfl,V ec.p rfl,aa (by kernel_rfl) (ak.cell (o:=0+1+0) rfl),a8,ab];refine⟨fun _=>?_,fun h=>absurd rfl h⟩;rw[aw,V bT.p rfl,V ec.p rfl];refine bl (g:=g) (o:=1) dL.i rfl rfl ak (by simp[eQ]) fun J an au W=>?_;have W:ae J g bT (eQ gs e big ah I told sv):=W;rw[aw,V bT.p rfl,V ec.p rfl];refine bl (g:=g) (o:=3) U.i rfl rfl W (by simp[eQ]) fun ao ap av Y=>?_;have Y:ae ao g bT (eQ gs e big at_ I told sv):=Y;have ac:=an.trans ap;exact⟨ac,aj.O ac,e,big,at_,I,told,sv,l,Y,⟨he,am⟩,ai.O al ac fun r _ h aq=>qg h aj.2.1 aq⟩
theorem qi {g:Nat} {A:ag} {B:ag} {s:aC} {e:Int} (h:cK w g gs A B s clean) (he:e≠0):af x3 k8 [.pointer (some ⟨g,0,none⟩),.int .i64 e,.int .i64 at_] w fun _ w'=>ad (fun r=>r=g) w w'∧dG w' g gs A B:=by
 obtain⟨I,_,J,big,V,W,told,sv,O,_,U⟩:=h;exact qh I O U he (by have:=J.2.2;show s.shared.length≤_;omega)
theorem Fa {g:Nat} {A:ag} {B:ag} {e:Int} (h:dG w g gs A B):af x3 k8 [.pointer (some ⟨g,0,none⟩),.int .i64 e,.int .i64 at_] w fun _ w'=>Ext w w':=by
 obtain⟨_,J,big,O,U,told,sv,l,h1,I,_⟩:=h;refine az func153 ?_;rw[aw,V bT.p rfl,V ec.p rfl,aa (by kernel_rfl) (h1.cell (o:=0+1+0) rfl),a8,ab];exact⟨fun h=>absurd h I.1,fun _=>Ext.refl _⟩
theorem qj {g:Nat} {A:ag} {B:ag} {s:aC} {b:Bool} (h:cK w g gs A B s clean):af x3 nB [.pointer (some ⟨g,0,none⟩),.bool b,.int .i64 at_] w fun _ w'=>ad (fun r=>r=g) w w'∧cK w' g gs A B (aV b s) clean:=by
 obtain⟨W,am,an,big,Y,ao,told,sv,ac,ap,aq⟩:=id h;refine az func148 ?_;refine aM (fun v J=>w=J∧v= .bool (b&&decide (big=0))) ?_ ?_
 rotate_left
 ·intro aE aj;cases b with
  |false=>rw[aP];exact aj _ _ ⟨rfl,rfl⟩
  |true=>
   rw[bC,aw,V bT.p rfl,V ec.p rfl,aa (by kernel_rfl) (ac.cell (o:=0+1+1) rfl),a8,ab];refine⟨fun I=>?_,fun I=>aj _ _ ⟨rfl,by rw[decide_eq_false I];rfl⟩⟩;rw[aw,V bT.p rfl,V ec.p rfl,aa (by kernel_rfl) (ac.cell (o:=0+1+0) rfl),a8];exact aj _ _ ⟨rfl,by rw[decide_eq_true I];rfl⟩
 rintro _ _ ⟨rfl,rfl⟩;rw[br];refine⟨fun au=>?_,fun av=>?_⟩
 ·obtain⟨rfl,I⟩:=Bool.and_eq_true_iff.1 au;rw[aw,V bT.p rfl,V ec.p rfl];refine bl (g:=g) (o:=2) dL.i rfl rfl ac (by simp[eQ]) fun J ax aF ak=>?_;have ak:ae J g bT (eQ gs 0 5 Y ao told sv):=ak;rw[aw,V bT.p rfl,V ec.p rfl];refine bl (g:=g) (o:=4) U.i rfl rfl ak (by simp[eQ]) fun ay aA aG al=>?_;have al:ae ay g bT (eQ gs 0 5 Y at_ told sv):=al;have ah:=ax.trans aA;exact⟨ah,W.O ah,am.O ah (fun he=>W.1 he.symm) (fun r aB he=>aB.1 (.inl he)),an,5,Y,at_,told,sv,al,⟨⟨fun _=>by omega,fun _=>by simp[aV]⟩,fun h=>by simp[aV] at h⟩,ai.O aq ah fun r _ h aD=>qg h W.2.1 aD⟩
 ·refine⟨ad.refl _ _,W,am,an,big,Y,ao,told,sv,ac,⟨?_,fun h=>ap.2 (by
   have h:(s.big||b)=false:=h;exact (T3.1 h).1)⟩,aq⟩
  show (s.big||b)=true↔big≠0;cases b with
  |false=>rw[Bool.or_false];exact ap.1
  |true=>
   have I:big≠0:=of_decide_eq_false (by simpa using av);simp[I]
theorem xG {g:Nat} {A:ag} {B:ag} {b:Bool} (h:dG w g gs A B):af x3 nB [.pointer (some ⟨g,0,none⟩),.bool b,.int .i64 at_] w fun _ w'=>Ext w w':=by
 obtain⟨_,W,big,Y,ac,told,sv,l,h1,O,_⟩:=h;refine az func148 ?_;refine aM (fun v J=>w=J∧v= .bool false) ?_ ?_
 ·rintro _ _ ⟨rfl,rfl⟩;rw[aP];exact Ext.refl _
 intro ad I;cases b with
 |false=>rw[aP];exact I _ _ ⟨rfl,rfl⟩
 |true=>
  rw[bC,aw,V bT.p rfl,V ec.p rfl,aa (by kernel_rfl) (h1.cell (o:=0+1+1) rfl),a8,ab];refine⟨fun U=>?_,fun U=>I _ _ ⟨rfl,rfl⟩⟩;rw[aw,V bT.p rfl,V ec.p rfl,aa (by kernel_rfl) (h1.cell (o:=0+1+0) rfl),a8];exact I _ _ ⟨rfl,by rw[decide_eq_false O.1]⟩
theorem cK.scan {g:Nat} {A:ag} {B:ag} {s:aC} {l:List (List Int)} (h:cK w g gs A B s clean) (I:ad (fun r=>r=gs) w w') (V:fU w' gs (b3 g gs A B) l clean) (ae:l.length≤s.toks.length):cK w' g gs A B {s with toks:=l} clean:=by
 obtain⟨h1,_,J,big,W,Y,told,sv,aa,ab,ac⟩:=h;refine⟨h1.O I,V,⟨J.1,J.2.1,by have:=J.2.2;show s.shared.length+l.length≤100000;omega⟩,big,W,Y,told,sv,aa.O I h1.1,ab,ai.O ac I fun r _ h U=>?_⟩;have U:r=gs:=U;subst U;rcases h with h|h
 ·exact h1.2.2.1 h
 ·exact h.1 (.inr (.inl rfl))
theorem xH {g:Nat} {A:ag} {B:ag} {s:aC} (h:cK w g gs A B s clean):af x3 vR [.pointer (some ⟨g,0,none⟩)] w fun v w'=>e3 w g gs A B clean ((df s).map (·.2)) w'∧ ∃ (t:List Int) (n:Int),v= .tuple #[bk t,.int .i64 n]∧Bytes t∧t.length≤100000∧ ∀ q,df s=some q→t=q.1:=by
 refine az func147 ?_;refine (mM h).mono ?_;rintro _ J _ ⟨rfl,ap⟩;rw[bc,Y4,aP];have h1:=h.ext ap;obtain⟨_,aq,_,big,ax,ay,told,sv,ah,_⟩:=id h1;have aA:=aq.words.2;rw[aw,V bT.p rfl,aa (by kernel_rfl) (ah.cell (o:=0+0) rfl)];refine (n2 aq).mono ?_;rintro v W _ ⟨Y,ae⟩;have au:ad (bj g gs A) w W:=(ap.O _).trans (Y.mono fun r _ h=>.inr (.inl h));cases U:s.toks with
 |cons t l=>
  rw[U] at ae;obtain⟨aB,n,rfl⟩:=ae;have aE:=h1.scan Y aB (by rw[U];simp);have aj:df s=some (t,{s with toks:=l}):=by unfold df;rw[U]
  have av:=aA t (by rw[U];exact .head _);rw[aD (v:=bk t) rfl,aD (v:=.int .i64 n) rfl,aD (v:=.int .i64 0) rfl];refine aM (fun v ak=>W=ak∧v= .int .i64 0) ?_ ?_
  ·rintro _ _ ⟨rfl,rfl⟩;refine c3 (fun ac=>W=ac) ?_ ?_
   ·rintro _ rfl;rw[aj];exact⟨⟨au,aE⟩,t,n,rfl,av.1,av.2.2,fun q al=>by cases al;rfl⟩
   ·intro am I;rw[bF,ab];exact⟨fun h=>absurd rfl h,fun _=>I _ rfl⟩
  ·intro am I;rw[a8,ab];exact⟨fun h=>by omega,fun _=>I _ _ ⟨rfl,rfl⟩⟩
 |nil=>
  rw[U] at ae;obtain⟨n,rfl⟩:=ae;have aj:df s=none:=by unfold df;rw[U]
  obtain⟨an,_,aF,big,ax,ay,told,sv,ah,aN,aG⟩:=id h1;have aH:=ah.O Y an.1;have aI:=ai.O aG Y fun r _ h ao=>by
   have ao:r=gs:=ao;subst ao;rcases h with h|h
   ·exact an.2.2.1 h
   ·exact h.1 (.inr (.inl rfl))
  rw[aD (v:=bk []) rfl,aD (v:=.int .i64 n) rfl,aD (v:=.int .i64 (if clean then 2 else 11)) rfl];refine aM (fun v ak=>W=ak∧ ∃ e:Int,v= .int .i64 e∧e≠0) ?_ ?_
  ·rintro _ _ ⟨rfl,e,rfl,he⟩;refine c3 (fun ac=>ad (fun r=>r=g) W ac∧dG ac g gs A B) ?_ ?_
   ·rintro ac ⟨aJ,aK⟩;rw[aj];exact⟨⟨au.trans (aJ.mono fun r _ h=>.inl h),aK⟩,[],n,rfl,fun b aL=>(by cases aL),by simp,fun q al=>by cases al⟩
   ·intro am I;rw[bF,ab];refine⟨fun _=>?_,fun h=>absurd he h⟩;exact (qh (an.O Y) aH aI he (by have:=aF.2.2;show s.shared.length≤_;omega)).mono fun _ w' _ h=>I _ h
  ·intro am I;rw[a8,ab];cases clean with
   |true=>exact⟨fun _=>I _ _ ⟨rfl,4,rfl,by omega⟩,fun h=>absurd rfl h⟩
   |false=>exact⟨fun h=>by simp at h,fun _=>I _ _ ⟨rfl,11,rfl,by omega⟩⟩
theorem Fb {g:Nat} {A:ag} {B:ag} (h:dG w g gs A B):af x3 vR [.pointer (some ⟨g,0,none⟩)] w fun v w'=>Ext w w'∧v= .tuple #[bk [],.int .i64 0]:=by
 refine az func147 ?_;refine (lB h).mono ?_;rintro _ J _ ⟨rfl,I⟩;rw[bc,X4,bC];exact⟨I,rfl⟩
theorem sL {g:Nat} {A:ag} {B:ag} {s:aC} (h:cK w g gs A B s clean):af x3 k7 [.pointer (some ⟨g,0,none⟩),.int .i64 lo,.int .i64 hi] w fun v w'=>e3 w g gs A B clean ((aY lo hi s).map (·.2)) w'∧ ∃ n at_:Int,v= .tuple #[.int .i64 n,.int .i64 at_]∧(∀ q,aY lo hi s=some q→n=q.1)∧(aY lo hi s=none→n=0):=by
 refine az func149 ?_;refine (xH h).mono ?_;rintro _ J _ ⟨⟨aa,U⟩,t,n,rfl,al,am,hw⟩;rw[aD (v:=bk t) rfl,aD (v:=.int .i64 n) rfl];cases V:df s with
 |none=>
  have I:aY lo hi s=none:=by unfold aY;rw[V]
  rw[V] at U;have U:dG J g gs A B:=U;refine (lB U).mono ?_;rintro _ ao _ ⟨rfl,W⟩;rw[bc,X4,bC,I];exact⟨⟨aa.trans (W.O _),U.ext W⟩,0,n,rfl,fun q h=>(by cases h),fun _=>rfl⟩
 |some q=>
  obtain⟨aw,ac⟩:=q;have:=hw _ V;subst this;rw[V] at U;have U:cK J g gs A B ac clean:=U;refine (mM U).mono ?_;rintro _ ao _ ⟨rfl,W⟩;rw[bc,Y4,aP];refine (E6 al am).mono ?_;rintro _ ae _ ⟨rfl,ah⟩;have ai:=(U.ext W).ext ah;have aj:ad (bj g gs A) w ae:=(aa.trans (W.O _)).trans (ah.O _);obtain⟨m,e,ap,hm⟩:∃ m e:Int,iu t= .tuple #[.int .i64 m,.int .i64 e]∧((fh t=some m∧e=0)∨(fh t=none∧e=4)):=by
   unfold iu;cases ax:fh t with
   |none=>exact⟨0,4,rfl,.inr ⟨rfl,rfl⟩⟩
   |some m=>exact⟨m,0,rfl,.inl ⟨rfl,rfl⟩⟩
  rw[ap,aD (v:=.int .i64 m) rfl,aD (v:=.int .i64 e) rfl];refine aM (fun v aq=>ae=aq∧v= .bool (aY lo hi s).isNone) ?_ ?_
  ·rintro _ _ ⟨rfl,rfl⟩;cases I:aY lo hi s with
   |none=>
    rw[Option.isNone_none,bC];refine (qi ai (by omega)).mono ?_;rintro _ ay _ ⟨au,av⟩;exact⟨⟨aj.trans (au.mono fun r _ h=>.inl h),av⟩,0,n,rfl,fun q h=>(by cases h),fun _=>rfl⟩
   |some q=>
    rw[Z1,aP];unfold aY at I;rw[V] at I;simp only at I;rcases hm with⟨hm,_⟩|⟨hm,_⟩
    ·rw[hm] at I;simp only at I;split at I
     ·cases I;exact⟨⟨aj,ai⟩,m,n,rfl,fun q h=>(by cases h;rfl),fun h=>(by cases h)⟩
     ·cases I
    ·rw[hm] at I;cases I
  ·intro aA Y;have I:aY lo hi s=match fh t with
     |none=>none
     |some n=>if lo≤n∧n≤hi then some (n,ac) else none:=by
    unfold aY;rw[V];simp only;cases fh t <;> rfl
   rw[bF,ab];rcases hm with⟨hm,rfl⟩|⟨hm,rfl⟩
   ·rw[hm] at I;simp only at I;refine⟨fun h=>absurd rfl h,fun _=>?_⟩;rw[an,ab];refine⟨fun h=>Y _ _ ⟨rfl,by rw[I,if_neg (by omega)];rfl⟩,fun h=>?_⟩;rw[bA];refine Y _ _ ⟨rfl,?_⟩;rw[I];by_cases ak:hi<m
    ·rw[decide_eq_true ak,if_neg (by omega)];rfl
    ·rw[decide_eq_false ak,if_pos (by omega)];rfl
   ·rw[hm] at I;exact⟨fun _=>Y _ _ ⟨rfl,by rw[I];rfl⟩,fun h=>absurd (by omega:(4:Int)≠0) h⟩
theorem Fc {g:Nat} {A:ag} {B:ag} (h:dG w g gs A B):af x3 k7 [.pointer (some ⟨g,0,none⟩),.int .i64 lo,.int .i64 hi] w fun v w'=>Ext w w'∧v= .tuple #[.int .i64 0,.int .i64 0]:=by
 refine az func149 ?_;refine (Fb h).mono ?_;rintro _ J _ ⟨I,rfl⟩;rw[aD (v:=bk []) rfl,aD (v:=.int .i64 0) rfl];refine (lB (h.ext I)).mono ?_;rintro _ U _ ⟨rfl,O⟩;rw[bc,X4,bC];exact⟨I.trans O,rfl⟩
theorem Fe (h:aB .i64 w sv l):af x3 Dq [sv,.int .i64 x] w fun v w'=>Ext w w'∧ ∃ r:Int,v= .int .i64 r∧(0≤r↔x∈l):=by
 refine az func277 ?_;rw[aL au.u h];refine bt.range l.length (fun i _ J=>Ext w J∧x∉l.take i) h.le ⟨Ext.refl _,by simp⟩ ?_ ?_
 ·rintro i _ J k hi ⟨I,O⟩ V;rw[an,ab];refine⟨fun _=>?_,fun h=>by omega⟩;obtain⟨y,U⟩:∃ y,l[i]? =some y:=⟨_,y0 hi⟩;rw[aZ au.u ak.i (by kernel_rfl) (h.ext I) U,a8,ab];refine⟨fun he=>⟨I,i,rfl,⟨fun _=>he▸x5 U,fun _=>by omega⟩⟩,fun he=>?_⟩;rw[aI];refine V _ _ ⟨I,fun hm=>?_⟩;rw[u9,U] at hm;rcases n9.1 hm with hm|hm
  ·exact O hm
  ·simp at hm;exact he hm
 ·rintro _ J k ⟨I,O⟩;rw[o9] at O;rw[an,ab];exact⟨fun h=>by omega,fun _=>⟨I,-1,rfl,⟨fun h=>by omega,fun h=>absurd h O⟩⟩⟩
theorem Ff (h:aB .i64 w sv l):af x3 C8 [sv,.int .i64 x] w fun v w'=>v= .bool (decide (x∈l))∧Ext w w':=by
 refine az func242 ?_;refine (Fe h).mono ?_;rintro _ J _ ⟨I,r,rfl,O⟩;rw[cm];exact⟨by congr 1;rw[V1,decide_eq_true_eq,decide_eq_true_eq];exact O,I⟩
theorem qk:∀ {l:List Int},(∀ z∈l,1≤z)→ ∀ i,aE ((l.take i).map fun k=>min k 4097)≤aE (l.map fun k=>min k 4097)∧1≤aE ((l.take i).map fun k=>min k 4097)
 |[],_,i=>by simp[aE]
 |z::l,h,0=>by
  have I:=qk (l:=l) (fun x J=>h x (.tail _ J)) l.length;rw[o9] at I;have O:=h z (.head _);simp only[List.take_zero,List.map_nil,T4,aE];have:=Int.mul_le_mul_of_nonneg_left I.2 (show 0≤min z 4097 by omega);omega
 |z::l,h,i+1=>by
  have I:=qk (l:=l) (fun x J=>h x (.tail _ J)) i;have O:=h z (.head _);simp only[List.take_succ_cons,T4,aE];have h1:=Int.mul_le_mul_of_nonneg_left I.1 (show 0≤min z 4097 by omega);have U:=Int.mul_le_mul_of_nonneg_left I.2 (show 0≤min z 4097 by omega);exact⟨h1,by omega⟩
theorem ql (l:List Int) (x:Int):aE (l++[x])=aE l*x:=by
 induction l with
 |nil=>simp[aE]
 |cons a l I=>rw[List.cons_append,aE,I,aE,Int.mul_assoc]
theorem xI (h:aB .i64 w sv l) (h1:∀ z∈l,1≤z):af x3 CM [sv] w fun v w'=>v= .bool (cS l)∧Ext w w':=by
 refine az func200 ?_;rw[aL au.u h];refine jF.range l.length (fun i _ n J=>Ext w J∧n= .int .i64 (aE ((l.take i).map fun k=>min k 4097))∧aE ((l.take i).map fun k=>min k 4097)≤4096) h.le ⟨Ext.refl _,by simp[aE],by simp[aE]⟩ ?_ ?_
 ·rintro i _ _ J V hi ⟨I,rfl,O⟩ W;rw[an,ab];refine⟨fun _=>?_,fun h=>by omega⟩;obtain⟨z,U⟩:∃ z,l[i]? =some z:=⟨_,y0 hi⟩;have aa:=h1 z (x5 U);have ac:=qk h1 i;have ad:=qk h1 (i+1);have e:aE ((l.take (i+1)).map fun k=>min k 4097)=aE ((l.take i).map fun k=>min k 4097)*min z 4097:=by
   rw[u9,U,Z0,b6,T4,List.map_nil,ql]
  rw[aZ au.u ak.i (by kernel_rfl) (h.ext I) U,hD,e0,←e];have ae:aE ((l.take (i+1)).map fun k=>min k 4097)≤4096*4097:=by
   rw[e];have ag:=Int.mul_le_mul_of_nonneg_right O (show 0≤min z 4097 by omega);have ah:=Int.mul_le_mul_of_nonneg_left (show min z 4097≤4097 by omega) (show (0:Int)≤4096 by omega);omega
  rw[wrap_i64 (by omega) (by omega),bA,ab];refine⟨fun Y=>⟨?_,I⟩,fun Y=>?_⟩
  ·unfold cS;rw[decide_eq_true];omega
  ·rw[aI];exact W _ _ _ ⟨I,rfl,by omega⟩
 ·rintro _ _ J V ⟨I,rfl,O⟩;rw[o9] at O;rw[an,ab];refine⟨fun h=>by omega,fun _=>⟨?_,I⟩⟩;unfold cS;rw[decide_eq_false];omega
def iw (n:Int) (acc:List Int) (s:aC):Option (Int×aC):=match aY 0 (n-1) s with
 |none=>none
 |some (v,s)=>if v∈acc then none else some (v,s)
theorem mN {α:Type} {f:List α→aC→Option (α×aC)} {acc:List α} {s:aC} (h:f acc s=none):ch f (n+1) acc s=none:=by
 simp only[ch,h]
theorem qm {α:Type} {f:List α→aC→Option (α×aC)} {acc:List α} {s s':aC} {a:α} (h:f acc s=some (a,s')):ch f (n+1) acc s=ch f n (acc++[a]) s':=by
 simp only[ch,h]
theorem cK.n4 {g:Nat} {A:ag} {B:ag} {s:aC} (h:cK w g gs A B s clean):(∀ r,bj g gs A r→r<w.heap.size)∧(∀ r,B r→r<w.heap.size):=⟨h.1.2.2.2.1,h.1.2.2.2.2⟩
set_option maxHeartbeats 1600000 in
theorem Fg {g k:Nat} {A B:ag} {s:aC} {m:Int} (h:cK w g gs A B s clean) (bG:k≤4611686018427387904) (hm:0≤m∧m≤1000000):
  af x3 vW [.pointer (some ⟨g,0,none⟩),.int .i64 (k:Int),.int .i64 m] w fun v w'=>e3 w g gs A B clean ((ee m k s).map (·.2)) w'∧
   ∃ I l,am .i64 ak w' I v l∧(∀ r,leads v r→w.heap.size≤r)∧l.length≤100001∧ ∀ q,ee m k s=some q→l=q.1:=by
 obtain⟨aN,a7⟩:=h.n4;have a8:=h.2.1.words.1;refine az func199 ?_;refine⟨fun out aB J=>∃ i:Nat,aB= .int .i64 (i:Int)∧i≤k∧ad (bj g gs A) w J∧ ∃ I l,am .i64 ak J I out l∧w.heap.size≤I∧l.length≤100001∧
  ((∃ st,cK J g gs A B st clean∧ch (iw m) (k-i) l st=ee m k s∧l.length+st.toks.length≤100000)∨(dG J g gs A B∧ee m k s=none)),fun _ aB _=>k-(bB aB).toNat,
  ⟨0,rfl,Y7 _,ad.refl _ _,w.heap.size,[],am.nil _ _ _ _,o7 _,by simp,.inl ⟨s,h,rfl,by simpa using a8⟩⟩,?_⟩
 rintro out _ J ⟨i,rfl,ba,aO,I,l,aQ,bH,bI,aR⟩;have bJ:=aO.size;have aE:∀ r,leads out r→w.heap.size≤r:=fun r ae=>by have:=bn aQ ae;omega
 refine aM (fun v aa=>Ext J aa∧((v= .bool true∧i<k∧ ∃ st,cK aa g gs A B st clean∧ch (iw m) (k-i) l st=ee m k s∧l.length+st.toks.length≤100000)∨
  (v= .bool false∧((∃ st,cK aa g gs A B st clean∧ee m k s=some (l,st))∨(dG aa g gs A B∧ee m k s=none))))) ?_ ?_
 rotate_left
 ·intro bK aq;rw[an,ab];refine⟨fun bL=>?_,fun bM=>?_⟩
  ·rcases aR with⟨st,ah,ac,aF⟩|⟨aj,aG⟩
   ·refine (mM ah).mono ?_;rintro _ aa _ ⟨rfl,ai⟩;exact aq _ _ ⟨ai,.inl ⟨rfl,by omega,st,ah.ext ai,ac,aF⟩⟩
   ·refine (lB aj).mono ?_;rintro _ aa _ ⟨rfl,ai⟩;exact aq _ _ ⟨ai,.inr ⟨rfl,.inr ⟨aj.ext ai,aG⟩⟩⟩
  ·have bb:k-i=0:=by omega
   rcases aR with⟨st,ah,ac,aF⟩|bc
   ·rw[bb] at ac;exact aq _ _ ⟨Ext.refl _,.inr ⟨rfl,.inl ⟨st,ah,ac.symm⟩⟩⟩
   ·exact aq _ _ ⟨Ext.refl _,.inr ⟨rfl,.inr bc⟩⟩
 rintro _ aa ⟨ai,bd⟩;have aH:ad (bj g gs A) w aa:=aO.trans (ai.O _);have av:=aQ.ext ai;rcases bd with⟨rfl,ba,st,ah,ac,aF⟩|⟨rfl,be⟩
 rotate_left
 ·rw[aP];rcases be with⟨st,ah,ao⟩|⟨aj,ao⟩
  ·rw[ao];exact⟨⟨aH,ah⟩,I,l,av,aE,by omega,fun q V=>by cases V;rfl⟩
  ·rw[ao];exact⟨⟨aH,aj⟩,I,l,av,aE,by omega,fun q V=>by cases V⟩
 rw[bC,dd,wrap_i64 (by omega) (by omega)];have bf:k-i=(k-(i+1))+1:=by omega
 rw[bf] at ac;refine (sL ah).mono ?_;rintro _ aw _ ⟨⟨ax,ay⟩,n,at_,rfl,bg,bN⟩;rw[aD (v:=.int .i64 n) rfl,aD (v:=.int .i64 at_) rfl];have aS:∀ r,leads out r→¬bj g gs A r:=fun r ae bh=>by have:=aN r bh;have:=aE r ae;omega
 have bO:∀ r,g=r→bj g gs A r:=fun r h=>.inl h.symm;refine c3 (fun U=>ad (bj g gs A) aa U∧((∃ Y,cK U g gs A B Y clean∧ch (iw m) (k-(i+1)) (l++[n]) Y=ee m k s∧l.length+1+Y.toks.length≤100000)∨(dG U g gs A B∧ee m k s=none))∧l.length+1≤100001) ?_ ?_
 ·rintro U ⟨aT,bi,aU⟩;have bk:=a6 av aT aS;have aV:=aH.trans aT;have bP:=aV.size;refine dx au.u ak.i rfl fun a aW aX bQ al bl=>?_;refine hb au.u ak.i rfl (bk.ext al) bl.ls (by simp;omega) (by simp;omega) fun bm bo bp bR bq aJ=>?_;have bS:=al.size;rw[aI,wrap_i64 (by omega) (by omega)];have br:ad (bj g gs A) w bp:=fB (aV.trans (al.O _)) aJ fun r ae he=>by have he:r=I:=he;omega
  have aZ:∀ r,bj g gs A r→¬(fun r=>r=I) r:=fun r ae he=>by have:=aN r ae;have he:r=I:=he;omega
  have a1:∀ r,b3 g gs A B r→¬(fun r=>r=I) r:=fun r ae he=>by have:=a7 r ae.2;have he:r=I:=he;omega
  refine⟨⟨i+1,rfl,by omega,br,bo,l++[n],bq,by omega,by simp;omega,?_⟩,by simp only[bB];omega⟩;rcases bi with⟨Y,aA,bt,bT⟩|⟨bu,aG⟩
  ·exact .inl ⟨Y,(aA.ext al).O aJ aZ a1,bt,by simp;omega⟩
  ·exact .inr ⟨(bu.ext al).O aJ aZ a1,aG⟩
 ·intro bU aK;cases V:aY 0 (m-1) st with
  |none=>
   rw[V] at ay;have aj:dG aw g gs A B:=ay;have ap:iw m l st=none:=by unfold iw;rw[V]
   have ao:ee m k s=none:=by rw[←ac];exact mN ap
   refine aM (fun v U=>Ext aw U∧v= .bool false) ?_ ?_
   rotate_left
   ·intro bw aL;refine (lB aj).mono ?_;rintro _ U _ ⟨rfl,W⟩;rw[aP];exact aL _ _ ⟨W,rfl⟩
   rintro _ U ⟨W,rfl⟩;rw[aP];exact aK _ ⟨ax.trans (W.O _),.inr ⟨aj.ext W,ao⟩,by omega⟩
  |some q=>
   obtain⟨bm,Y⟩:=q;have bx:=bg _ V;subst bx;rw[V] at ay;have a2:cK aw g gs A B Y clean:=ay;have bz:=c6 V;have aU:l.length+1+Y.toks.length≤100000:=by have:=bz.1;omega
   refine aM (fun v U=>Ext aw U∧v= .bool (decide (n∈l))) ?_ ?_
   rotate_left
   ·intro bw aL;refine (mM a2).mono ?_;rintro _ U _ ⟨rfl,W⟩;rw[bC];refine (Ff ((a6 av ax aS).ext W).ls).mono ?_;rintro _ aX _ ⟨rfl,al⟩;exact aL _ _ ⟨W.trans al,rfl⟩
   rintro _ U ⟨W,rfl⟩;have aA:=a2.ext W;rw[ab];refine⟨fun bA=>?_,fun bD=>?_⟩
   ·have ap:iw m l st=none:=by unfold iw;rw[V];simp only;rw[if_pos bA]
    refine (qi aA (by omega)).mono ?_;rintro _ aX _ ⟨bE,bF⟩;exact aK _ ⟨(ax.trans (W.O _)).trans (bE.mono fun r _ h=>.inl h),.inr ⟨bF,by rw[←ac];exact mN ap⟩,by omega⟩
   ·have ap:iw m l st=some (n,Y):=by unfold iw;rw[V];simp only;rw[if_neg bD]
    exact aK _ ⟨ax.trans (W.O _),.inl ⟨Y,aA,by rw[←ac];exact (qm ap).symm,aU⟩,by omega⟩
def ix (k:Int):Option Int→Int
 |none=>0
 |some x=>if x % 5=0 then k else (x / 5) % (k+1)
def gK (s:List Int) (k:Int) (l:List Int):List Int:=(X7 (aE s).toNat).map fun i=>ix k l[i]?
theorem qn (s:List Int) (k:Int) (l:List Int):(gK s k l).length=(aE s).toNat:=by simp[gK]
theorem xJ (I:0≤k) (o:Option Int):0≤ix k o∧ix k o≤k:=by
 cases o with
 |none=>simp[ix];exact I
 |some x=>
  simp only[ix];split
  ·omega
  ·have h1:=Int.emod_nonneg (x / 5) (show k+1≠0 by omega);have J:=Int.emod_lt_of_pos (x / 5) (show 0<k+1 by omega);omega
theorem xK {aH:x1} {s:List Int} (h:aB .i64 w sv s) (ao:bD s) (ap:aB .u16 w aH l) (aX:∀ x∈l,0≤x∧x<65536) (bi:0≤k∧k≤4294967296):
  af x3 rT [sv,.int .i64 k,aH] w fun v w'=>Ext w w'∧ ∃ g aG,v= .agg #[sv,.int .i64 k,aG]∧w.heap.size≤g∧am .i64 ak w' g aG (gK s k l):=by
 have aJ:=h.cells;have bj:=prod_bound ao;refine az func88 ?_;refine bu dk.i fun aY J bk aK ag=>?_;rw[cH (cs:=#[sv,.int .i64 k,.slice none 0 0]) (by
  obtain⟨_,_,_,_,_,rfl,_⟩:=h;kernel_rfl)]
 refine bu dk.i fun a1 bm bn aq aN=>?_;have bo:=aK.size;have bp:=aq.size;have bq:=ag.lt;have br:=aN.lt;refine bN (vs:=[sv,.int .i64 k,.slice none 0 0]) dk.i rfl rfl (by intro u hu;simp at hu;rcases hu with rfl|rfl|rfl;exact aJ.2;rfl;rfl) aN fun ah aO bt aP=>?_;have aQ:Ext w ah:=(aK.trans aq).then aO (by rintro r av rfl;omega);have aR:=(ag.ext aq).O aO (by omega);have bx:=aR.lt;have bz:=aP.lt;have bA:=aQ.size;refine bJ.range (aE s).toNat (fun i U=>Ext w U∧ah.heap.size≤U.heap.size∧ ∃ aG W,ah.heap.size≤W∧ae U a1 dk [sv,.int .i64 k,aG]∧
  am .i64 ak U W aG ((X7 i).map fun i=>ix k l[i]?)∧ae U aY dk [.slice none 0 0,.int .i64 0,.slice none 0 0]) (by omega)
  ⟨aQ,o7 _,_,ah.heap.size,o7 _,aP,am.nil _ _ _ _,aR⟩ ?_ ?_
 ·rintro i U a2 hi ⟨Y,a6,aG,W,a7,aw,ai,ax⟩ ba;refine (sk (h.ext Y) ao).mono ?_;rintro _ aS _ ⟨rfl,I⟩;simp only[an,ab];refine⟨fun _=>?_,fun h=>by omega⟩;have aj:=Y.trans I;have bB:=I.size;refine aM (fun c ay=>aS=ay∧c= .int .i64 (ix k l[i]?)) ?_ ?_
  ·rintro _ _ ⟨rfl,rfl⟩;have aT:=aw.ext I;rw[V dk.p rfl,aa (by kernel_rfl) (aT.cell (o:=0+2) rfl)];refine dx au.u ak.i rfl fun a aW ay bC ac bb=>?_;have bE:=ac.size;refine hb au.u ak.i rfl ((ai.ext I).ext ac) bb.ls (by simp;omega) (by simp;omega) fun bc bd bF bG aA al=>?_;have be:=(aT.ext ac).O al (by omega);have bH:=al.size;rw[V dk.p rfl];refine bl au.i aA.ls.cells.1 aA.ls.cells.2 be (by simp) fun bI aC bK bf=>?_;simp only[aI];refine ba _ ⟨((aj.trans ac).then al (by rintro r av rfl;omega)).then aC (by rintro r av rfl;omega),by omega,bc,bd,by omega,bf,?_,(((ax.ext I).ext ac).O al (by omega)).O aC (by omega)⟩;rw[List.range_succ,b6];exact aA.O aC (by omega)
  ·intro bL aD;rw[aL kz.u (ap.ext aj)];simp only[an,ab];refine⟨fun bM=>?_,fun bO=>aD _ _ ⟨rfl,by rw[Z9 (by omega)];rfl⟩⟩;obtain⟨x,ad⟩:∃ x,l[i]? =some x:=⟨_,y0 (by omega)⟩;have aU:=aX x (x5 ad);rw[aZ kz.u kC.i (by kernel_rfl) (ap.ext aj) ad,nG (by decide),e1 kC.u ak.u];have bg:x.tdiv 5=x / 5:=Int.tdiv_eq_ediv_of_nonneg aU.1;rw[bg,wrap_u16 (by omega) (by omega),wrap_i64 (by omega) (by omega)];simp only[aI];rw[wrap_i64 (x:=k+1) (by omega) (by omega),ik (by omega),Int.tmod_eq_emod_of_nonneg (by omega),
    aZ kz.u kC.i (by kernel_rfl) (ap.ext aj) ad,ik (by decide),Int.tmod_eq_emod_of_nonneg aU.1]
   simp only[a8,ab];exact⟨fun aF=>aD _ _ ⟨rfl,by rw[ad];simp[ix,aF]⟩,fun aF=>aD _ _ ⟨rfl,by rw[ad];simp[ix,aF]⟩⟩
 ·rintro U a2 ⟨Y,a6,aG,W,a7,aw,ai,ax⟩;refine (sk (h.ext Y) ao).mono ?_;rintro _ aS _ ⟨rfl,I⟩;simp only[an,ab];refine⟨fun h=>by omega,fun _=>?_⟩;have bh:=ai.ls.cells;rw[bw dk.p dk.i rfl (aw.ext I).range];refine bN (vs:=[sv,.int .i64 k,aG]) dk.i rfl rfl (by intro u hu;simp at hu;rcases hu with rfl|rfl|rfl;exact aJ.2;rfl;exact bh.2) (ax.ext I) fun ay aV bP ag=>?_;rw[ez dk.p dk.i rfl ag.range];exact⟨(Y.trans I).then aV (by rintro r av rfl;omega),W,aG,rfl,by omega,(ai.ext I).O aV (by omega)⟩
theorem Fh {s t:List Int} (J:dC s):mF (bm s) t=match bX s t 0 with
  |some n=>n
  |none=>-1:=by
 unfold mF;cases I:(bm s).findIdx? (fun x=>decide (x=t)) with
 |none=>
  cases hi:bX s t 0 with
  |none=>rfl
  |some n=>
   have:=nX J hi;rw[List.findIdx?_eq_none_iff] at I;have:=I t (x5 this);simp at this
 |some i=>
  rw[List.findIdx?_eq_some_iff_getElem] at I;obtain⟨hi,h1,_⟩:=I;have h1:(bm s)[i]=t:=by simpa using h1
  have:=p9 J (i:=i) (t:=t) (by rw[y0 hi,h1]);rw[this]
theorem sM {a b:Int} (I:0≤a∧a≤4294967296) (J:0≤b∧b≤4294967296):af x3 B3 [.int .i64 a,.int .i64 b,.int .i64 k] w fun v w'=>v= .int .i64 (min (a+b) k)∧Ext w w':=by
 refine az func81 ?_;simp only[aI,bA,ab];rw[wrap_i64 (by omega) (by omega)];exact⟨fun h=>⟨by rw[Int.min_eq_right (by omega)],Ext.refl _⟩,fun h=>⟨by rw[Int.min_eq_left (by omega)],Ext.refl _⟩⟩
def n5 (a b k:Int):x1:=if cA a k∧cA b k then .tuple #[.int .i64 (min (a+b) k),.int .i64 0] else .tuple #[.int .i64 0,.int .i64 3]
theorem xL {a b:Int}:af x3 rS [.int .i64 a,.int .i64 b,.int .i64 k] w fun v w'=>v=n5 a b k∧Ext w w':=by
 refine az func80 ?_;refine aM (fun v J=>Ext w J∧v= .bool (decide (¬(cA a k∧cA b k)))) ?_ ?_
 ·rintro _ J ⟨I,rfl⟩;simp only[ab,aI,hD];refine⟨fun h=>⟨by unfold n5;rw[if_neg h],I⟩,fun h=>?_⟩;have h:=Y9.1 h;obtain⟨⟨h1,Y⟩,aa,ac⟩:=id h;have:=h1.2;rw[wrap_i64 (by omega) (by omega)];exact⟨by unfold n5;rw[if_pos h],I⟩
 ·intro ad O;refine jW.mono ?_;rintro _ ae _ ⟨rfl,U⟩;simp only[bc,br];refine⟨fun h=>O _ _ ⟨U,?_⟩,fun h=>?_⟩
  ·have:¬cA a k:=by simpa using h
   rw[decide_eq_true];exact fun h=>this h.1
  ·have V:cA a k:=by simpa using h
   refine jW.mono ?_;rintro _ ag _ ⟨rfl,W⟩;simp only[bc];exact O _ _ ⟨U.trans W,by simp[V]⟩
theorem Fi (h:aB .i64 w sv l) (V:l≠[]):
  af x3 Dx [sv] w fun v w'=>v= .int .i64 (sD l)∧Ext w w':=by
 obtain⟨x,l,rfl⟩:∃ x r,l=x::r:=by cases l with
  |nil=>exact absurd rfl V
  |cons x r=>exact⟨x,r,rfl⟩
 have W:=h.le;refine az func295 ?_;refine c3 (fun J=>w=J) ?_ ?_
 ·rintro _ rfl;rw[dt (y:=0) (i:=0) rfl au.u ak.i (by kernel_rfl) h (by rfl)];refine⟨fun m i O=>Ext w O∧ ∃ k:Nat,i= .int .i64 (k+1:Nat)∧k≤l.length∧m= .int .i64 ((l.take k).foldl min x),fun _ i _=>l.length+1-(bB i).toNat,⟨Ext.refl _,0,rfl,Y7 _,rfl⟩,?_⟩;rintro _ _ O ⟨I,k,rfl,aa,rfl⟩;rw[aL au.u (h.ext I)];simp only[j4,an,ab] at W ⊢;refine⟨fun ac=>?_,fun ad=>⟨?_,I⟩⟩
  ·obtain⟨y,U⟩:∃ y,l[k]? =some y:=⟨_,y0 (by omega)⟩;rw[aZ au.u ak.i (by kernel_rfl) (h.ext I) (show (x::l)[k+1]? =some y from U),hD];simp only[aI];rw[wrap_i64 (by omega) (by omega)];refine⟨⟨I,k+1,by congr 1,by omega,?_⟩,?_⟩
   ·rw[u9,U,List.foldl_append];rfl
   ·simp only[bB];omega
  ·have:k=l.length:=by omega
   subst this;rw[o9];rfl
 ·intro ae Y;rw[aL au.u h];simp only[an,ab];exact⟨fun h=>by simp at h;omega,fun _=>Y _ rfl⟩
theorem sN {g I:Nat} {cs:List Int} (h:cB w g I sv szs k cs):af x3 rZ [.pointer (some ⟨g,0,none⟩)] w fun v w'=>v= .int .i64 k∧Ext w w':=by
 obtain⟨⟨aG,gs,J,hm,O⟩,_⟩:=h;refine az func139 ?_;rw[cI dM.u];simp only[Z1,aP];rw[aw,V cD.p rfl,aa (by kernel_rfl) (J.cell (o:=0+1) rfl)];exact⟨rfl,Ext.refl _⟩
theorem kN {g J:Nat} {cs:List Int} (h:cB w g J sv szs k cs):
  af x3 Ct [.pointer (some ⟨g,0,none⟩)] w fun v w'=>Ext w w'∧ ∃ I,w.heap.size≤I∧am .i64 ak w' I v cs:=by
 obtain⟨⟨aG,gs,O,hm,U⟩,⟨_,_,W⟩,Y,ab⟩:=h;refine az func164 ?_;rw[cI dM.u];simp only[Z1,aP];rw[aw,V cD.p rfl,aa (by kernel_rfl) (O.cell (o:=0+2) rfl)];exact sm U.ls (by omega)
theorem lC {g U:Nat} {cs:List Int} (h:cB w g U sv szs k cs):
  af x3 Cl [.pointer (some ⟨g,0,none⟩)] w fun v w'=>v= .agg #[sv]∧Ext w w':=by
 obtain⟨⟨aG,gs,W,hm,ad⟩,_⟩:=h;have Y:=hm.ls.cells;refine az func140 ?_;refine bu bg.i fun ae J ag O aa=>?_;rw[cI dM.u];simp only[Z1,aP];rw[aw,V cD.p rfl,bw (cs:=[sv]) bg.p bg.i rfl (lp (W.ext O) (by
  intro j v I
  match j,I with
  |0,I=>exact I))]
 refine bN (vs:=[sv]) bg.i rfl rfl (by intro u hu;simp at hu;subst hu;exact Y.2) aa fun ah ab ai ac=>?_;rw[ez bg.p bg.i rfl ac.range];exact⟨rfl,O.then ab (by rintro r aj rfl;omega)⟩
theorem sO (h:aB .i64 w sv szs) (ab:szs.length≤1000):af x3 vO [.agg #[sv]] w fun v w'=>Ext w w'∧ ∃ I,w.heap.size≤I∧am .i64 U w' I v szs:=by
 refine az func141 ?_;refine bL fun g J ac O W=>?_;rw[V bg.p rfl,aa (by kernel_rfl) (W.cell (o:=0+0) rfl)];refine (hc (h.ext O) (by omega)).mono ?_;rintro v ad _ ⟨Y,I,ae,hm⟩;have ag:=O.size;exact⟨O.trans Y,I,by omega,hm⟩
theorem xM (h:aB .i64 w sv szs):af x3 Du [.agg #[sv]] w fun v w'=>v= .int .i64 szs.length∧Ext w w':=by
 refine az func284 ?_;refine bL fun g J U I O=>?_;rw[V bg.p rfl,aa (by kernel_rfl) (O.cell (o:=0+0) rfl),aL ac.u (h.ext I)];exact⟨rfl,I⟩
def gn (szs:List Int) (i:Int):Int:=if 0≤i then szs.getD i.toNat 0 else 0
theorem n7 {i:Int} (h:aB .i64 w sv szs):af x3 Dv [.agg #[sv],.int .i64 i] w fun v w'=>v= .int .i64 (gn szs i)∧Ext w w':=by
 refine az func285 ?_;refine bL fun g J ag I O=>?_;refine aM (fun v ad=>v= .bool (decide (i<0∨(szs.length:Int)≤i))∧J=ad) ?_ ?_
 ·rintro _ _ ⟨rfl,rfl⟩;simp only[ab];refine⟨fun h=>⟨?_,I⟩,fun ae=>?_⟩
  ·unfold gn;split
   ·rw[u4,Z9 (by omega)];rfl
   ·rfl
  ·rw[V bg.p rfl,aa (by kernel_rfl) (O.cell (o:=0+0) rfl)];obtain⟨n,rfl⟩:∃ n:Nat,i=n:=⟨i.toNat,by omega⟩;have W:n<szs.length:=by omega
   rw[aZ ac.u U.i (by kernel_rfl) (h.ext I) (y0 W)];refine⟨?_,I⟩;unfold gn;rw[if_pos (by omega),u4,Z3,y0 W];rfl
 ·intro ah Y;simp only[an,ab];refine⟨fun h=>Y _ _ ⟨by rw[decide_eq_true];omega,rfl⟩,fun ae=>?_⟩;rw[V bg.p rfl,aa (by kernel_rfl) (O.cell (o:=0+0) rfl),aL ac.u (h.ext I)];simp only[cm];exact Y _ _ ⟨by congr 1;simp;omega,rfl⟩
theorem sP {g B0:Nat} (Y:bD szs):
  nu x3 jM [.pointer (some ⟨g,0,none⟩)] (aE szs).toNat (fun k vs w=>∃ aA O,vs=[.int .i64 (k:Int),aA]∧B0≤O∧am .i64 U w O aA (ct szs k))
   (fun w=>ae w g bg [sv]∧aB .i64 w sv szs∧B0≤w.heap.size):=by
 refine⟨jM.enters,fun l aj aH w af _ ak ⟨ag,ah,al⟩ ao=>?_⟩;have aJ:=prod_bound Y;refine sd func187 ?_;rw[bw bg.p bg.i rfl ag.range];refine (mw ah Y).free.mono ?_;rintro _ J ⟨ap,rfl,V⟩;refine bJ.range (aE szs).toNat (fun i I=>aj i I∧ae I g bg [sv]∧aB .i64 I sv szs∧B0≤I.heap.size) (by omega) ⟨af 0 _ _ V ap.b ao,ag.ext V,ah.ext V,W7 al V.size⟩ ?_ ?_
 ·rintro i I k hi ⟨aa,ac,ad,ai⟩ aq;simp only[an,ab];refine⟨fun _=>?_,fun h=>by omega⟩;rw[bw bg.p bg.i rfl ac.range];refine (D5 ad Y (by omega) (by omega)).free.mono ?_;rintro _ au ⟨av,W,aA,O,rfl,aw,ax⟩;rw[aD (v:=aA) rfl,aD (v:=.int .i64 0) rfl];refine⟨rfl,(ak i _ au hi ⟨ac.ext W,ad.ext W,W7 ai W.size⟩ ⟨aA,O,rfl,W7 ai aw,ax⟩ (af _ _ _ W av.b aa)).mono ?_⟩;rintro _ aK (⟨rfl,⟨ay,az,aC⟩,aF⟩|⟨rfl,aG⟩)
  ·simp only[bc,Y4,aP,aI];exact aq _ ⟨aF.1,ay,az,aC⟩
  ·simp only[bc,X4,bC];exact .inr ⟨i,hi,aG⟩
 ·rintro I k ⟨aa,ac,ad,_⟩;simp only[an,ab];exact⟨fun h=>by omega,fun _=>.inl aa⟩
theorem sQ:af x3 Ca [.agg #[sv]] w fun r w'=>Ext w w'∧ ∃ g,r= .func (.func jM) #[] #[.pointer (some ⟨g,0,none⟩)]∧w.heap.size≤g∧ae w' g bg [sv]:=by
 refine az func121 ?_;refine bL fun g J U I O=>?_;rw[lf];exact⟨I,g,rfl,by omega,O⟩
end Go.Proofs.YtgbkinibgjmodaaGreatDoor
namespace Go.Vc
open Go Go.RowKit
set_option maxRecDepth 100000
section
variable {P:X5} {w:x2}
theorem ax.dc {α:Type} {s:Sem α} {K:α→x2→Prop} (h:ax P s w fun v w'=>cP w w'→K v w'):ax P s w K:=by
 obtain⟨v,w',h1,I,J⟩:=h;exact⟨v,w',h1,I,J I⟩
structure Keys (P:X5) (k:r8) (G:x1→Prop):Prop where
 check:∀ (w:x2) (em:Bool) {v:x1},G v→(Instr.checkKey em 10000 k v).run P w= .ok () w
 find:∀ (w:x2) {x:x1},G x→ ∀ es:List MapEntry,(∀ e∈es,G e.key)→
  ((Instr.findKey k x es).run P w= .ok none w∧ ∀ e∈es,e.key≠x)∨ ∃ j e,(Instr.findKey k x es).run P w= .ok (some (j,e.val)) w∧es[j]? =some e∧e.key=x
 stays:∀ (w:x2) {v:x1},G v→(Instr.keyThatStays v v).run P w= .ok v w
theorem Keys.law {k:r8} (K:WideMaps.KeyLaw P k):Keys P k fun v=>∃ l,keyOf P k v=some l:=
 ⟨fun w I _ ⟨_,h⟩=>K.check w I h,fun w _ ⟨_,h⟩ J O=>K.find w h J O,fun w _ ⟨_,h⟩=>K.stays w h⟩
theorem Keys.int {k:r8} {I:o4} (J:P.underlying k=some (.int I)):Keys P k fun v=>∃ n,v= .int I n:=by
 have key:∀ n,MapKept.IsKey (.int I) (.int I n):=fun n=>rfl;refine⟨fun w U v ⟨n,h⟩=>?_,fun w x ⟨n,h⟩ V W=>?_,fun w v ⟨n,h⟩=>?_⟩
 ·subst h;exact MapKept.run_checkKey J (key n) U 9999
 ·subst h;rcases MapKept.findNow_spec (key n) V 0 (fun e he=>by obtain⟨m,h⟩:=W e he;rw[h];exact key m) with⟨h1,O⟩|⟨j,e,h1,O,Y⟩
  ·exact .inl ⟨MapKept.run_findKey J h1,O⟩
  ·exact .inr ⟨j,e,by have:=MapKept.run_findKey (P:=P) (w:=w) J h1;simpa using this,O,Y⟩
 ·subst h;exact MapKept.run_keyThatStays (d:=.int I) (key n)
def ft (e:MapEntry):x1×x1:=(e.key,e.val)
def cC (w:x2) (m:Nat) (d:List (x1×x1)):Prop:=∃ I J,w.heap[m]? =some (.map I J)∧MapKept.Stamped I J∧I.toList.map ft=d
theorem cC.ext {d:List (x1×x1)} (h:cC w m d) (I:Ext w w'):cC w' m d:=by
 obtain⟨J,c,h1,O⟩:=h;exact⟨J,c,I.ba m _ h1 rfl,O⟩
theorem cC.O {d:List (x1×x1)} (h:cC w m d) (I:ad S w w') (J:¬S m):cC w' m d:=by
 obtain⟨U,c,h1,V⟩:=h;exact⟨U,c,I.ba m _ h1 rfl J,V⟩
theorem cC.lt {d:List (x1×x1)} (h:cC w m d):m<w.heap.size:=by
 obtain⟨I,c,h1,J⟩:=h;exact (l7.1 h1).1
theorem cC.nodup {d:List (x1×x1)} (h:cC w m d):(d.map (·.1)).Nodup:=by
 obtain⟨J,c,_,⟨_,_,I⟩,rfl⟩:=h;rw[List.map_map];exact I
theorem iy {α:Type} {l:List α} (h:l.Nodup) {i:Nat} {x:α} (hi:l[i]? =some x) (V:l[j]? =some x):i=j:=by
 have I:=x4.1 hi;have J:=x4.1 V;have U:=V3.1 h;rcases Nat.lt_trichotomy i j with O|rfl|O
 ·exact absurd (I.2.trans J.2.symm) (U i j I.1 J.1 O)
 ·rfl
 ·exact absurd (J.2.trans I.2.symm) (U j i J.1 I.1 O)
theorem kO {α β:Type} (f:α→β):∀ (l:List α) (i:Nat),(l.map f).eraseIdx i=(l.eraseIdx i).map f
 |[],_=>by simp
 |_::_,0=>rfl
 |x::l,i+1=>by simp[kO f l i]
theorem cC.uniq {d:List (x1×x1)} (h:cC w m d) {i:Nat} {p q:x1×x1} (hi:d[i]? =some p) (I:d[j]? =some q) (he:p.1=q.1):i=j:=by
 have J:=h.nodup;have h1:(d.map (·.1))[i]? =some p.1:=by rw[x8,hi];rfl
 have O:(d.map (·.1))[j]? =some p.1:=by rw[x8,I,he];rfl
 exact iy J h1 O
theorem qo {aa:Array MapEntry} {c:Nat} (V:w.heap[m]? =some (.map aa c)) (I:Array MapEntry) (J:Nat):
  ad (fun r=>r=m) w {w with heap:=w.heap.setIfInBounds m (.map I J)}∧cP w {w with heap:=w.heap.setIfInBounds m (.map I J)}∧({w with heap:=w.heap.setIfInBounds m (.map I J)}:x2).heap[m]? =some (.map I J):=by
 have U:=MapKept.heap_set (o':=.map I J) V;refine⟨⟨by simp,fun r o O W ab=>?_⟩,⟨rfl,.iN,rfl,by simp,fun r o O W=>?_⟩,U.1⟩
 ·show (w.heap.setIfInBounds m _)[r]? =some o;rw[U.2 r ab];exact O
 ·show (w.heap.setIfInBounds m _)[r]? =some o;by_cases Y:r=m
  ·subst Y;rw[V] at O;cases O;cases W
  ·rw[U.2 r Y];exact O
theorem qp {K:x1→x2→Prop} (h:∀ m w',m=w.heap.size→Ext w w'→cC w' m []→K (.map (some m)) w'):ax P (Instr.makeMap t none) w K:=by
 refine .of (run_makeMap t w) (mf w _) (h _ _ rfl (me w _) ⟨#[],0,?_,MapKept.stamped_empty 0,rfl⟩);exact heap_alloc_new w _
variable {k e:r8} {G:x1→Prop}
theorem n8 {c:Bool} {d:List (x1×x1)} {x:x1} (ab:P.underlying t=some (.map k e)) (V:Keys P k G) (hm:cC w m d) (ac:∀ p∈d,G p.1) (W:G x) (J:d[j]? =some (x,v)):
  I P (Instr.lookup t (.map (some m)) x c) w K=K (if c then .tuple #[v,.bool true] else v):=I.of fun w' ad=>by
 obtain⟨O,ae,Y,af,rfl⟩:=hm.ext ad;have ag:∀ e∈O.toList,G e.key:=fun e he=>ac (ft e) (j5.2 ⟨e,he,rfl⟩);rcases V.find w' W O.toList ag with⟨_,U⟩|⟨i,aa,h1,U,ah⟩
 ·rw[x8] at J;obtain⟨ai,aj,ak⟩:=Y1.1 J;exact absurd (congrArg Prod.fst ak) (U ai (x5 aj))
 ·have al:aa.val=v:=by
   have hi:(O.toList.map ft)[i]? =some (ft aa):=by rw[x8,U];rfl
   have am:cC w' m (O.toList.map ft):=⟨O,ae,Y,af,rfl⟩;have:=am.uniq hi J ah;subst this;rw[hi] at J;exact congrArg Prod.snd (b9 J)
  simp only[Instr.lookup,X2,run_underlying ab,X3,MapKept.run_getObj_map Y,X8,V.check w' _ W,h1,al]
theorem qq {c:Bool} {d:List (x1×x1)} {x:x1} (aa:P.underlying t=some (.map k e)) (O:Keys P k G) (J:∃ s b,aJ P e s b z) (hm:cC w m d) (ab:∀ p∈d,G p.1) (U:G x) (ac:∀ p∈d,p.1≠x):
  I P (Instr.lookup t (.map (some m)) x c) w K=K (if c then .tuple #[z,.bool false] else z):=I.of fun w' ad=>by
 obtain⟨V,ai,ae,aj,rfl⟩:=hm.ext ad;have af:∀ e∈V.toList,G e.key:=fun e he=>ab (ft e) (j5.2 ⟨e,he,rfl⟩);have ag:(zeroValue e).run P w'= .ok z w':=by
  obtain⟨s,b,i,hi,_,_,J⟩:=J;simp[zeroValue,typeInfo,hi,J]
 rcases O.find w' U V.toList af with⟨h1,W⟩|⟨i,Y,h1,W,ah⟩
 ·simp only[Instr.lookup,X2,run_underlying aa,X3,MapKept.run_getObj_map ae,X8,O.check w' _ U,h1,ag]
 ·exact absurd ah (ac (ft Y) (j5.2 ⟨Y,x5 W,rfl⟩))
theorem Fj {I:Array MapEntry} {J:MapEntry} {f:MapEntry→MapEntry} (h:I[j]? =some J):(I.modify j f).toList.map ft=(I.toList.map ft).set j (ft (f J)):=by
 refine Y8 fun i=>?_;simp only[x8,T5,Array.getElem?_modify,Y5,u5,Array.length_toList];by_cases O:j=i
 ·subst O;have:=(l7.1 h);simp[this.1,this.2]
 ·simp[O]
theorem oa {d:List (x1×x1)} {x:x1} {K:Unit→x2→Prop} (ae:P.underlying t=some (.map k e)) (O:Keys P k G) (hm:cC w m d) (aj:∀ p∈d,G p.1) (U:G x)
  (h1:∀ j v0 w',d[j]? =some (x,v0)→cC w' m (d.set j (x,v))→ad (fun r=>r=m) w w'→K () w')
  (ak:∀ w',(∀ p∈d,p.1≠x)→cC w' m (d++[(x,v)])→ad (fun r=>r=m) w w'→K () w'):ax P (Instr.mapUpdate t (.map (some m)) x v) w K:=by
 obtain⟨J,V,I,af,rfl⟩:=hm;have al:∀ e∈J.toList,G e.key:=fun e he=>aj (ft e) (j5.2 ⟨e,he,rfl⟩);rcases O.find w U J.toList al with⟨W,ag⟩|⟨i,ah,W,hi,he⟩
 ·obtain⟨Y,aa,ab⟩:=qo I (J.push {key:=x,val:=v,born:=V}) (V+1);refine .of (v:=()) (w':=_) ?_ aa (ak _ (fun p am=>?_) ⟨_,_,ab,MapKept.stamped_push af ag,by simp[ft]⟩ Y)
  ·simp only[Instr.mapUpdate,X2,run_underlying ae,X3,MapKept.run_getObj_map I,O.check w _ U,W,MapKept.run_setObj_map _ I]
  ·obtain⟨an,ao,rfl⟩:=j5.1 am;exact ag an ao
 ·have ac:J[i]? =some ah:=by simpa using hi
  obtain⟨Y,aa,ab⟩:=qo I (J.modify i fun e=>{e with key:=x,val:=v}) V;refine .of (v:=()) (w':=_) ?_ aa (h1 i ah.val _ (by rw[x8,hi];simp[ft,he]) ⟨_,_,ab,MapKept.stamped_modify af _ _ (fun _ _=>rfl) (fun ap _ ai=>by rw[ac] at ai;cases ai;exact he.symm),Fj ac⟩ Y);simp only[Instr.mapUpdate,X2,run_underlying ae,X3,MapKept.run_getObj_map I,O.check w _ U,W,ac,Z2,U7,he,O.stays w U,MapKept.run_setObj_map _ I]
theorem Fk {af ag:r8} {d:List (x1×x1)} {x:x1} {K:x1→x2→Prop} (ab:P.underlying t=some (.map k e)) (O:Keys P k G) (hm:cC w m d) (ah:∀ p∈d,G p.1) (U:G x)
  (h1:∀ j v0 w',d[j]? =some (x,v0)→cC w' m (d.eraseIdx j)→ad (fun r=>r=m) w w'→K (.tuple #[]) w')
  (ai:∀ w',(∀ p∈d,p.1≠x)→cC w' m d→ad (fun r=>r=m) w w'→K (.tuple #[]) w'):ax P (n0.delete_ #[t,af] ag #[.map (some m),x]) w K:=by
 obtain⟨J,ac,I,ae,rfl⟩:=hm;have aj:∀ e∈J.toList,G e.key:=fun e he=>ah (ft e) (j5.2 ⟨e,he,rfl⟩);rcases O.find w U J.toList aj with⟨V,ak⟩|⟨i,al,V,hi,he⟩
 ·obtain⟨W,Y,aa⟩:=qo I J ac;refine .of (v:=.tuple #[]) (w':=_) ?_ Y (ai _ (fun p am=>?_) ⟨_,_,aa,ae,rfl⟩ W)
  ·simp only[n0.delete_,List.getElem?_toArray,List.getElem?_cons_zero,List.getElem?_cons_succ,X2,run_underlying ab,X3,MapKept.run_getObj_map I,O.check w _ U,V,MapKept.run_setObj_map _ I,X8]
  ·obtain⟨an,ao,rfl⟩:=j5.1 am;exact ak an ao
 ·obtain⟨W,Y,aa⟩:=qo I (J.eraseIdxIfInBounds i) ac;refine .of (v:=.tuple #[]) (w':=_) ?_ Y (h1 i al.val _ (by rw[x8,hi];simp[ft,he]) ⟨_,_,aa,MapKept.stamped_erase ae _,by rw[kO];simp⟩ W);simp only[n0.delete_,List.getElem?_toArray,List.getElem?_cons_zero,List.getElem?_cons_succ,X2,run_underlying ab,X3,MapKept.run_getObj_map I,O.check w _ U,V,MapKept.run_setObj_map _ I,X8]
theorem Fl {d:List (x1×x1)} (O:P.underlying t=some (.map k e)) (hm:cC w m d):I P (Z5 #[t] J #[.map (some m)]) w K=K (.int .i64 d.length):=I.of fun w' U=>by
 obtain⟨W,Y,V,aa,rfl⟩:=hm.ext U;simp[Z5,run_underlying O,MapKept.run_getObj_map V,goInt]
def fW (w:x2) (V m:Nat) (d left:List (x1×x1)) (W:Option (x1×x1)):Prop:=∃ I J seen O,w.heap[m]? =some (.map I J)∧MapKept.Stamped I J∧I.toList.map ft=d∧
 w.heap[V]? =some (.mapIter (some m) J seen O)∧J≤O∧(leftOf I seen).toList.map ft=left∧ ∀ p,W=some p→O=J∧ ∃ U,I.toList.find? (fun e=>e.born == seen.back?.getD 0)=some U∧seen.back? =some U.born∧ft U=p
theorem fW.map {I:Nat} {d left:List (x1×x1)} {J:Option (x1×x1)} (h:fW w I m d left J):cC w m d:=by
 obtain⟨O,c,_,_,h1,U,V,_⟩:=h;exact⟨O,c,h1,U,V⟩
theorem fW.ba {I:Nat} {d left:List (x1×x1)} {J:Option (x1×x1)} (h:fW w I m d left J) (O:ad S w w') (hm:¬S m) (hi:eX w w'):fW w' I m d left J:=by
 obtain⟨U,c,s,V,h1,W,Y,aa,ab⟩:=h;exact⟨U,c,s,V,O.ba m _ h1 rfl hm,W,Y,hi I _ aa rfl,ab⟩
theorem fW.ext {I:Nat} {d left:List (x1×x1)} {J:Option (x1×x1)} (h:fW w I m d left J) (U:Ext w w') (hi:eX w w'):fW w' I m d left J:=
 h.ba (U.O fun _=>False) (fun h=>h) hi
theorem Fm (I:Array MapEntry):leftOf I #[]=I:=by
 unfold leftOf;exact Array.filter_eq_self.2 fun x J=>by simp
theorem xN {d:List (x1×x1)} {K:x1→x2→Prop} (V:P.underlying t=some (.map k e)) (hm:cC w m d)
  (h:∀ I w',I=w.heap.size→Ext w w'→eX w w'→fW w' I m d d none→K (.pointer (some ⟨I,0,none⟩)) w'):ax P (Instr.range t (.map (some m))) w K:=by
 obtain⟨O,J,U,W,rfl⟩:=hm;refine .of (run_range_map w t k e m O J V U) (mf w _) (h _ _ rfl (me w _) (mf w _).kY ⟨O,J,#[],J,(me w _).ba m _ U rfl,W,rfl,heap_alloc_new w _,o7 _,by rw[Fm],fun p Y=>by cases Y⟩)
theorem xO:∀ (l:List MapEntry) (j:Nat) (I:MapEntry),(l.map (·.born)).Nodup→l[j]? =some I→l.filter (fun x=>!(x.born == I.born))=l.eraseIdx j
 |[],j,I,_,h=>by simp at h
 |x::l,0,I,O,h=>by
  simp at h;subst h;have J:=List.nodup_cons.1 (by simpa using O:(x.born::l.map (·.born)).Nodup);simp only[List.filter_cons,beq_self_eq_true,Y4,Bool.false_eq_true,if_false,List.eraseIdx_cons_zero];refine List.filter_eq_self.2 fun y U=>?_;have:y.born≠x.born:=fun he=>J.1 (he▸j5.2 ⟨y,U,rfl⟩);simpa using this
 |x::l,j+1,I,O,h=>by
  simp at h;have J:=List.nodup_cons.1 (by simpa using O:(x.born::l.map (·.born)).Nodup);have V:x.born≠I.born:=fun he=>J.1 (he▸j5.2 ⟨I,x5 h,rfl⟩);have W:=xO l j I J.2 h;simp only[List.filter_cons,List.eraseIdx_cons_succ,W];simp[V]
theorem xP {free:eJ} {I:Nat} {d left:List (x1×x1)} {an:Option (x1×x1)} {K:x1→x2→Prop} (h:fW w I m d left an) (aa:free.1=false→free.2≤I)
  (ao:left=[]→K (.tuple #[.bool false]) w)
  (h1:∀ j p w',left[j]? =some p→Ext w w'→ci I w w'→fW w' I m d (left.eraseIdx j) (some p)→K (.tuple #[.bool true,p.1,p.2]) w'):pc P free (Instr.next (.pointer (some ⟨I,0,none⟩)) false 0) w K:=by
 obtain⟨U,V,seen,ap,ab,ad,rfl,hi,aq,rfl,_⟩:=h;have ah:∀ x∈U.toList,x.born<V:=ad.1;have ai:=ad.2.1;have aj:∀ x∈(leftOf U seen).toList,x.born<V:=fun x Y=>ah x (mem_left Y).1;have au:∀ (J:x2) (o':Obj),J.heap=w.heap→(setObj I o').run P J= .ok () {J with heap:=J.heap.setIfInBounds I o'}:=fun J o' he=>by
  simp only[setObj,Sem.run];rw[he,hi]
 unfold pc;simp only[Instr.next,getObj,X2,Sem.run,hi,ab,X3,next_test_false seen U V ap ah aq,Bool.false_eq_true,if_false];have av:Array.filter (fun e=>!seen.contains e.born) U=leftOf U seen:=rfl;rw[av];have aw:((leftOf U seen).toList.map (·.born)).Nodup:=by
  unfold leftOf;rw[Array.toList_filter];exact (List.Sublist.map _ List.filter_sublist).nodup ai
 have ax:∀ ac:MapEntry,leftOf U (seen.push ac.born)=(leftOf U seen).filter fun x=>!(x.born == ac.born):=fun ac=>by
  unfold leftOf;rw[Array.filter_filter];congr 1;funext x;rw[contains_push];cases seen.contains x.born <;> cases x.born == ac.born <;> rfl
 generalize ay:leftOf U seen=L at*;have az:L.filter (fun x=>decide (x.born<V))=L:=Array.filter_eq_self.2 (fun x Y=>by simpa using aj x (by simpa using Y));have aA:L.filter (fun x=>decide (x.born≥V))= #[]:=by
  rw[Array.filter_eq_empty_iff];intro x Y;have:=aj x (by simpa using Y);simp;omega
 simp only[az,aA,Array.append_empty];by_cases ak:L.size=0
 ·have aB:L= #[]:=Array.eq_empty_of_size_eq_zero ak;subst aB;refine⟨.tuple #[.bool false],w,?_,fun _=>ci.refl _ _,ao rfl⟩;simp[choose,Sem.run,Question.forced]
 ·have aC:L.isEmpty=false:=by simp[Array.isEmpty,ak]
  simp only[aC,Bool.false_eq_true,if_false,Array.empty_append,Array.size_map];have aD:∃ (j:Nat) (n:Nat),j<L.size∧w.drawn≤n∧(choose (Question.mapNext L.size)).run P w= .ok j {w with drawn:=n}:=by
   by_cases aa:L.size≤1
   ·exact⟨0,w.drawn,by omega,o7 _,by simp[choose,Sem.run,Question.forced,aa]⟩
   ·exact⟨_,w.drawn+1,Nat.mod_lt _ (by omega),Nat.le_succ _,by
     simp only[choose,Sem.run,Question.forced,decide_eq_true_eq,aa,if_false,Question.cut];rfl⟩
  obtain⟨j,n,ae,al,aE⟩:=aD;have am:L.toList[j]? =some L[j]:=by simp[ae]
  have aF:L[j]∈U.toList:=(mem_left (seen:=seen) (by rw[ay];exact Array.mem_toList_iff.2 (Array.getElem_mem ae))).1;refine⟨.tuple #[.bool true,L[j].key,L[j].val],{w with drawn:=n,heap:=w.heap.setIfInBounds I (.mapIter (some m) V (seen.push L[j].born) V)},?_,?_,?_⟩
  ·have aG:=au {w with drawn:=n} (.mapIter (some m) V (seen.push L[j].born) V) rfl;simp only[aE,Array.getElem?_map,Array.getElem?_eq_getElem ae,Z2,X2,aG,X3,X8]
  ·intro aH;have:=aa aH;refine⟨rfl,⟨rfl,al⟩,rfl,by simp,fun r o O af=>?_,fun r o aI O ag=>?_⟩
   ·show (w.heap.setIfInBounds I _)[r]? =some o;by_cases W:r=I
    ·subst W;rw[hi] at O;cases O;cases af
    ·rw[(MapKept.heap_set hi).2 r W];exact O
   ·show (w.heap.setIfInBounds I _)[r]? =some o;rw[(MapKept.heap_set hi).2 r (by omega)];exact O
  ·refine h1 j (ft L[j]) _ (by rw[x8,am];rfl) ⟨by simp,fun r o O ag=>?_⟩ ⟨rfl,⟨rfl,al⟩,rfl,by simp,fun r o O af=>?_,fun r o aI O ag=>?_⟩ ⟨U,V,seen.push L[j].born,V,?_,ad,rfl,?_,o7 _,?_,fun p aJ=>⟨rfl,L[j],?_,by simp,b9 aJ⟩⟩
   ·show (w.heap.setIfInBounds I _)[r]? =some o;by_cases W:r=I
    ·subst W;rw[hi] at O;cases O;cases ag
    ·rw[(MapKept.heap_set hi).2 r W];exact O
   ·show (w.heap.setIfInBounds I _)[r]? =some o;by_cases W:r=I
    ·subst W;rw[hi] at O;cases O;cases af
    ·rw[(MapKept.heap_set hi).2 r W];exact O
   ·show (w.heap.setIfInBounds I _)[r]? =some o;rw[(MapKept.heap_set hi).2 r (by omega)];exact O
   ·show (w.heap.setIfInBounds I _)[m]? =_;rw[(MapKept.heap_set hi).2 m (fun he=>by subst he;rw[hi] at ab;cases ab)];exact ab
   ·exact (MapKept.heap_set hi).1
   ·rw[ax,Array.toList_filter,xO _ _ _ aw am,kO]
   ·simp only[Array.back?_push,U7];exact find_born _ _ ai aF
theorem xQ {I:Nat} {d left:List (x1×x1)} {p:x1×x1} {K:x1→x2→Prop} (h:fW w I m d left (some p)) (U:K (.tuple #[p.1,p.2]) w):ax P (Instr.entry (.pointer (some ⟨I,0,none⟩))) w K:=by
 obtain⟨Y,aa,seen,ab,V,ac,rfl,hi,ad,rfl,W⟩:=h;obtain⟨rfl,J,h1,O,rfl⟩:=W p rfl;refine .of (v:=.tuple #[J.key,J.val]) (w':=w) ?_ (cP.refl _) U;rw[O] at h1;simp only[Instr.entry,getObj,X2,Sem.run,hi,V,X3,O,bne_self_eq_false,Bool.false_eq_true,if_false,←Array.find?_toList];simp only[U7] at h1;rw[h1];rfl
end
end Go.Vc
namespace Go.Proofs.YtgbkinibgjmodaaGreatDoor
open Go Go.Vc Go.RowKit Go.Proofs Go.Proofs.Tryz
set_option maxRecDepth 100000
def dm (ks:List Int):x1:=.agg (ints .i8 ks).toArray
def jf (ks:List Int):Prop:=ks.length=6∧ ∀ x∈ks,0≤x∧x<32
theorem Fo {b:List Int} (h:dm a=dm b):a=b:=by
 unfold dm at h;have h:ints .i8 a=ints .i8 b:=congrArg Array.toList (x1.agg.inj h);have e:∀ l:List Int,(ints .i8 l).map valOf=l:=fun l=>by
  unfold ints;rw[List.map_map];exact List.map_id l
 rw[←e a,←e b,h]
theorem xR (ks:List Int):(dm ks).cells.toList=ints .i8 ks:=by simp[dm,x1.cells]
theorem Fp:WideMaps.ArrKey x3 b2 eZ 6:=⟨b2.u,by kernel_rfl,by kernel_rfl,by kernel_rfl⟩
theorem keys:Keys x3 b2 fun v=>∃ l,keyOf x3 b2 v=some l:=Keys.law Fp.law
theorem sR (h:jf ks):∃ l,keyOf x3 b2 (dm ks)=some l:=by
 obtain⟨V,I⟩:=h
 match ks,V with
 |[a,b,c,d,e,f],_=>
  have W:=I a (by simp);have Y:=I b (by simp);have aa:=I c (by simp);have rd:=I d (by simp);have ab:=I e (by simp);have iN:=I f (by simp);have wf:∀ x:Int,0≤x∧x<32→(Lit.int .i8 x).wf=true:=fun x J=>by
   simp only[Lit.wf,V5,decide_eq_true_eq];have ah:o4.i8.min= -128:=by decide
   have ai:o4.i8.max=127:=by decide
   omega
  have O:decide (0<x3.types.size)=true:=by kernel_rfl
  have O:=of_decide_eq_true O;obtain⟨n,ac⟩:∃ n,x3.types.size=n+1:=⟨x3.types.size-1,by omega⟩;have one:∀ x:Int,0≤x∧x<32→x3.keyLits (n+1) eZ [.int .i8 x]=some [.int .i8 x]:=fun x J=>by
   unfold X5.keyLits;rw[eZ.u];simp[wf x J]
  unfold keyOf;rw[b2.u];simp only;have ad:x3.keyType b2=true:=by kernel_rfl
  have ae:x3.cellsOf eZ=1:=by kernel_rfl
  have U:x3.cellsOf b2=6:=by kernel_rfl
  have af:(dm [a,b,c,d,e,f]).formed x3 b2=true:=by
   unfold dm x1.formed;rw[b2.u,U];rfl
  rw[ad,af,xR,ac];simp only[Bool.and_self,if_true];unfold X5.keyLits;rw[b2.u];simp only[U,ae,ints];have ag:X7 6=[0,1,2,3,4,5]:=by decide
  simp[ag,one a W,one b Y,one c aa,one d rd,one e ab,one f iN]
def pad (t:List Int):List Int:=t++r9 (6-t.length) 0
theorem Fq {t:List Int} (O:t.length≤6) (I:∀ x∈t,0≤x∧x<32):jf (pad t):=
 ⟨by simp[pad];omega,fun x J=>by
  rcases n9.1 J with h|h
  ·exact I x h
  ·have:=(List.mem_replicate.1 h).2;omega⟩
theorem Fr {b:List Int} (I:a.length=b.length) (h:pad a=pad b):a=b:=by
 unfold pad at h;exact (List.append_inj h I).1
theorem xS {t:List Int}:(pad t).take t.length=t:=by simp[pad]
theorem lD {b o:Nat} (J:ks.length=6) (h:w.rangeAt b o (ints .i8 ks)):I x3 (x6 b2 (.pointer (some ⟨b,o,none⟩))) w K=K (dm ks):=
 wj b2.u rfl b2.i (by simp[J]) h
theorem Fs {b o:Nat} (J:ks.length=6) (h:w.rangeAt b o (ints .i8 ks)):I x3 (do loadVar b2 (←asAddr (.pointer (some ⟨b,o,none⟩)))) w K=K (dm ks):=I.of fun w' O=>by
 have:=run_loadVar_mid (P:=x3) w' b o b2 (ints .i8 ks) (.array 6 eZ) (nF O h) b2.u rfl (by rw[b2.i.size];simp[J]);simp only[asAddr,X2,X8,Result.andThen_ok,this];rfl
theorem ob {g:Nat} {K:Unit→x2→Prop} (I:ks.length=6) (J:cs.length=6) (O:ae w g b2 cs)
  (h:∀ w',ad (fun r=>r=g) w w'→w'.heap.size=w.heap.size→ae w' g b2 (ints .i8 ks)→K () w'):ax x3 (o3 b2 (.pointer (some ⟨g,0,none⟩)) (dm ks)) w K:=
 bN (vs:=ints .i8 ks) b2.i (by simp[I]) J (fun v U=>by obtain⟨x,_,rfl⟩:=j5.1 U;rfl) O h
def qs:List x1:=[.int .i8 0,.int .i8 0,.int .i8 0,.int .i8 0,.int .i8 0,.int .i8 0]
theorem Ft:af x3 pN [.int .i64 x] w fun v w'=>v= .bool (decide (¬gF x))∧Ext w w':=by
 refine az func244 ?_;simp only[be,an,bA,ab];refine⟨fun h=>⟨?_,Ext.refl _⟩,fun h=>⟨?_,Ext.refl _⟩⟩
 ·rw[decide_eq_true];intro I;have:=I.1;omega
 ·congr 1;have:(32<x)=(¬gF x):=propext ⟨fun J I=>by have:=I.2;omega,fun J=>by
   by_cases O:32<x
   ·exact O
   ·exact absurd ⟨by omega,by omega⟩ J⟩
  simp only[this]
theorem Fu (h:aB .i64 w sv l):
  af x3 r2 [sv,.func (.func pN) #[] #[]] w fun v w'=>Ext w w'∧ ∃ n:Int,v= .int .i64 n∧((0≤n)=¬∀ x∈l,gF x):=by
 have ag:=h.le;refine az func170 ?_;rw[aL ac.u h];refine⟨fun _ t J=>Ext w J∧ ∃ i:Nat,t= .int .i64 i∧i≤l.length∧ ∀ x∈l.take i,gF x,fun _ t _=>l.length-(bB t).toNat,⟨Ext.refl _,0,rfl,Y7 _,by simp⟩,?_⟩;rintro _ _ J ⟨O,i,rfl,hi,V⟩;simp only[an,ab];refine⟨fun ah=>?_,fun ai=>⟨O,-1,rfl,?_⟩⟩
 ·obtain⟨x,W⟩:∃ x,l[i]? =some x:=⟨_,y0 (by omega)⟩;rw[aZ ac.u U.i (by kernel_rfl) (h.ext O) W];show af x3 pN [.int .i64 x] J _;refine Ft.mono ?_;rintro _ aj _ ⟨rfl,Y⟩;simp only[ab,aI];refine⟨fun aa=>⟨O.trans Y,i,rfl,?_⟩,fun ad=>?_⟩
  ·exact propext ⟨fun _ ae=>aa (ae x (x5 W)),fun _=>by omega⟩
  ·rw[wrap_i64 (by omega) (by omega)];refine⟨⟨O.trans Y,i+1,rfl,by omega,fun y I=>?_⟩,?_⟩
   ·rw[u9,W] at I;rcases n9.1 I with I|I
    ·exact V y I
    ·simp at I;subst I;exact Y9.1 ad
   ·simp only[bB];omega
 ·have:i=l.length:=by omega
  rw[this,o9] at V;exact propext ⟨fun h=>by omega,fun h=>absurd V h⟩
theorem xT (h:aB .i64 w sv l):
  af x3 pK [sv,.func (.func pN) #[] #[]] w fun v w'=>v= .bool (decide (¬∀ x∈l,gF x))∧Ext w w':=by
 refine az func196 ?_;refine (Fu h).mono ?_;rintro _ J _ ⟨I,n,rfl,O⟩;simp only[cm];exact⟨by congr 1;simp only[O],I⟩
abbrev Told:=List (List Int×Int)
def hY (p:List Int×Int):x1×x1:=(dm (pad p.1),.int .i64 p.2)
def dO (w:x2) (g m:Nat) (szs:List Int) (k o:Int) (D:Told):Prop:=
 (∃ sv gs,ae w g eL [sv,.int .i64 k,.int .i64 o,.map (some m)]∧am .i64 U w gs sv szs)∧cC w m (D.map hY)∧bD szs∧cA o k∧ ∀ p∈D,cL szs p.1∧cA p.2 k∧p.2≠o
theorem dO.ext {g:Nat} {D:Told} (h:dO w g m szs k o D) (I:Ext w w'):dO w' g m szs k o D:=by
 obtain⟨⟨sv,gs,h1,J⟩,O,U⟩:=h;exact⟨⟨sv,gs,h1.ext I,J.ext I⟩,O.ext I,U⟩
theorem sS {t:List Int} (J:bD szs) (h:cL szs t):t.length=szs.length∧ ∀ x∈t,0≤x∧x<32:=by
 obtain⟨h1,O⟩:=lz.1 h;refine⟨h1.symm,fun x U=>?_⟩;obtain⟨i,hi,rfl⟩:=List.getElem_of_mem U;obtain⟨a,I⟩:∃ a,szs[i]? =some a:=⟨_,y0 (by omega)⟩;have V:=O i a _ I (y0 hi);have W:=(J.2 a (x5 I)).2;omega
theorem oc {t:List Int} (I:bD szs) (h:cL szs t):jf (pad t):=by
 obtain⟨h1,J⟩:=sS I h;exact Fq (by rw[h1];exact I.1) J
theorem dO.mO {g:Nat} {D:Told} (h:dO w g m szs k o D):∀ p∈D.map hY,∃ l,keyOf x3 b2 p.1=some l:=fun p I=>by
 obtain⟨q,J,rfl⟩:=j5.1 I;exact sR (oc h.2.2.1 (h.2.2.2.2 q J).1)
theorem xU {s t:List Int} (I:cL szs s) (J:cL szs t) (h:dm (pad s)=dm (pad t)):s=t:=
 Fr ((qa I).symm.trans (qa J)) (Fo h)
theorem dO.nodup {g:Nat} {D:Told} (h:dO w g m szs k o D):(D.map (·.1)).Nodup:=by
 have I:=h.2.1.nodup;rw[List.map_map] at I;refine List.Pairwise.of_map (S:=fun a b=>a≠b) (fun t=>dm (pad t)) (fun a b h he=>h (by rw[he])) ?_;rw[List.map_map];exact I
def Fv (w:x2) (l:List Int) (k o:Int) (v:x1) (w':x2):Prop:=
 Ext w w'∧(¬bD l→v= .tuple #[.pointer none,.int .i64 1])∧(bD l→¬cA o k→v= .tuple #[.pointer none,.int .i64 3])∧
  (bD l→cA o k→ ∃ g m,v= .tuple #[.pointer (some ⟨g,0,none⟩),.int .i64 0]∧w.heap.size≤g∧w.heap.size≤m∧dO w' g m l k o [])
theorem xV (h:aB .i64 w sv l):af x3 mj [sv,.int .i64 k,.int .i64 o] w (Fv w l k o):=by
 refine az func205 ?_;refine aM (fun v J=>Ext w J∧ ∃ c,v= .bool c∧(c=true↔¬bD l)) ?_ ?_
 ·rintro _ J ⟨U,c,rfl,V⟩;rw[br];refine⟨fun ad=>⟨U,fun _=>rfl,fun h=>absurd h (V.1 ad),fun h=>absurd h (V.1 ad)⟩,fun ah=>?_⟩;have I:bD l:=Classical.byContradiction fun h=>by have:=V.2 h;rw[ah] at this;cases this
  have an:=I.1;refine jW.mono ?_;rintro _ ai _ ⟨rfl,O⟩;by_cases hi:cA o k
  rotate_left
  ·simp only[hi,decide_false,bc,X4,bC];exact⟨U.trans O,fun h=>absurd I h,fun _ _=>rfl,fun _ h=>absurd h hi⟩
  simp only[hi,decide_true,bc,Y4,aP];refine (hc ((h.ext U).ext O) (by omega)).mono ?_;rintro aA ao _ ⟨ae,aj,ap,hm⟩;have aq:=hm.ls.cells;refine qp fun m au av W ak=>?_;rw[cH (cs:=#[aA,.int .i64 k,.int .i64 o,.map (some m)]) (by obtain⟨_,_,_,_,_,rfl,_⟩:=hm.ls;kernel_rfl)];refine bL fun g aw ax Y al=>?_;have ay:=U.size;have aC:=O.size;have aD:=ae.size;have aE:=W.size;exact⟨((((U.trans O).trans ae).trans W).trans Y),fun h=>absurd I h,fun _ h=>absurd hi h,fun _ _=>⟨g,m,rfl,by omega,by omega,⟨aA,aj,al,(hm.ext W).ext Y⟩,ak.ext Y,I,hi,fun p am=>by cases am⟩⟩
 ·intro aF ag;rw[aL ac.u h];simp only[bA,ab];refine⟨fun aG=>ag _ _ ⟨Ext.refl _,true,rfl,fun _ I=>by have:=I.1;omega,fun _=>rfl⟩,fun aH=>?_⟩;refine (xT h).mono ?_;rintro _ ai _ ⟨rfl,O⟩;refine ag _ _ ⟨O,_,rfl,?_⟩;rw[decide_eq_true_eq];exact⟨fun aa I=>aa I.2,fun aa I=>aa ⟨by omega,I⟩⟩
def hh (t:List Int) (i:Nat):List Int:=t.take i++r9 (6-i) 0
theorem Fw {t:List Int} {i:Nat} (hi:i≤t.length) (I:t.length≤6):(hh t i).length=6:=by simp[hh];omega
theorem Fx {t:List Int} {i:Nat} (I:t[i]? =some x) (O:t.length≤6):(hh t i).set i x=hh t (i+1):=by
 have hi:=(x4.1 I).1;unfold hh;have J:(t.take i).length=i:=by rw[o8];omega
 rw[V8 _ _ (by omega),J,V2,u9,I];have:6-i=(6-(i+1))+1:=by omega
 rw[this,List.replicate_succ];simp
theorem Fy (t:List Int):hh t t.length=pad t:=by simp[hh,pad]
def xW (w:x2) (szs t:List Int) (v:x1) (w':x2):Prop:=Ext w w'∧ ∃ ks e,v= .tuple #[dm ks,.int .i64 e]∧ks.length=6∧(cL szs t→ks=pad t∧e=0)∧(¬cL szs t→e=3)
set_option maxHeartbeats 800000 in
theorem Fz {g:Nat} {t:List Int} {D:Told} {aA:x1} (h:dO w g m szs k o D) (aq:aB .i64 w aA t):af x3 C9 [.pointer (some ⟨g,0,none⟩),aA] w (xW w szs t):=by
 obtain⟨⟨sv,gs,au,hm⟩,_,aK,_⟩:=h;have bf:=aK.1;refine az func245 ?_;refine bu b2.i fun ah J bg aN am=>?_;refine bu b2.i fun al bh bi av ay=>?_;have ai:=aN.trans av;have bj:=aN.size;have bk:=av.size;have bm:=am.lt;have bn:=ay.lt;have bo:=au.lt;have am:=am.ext av;have aV:=au.ext ai;rw[cI dU.u];simp only[Z1,aP];have aC:∀ {W:x2} {ks:List Int} {e:Int},Ext w W→ae W al b2 (ints .i8 ks)→ae W ah b2 qs→ks.length=6→(cL szs t→ks=pad t∧e=0)→(¬cL szs t→e=3)→
   I x3 (x6 b2 (.pointer (some ⟨al,0,none⟩))) W fun aW=>ax x3 (o3 b2 (.pointer (some ⟨ah,0,none⟩)) aW) W fun(_:Unit) aD=>I x3 (do loadVar b2 (←asAddr (.pointer (some ⟨ah,0,none⟩)))) aD fun aX=>xW w szs t (.tuple #[aX,.int .i64 e]) aD:=by
  intro W ks e Y ad aj ap ao aE;rw[lD ap ad.range];refine ob ap rfl aj fun aD aY bp a1=>?_;rw[Fs ap a1.range];exact⟨Y.then aY (fun r a2 he=>by have he:r=ah:=he;omega),ks,e,rfl,ap,ao,aE⟩
 rw[aL ac.u (aq.ext ai),aw,V eL.p rfl,aa (by kernel_rfl) (aV.cell (o:=0+0) rfl),aL ac.u (hm.ls.ext ai)];simp only[bF,ab];have aO:ints .i8 (hh t 0)=qs:=by simp[hh,qs,ints]
 refine⟨fun a6=>aC ai (ks:=hh t 0) (e:=3) (by rw[aO];exact ay) am (by simp[hh]) (fun ao=>absurd (by rw[qa ao]) a6) (fun _=>rfl),fun aQ=>?_⟩;have aQ:t.length=szs.length:=by omega
 rw[aL ac.u (aq.ext ai)];refine bt.range t.length (fun i _ W=>Ext w W∧ae W al b2 (ints .i8 (hh t i))∧ae W ah b2 qs∧ ∀ (j:Nat) (a x:Int),j<i→szs[j]? =some a→t[j]? =some x→0≤x∧x<a) (by omega)
  ⟨ai,by rw[aO];exact ay,am,fun j a x a7=>by omega⟩ ?_ ?_
 ·rintro i _ W a8 hi ⟨Y,ad,aj,aF⟩ ba;simp only[an,ab];refine⟨fun _=>?_,fun h=>by omega⟩;obtain⟨x,ag⟩:∃ x,t[i]? =some x:=⟨_,y0 hi⟩;obtain⟨a,ak⟩:∃ a,szs[i]? =some a:=⟨_,y0 (by omega)⟩;have bq:=aK.2 a (x5 ak);rw[aZ ac.u U.i (by kernel_rfl) (aq.ext Y) ag];have aR:=Fw (t:=t) (i:=i) (by omega) (by omega);refine aM (fun v bb=>W=bb∧v= .bool (decide (¬(0≤x∧x<a)))) ?_ ?_
  ·rintro _ _ ⟨rfl,rfl⟩;simp only[ab];refine⟨fun bc=>aC Y ad aj aR (fun ao=>absurd ((lz.1 ao).2 i a x ak ag) bc) (fun _=>rfl),fun aG=>?_⟩;have aG:=Y9.1 aG;rw[e1 U.u eZ.u,DP (by omega) (by omega),wm b2.u eZ.i (by omega)];refine bl eZ.i rfl rfl ad (by simp[aR];omega) fun br aS bw aT=>?_;simp only[aI];refine ba _ _ ⟨Y.then aS (fun r a2 he=>by have he:r=al:=he;omega),?_,aj.O aS (by show ¬(ah=al);omega),fun j a' bd a7 aH aJ=>?_⟩
   ·have e:(ints .i8 (hh t i)).set (0+i*1) (.int .i8 x)=ints .i8 (hh t (i+1)):=by
     rw[←Fx ag (by omega)];simp[ints,U3]
    rw[e] at aT;exact aT
   ·by_cases be:j=i
    ·subst be;rw[ak] at aH;rw[ag] at aJ;cases aH;cases aJ;exact aG
    ·exact aF j a' bd (by omega) aH aJ
  ·intro bx aU;simp only[an,ab];refine⟨fun bz=>aU _ _ ⟨rfl,by rw[decide_eq_true];omega⟩,fun bA=>?_⟩;rw[aw,V eL.p rfl,aa (by kernel_rfl) ((au.ext Y).cell (o:=0+0) rfl),aZ ac.u U.i (by kernel_rfl) (hm.ls.ext Y) ak,cm];refine aU _ _ ⟨rfl,?_⟩;congr 1;exact decide_eq_decide.2 ⟨fun h bB=>by omega,fun h=>by omega⟩
 ·rintro _ W a8 ⟨Y,ad,aj,aF⟩;simp only[an,ab];refine⟨fun h=>by omega,fun _=>?_⟩;rw[Fy] at ad;exact aC Y ad aj (by simp[pad];omega) (fun _=>⟨rfl,rfl⟩) (fun aE=>absurd (lz.2 ⟨aQ.symm,fun j a x ak ag=>aF j a x (x4.1 ag).1 ak ag⟩) aE)
def gL (D:Told) (o:Int) (t:List Int):Int:=match D.find? (fun p=>decide (p.1=t)) with
 |some p=>p.2
 |none=>o
theorem xX {D:Told} (J:(D.map (·.1)).Nodup) {p q:List Int×Int} (O:p∈D) (U:q∈D) (h:p.1=q.1):p=q:=by
 obtain⟨i,hi⟩:=Y2.1 O;obtain⟨j,I⟩:=Y2.1 U;have h1:(D.map (·.1))[i]? =some p.1:=by rw[x8,hi];rfl
 have V:(D.map (·.1))[j]? =some p.1:=by rw[x8,I,h];rfl
 have:=iy J h1 V;subst this;rw[hi] at I;exact b9 I
theorem od {D:Told} {t:List Int} (J:(D.map (·.1)).Nodup) (h:(t,c)∈D):gL D o t=c:=by
 unfold gL;cases I:D.find? (fun p=>decide (p.1=t)) with
 |none=>
  have:=List.find?_eq_none.1 I _ h;simp at this
 |some p=>
  have h1:=List.find?_some I;have h1:p.1=t:=by simpa using h1
  have:=xX J (List.mem_of_find?_eq_some I) h h1;rw[this]
theorem oe {D:Told} {t:List Int} (h:∀ p∈D,p.1≠t):gL D o t=o:=by
 unfold gL;cases I:D.find? (fun p=>decide (p.1=t)) with
 |none=>rfl
 |some p=>
  have h1:=List.find?_some I;have h1:p.1=t:=by simpa using h1
  exact absurd h1 (h p (List.mem_of_find?_eq_some I))
def jg (D:Told) (t:List Int) (c o:Int) (I:Told):Prop:=(∀ p,p∈I↔(c≠o∧p=(t,c))∨(p∈D∧p.1≠t))∧I.length≤D.length+1
theorem jg.cost {D U:Told} {t:List Int} (h:jg D t c o U) (aa:(D.map (·.1)).Nodup) (V:(U.map (·.1)).Nodup) (s:List Int):gL U o s=if s=t then c else gL D o s:=by
 by_cases O:s=t
 ·subst O;rw[if_pos rfl];by_cases W:c=o
  ·subst W;exact oe fun p I he=>by
    rcases (h.1 p).1 I with J|J
    ·exact J.1 rfl
    ·exact J.2 he
  ·exact od V ((h.1 _).2 (.inl ⟨W,rfl⟩))
 ·rw[if_neg O];by_cases he:∃ p∈D,p.1=s
  ·obtain⟨p,I,rfl⟩:=he;rw[od (c:=p.2) aa I];exact od V ((h.1 _).2 (.inr ⟨I,O⟩))
  ·have Y:∀ p∈D,p.1≠s:=fun p I h=>he ⟨p,I,h⟩;rw[oe Y];exact oe fun p I J=>by
    rcases (h.1 p).1 I with⟨_,rfl⟩|⟨ab,_⟩
    ·exact O J.symm
    ·exact Y p ab J
theorem FA {D:Told} {t:List Int} {v0:Int} (V:(D.map (·.1)).Nodup) (O:D[j]? =some (t,v0)) (W:c≠o):jg D t c o (D.set j (t,c)):=by
 have U:=(x4.1 O).1;refine⟨fun p=>⟨fun I=>?_,fun I=>?_⟩,by simp⟩
 ·obtain⟨i,hi⟩:=Y2.1 I;by_cases J:j=i
  ·subst J;rw[W8 U] at hi;exact .inl ⟨W,(b9 hi).symm⟩
  ·rw[W3 J] at hi;refine .inr ⟨x5 hi,fun he=>J ?_⟩;exact iy V (x:=t) (by rw[x8,O];rfl) (by rw[x8,hi,Z2,he])
 ·rcases I with⟨_,rfl⟩|⟨I,Y⟩
  ·exact x5 (W8 U)
  ·obtain⟨i,hi⟩:=Y2.1 I;have J:j≠i:=fun he=>by subst he;rw[O] at hi;cases hi;exact Y rfl
   exact x5 (by rw[W3 J];exact hi)
theorem xY {D:Told} {t:List Int} (I:∀ p∈D,p.1≠t) (J:c≠o):jg D t c o (D++[(t,c)]):=by
 refine⟨fun p=>?_,by simp⟩;rw[n9,j0];exact⟨fun h=>h.elim (fun h=>.inr ⟨h,I p h⟩) (fun h=>.inl ⟨J,h⟩),fun h=>h.elim (fun h=>.inr h.2) (fun h=>.inl h.1)⟩
theorem FB {D:Told} {t:List Int} {v0:Int} (O:(D.map (·.1)).Nodup) (J:D[j]? =some (t,v0)):jg D t o o (D.eraseIdx j):=by
 refine⟨fun p=>⟨fun I=>?_,fun I=>?_⟩,by have:=List.length_eraseIdx_le D j;omega⟩
 ·refine .inr ?_;obtain⟨i,U,hi⟩:=List.mem_eraseIdx_iff_getElem?.1 I;refine⟨x5 hi,fun he=>U ?_⟩;exact iy O (x:=t) (by rw[x8,hi,Z2,he]) (by rw[x8,J];rfl)
 ·rcases I with⟨h,_⟩|⟨I,V⟩
  ·exact absurd rfl h
  ·obtain⟨i,hi⟩:=Y2.1 I;exact List.mem_eraseIdx_iff_getElem?.2 ⟨i,fun he=>by subst he;rw[J] at hi;cases hi;exact V rfl,hi⟩
theorem FC {D:Told} {t:List Int} (I:∀ p∈D,p.1≠t):jg D t o o D:=
 ⟨fun p=>⟨fun h=>.inr ⟨h,I p h⟩,fun h=>h.elim (fun h=>absurd rfl h.1) (fun h=>h.1)⟩,by omega⟩
theorem xZ {g:Nat} {t:List Int} {D:Told} (h:dO w g m szs k o D) (O:cL szs t) (I:(D.map hY)[j]? =some (dm (pad t),v)):∃ c,D[j]? =some (t,c)∧v= .int .i64 c:=by
 rw[x8] at I;obtain⟨p,J,he⟩:=Y1.1 I;have h1:=xU (h.2.2.2.2 p (x5 J)).1 O (congrArg Prod.fst he);exact⟨p.2,by rw[J,←h1],(congrArg Prod.snd he).symm⟩
theorem x0 {g:Nat} {t:List Int} {D:Told} (h:dO w g m szs k o D) (I:∀ p∈D.map hY,p.1≠dm (pad t)):∀ p∈D,p.1≠t:=fun p J he=>I (hY p) (j5.2 ⟨p,J,rfl⟩) (by rw[hY,he])
def FD (w:x2) (g m:Nat) (szs t:List Int) (k o c:Int) (D:Told) (v:x1) (w':x2):Prop:=
 (¬(cL szs t∧cA c k)→v= .int .i64 3∧Ext w w')∧(cL szs t∧cA c k→v= .int .i64 0∧ad (fun r=>r=m) w w'∧ ∃ I,jg D t c o I∧dO w' g m szs k o I)
set_option maxHeartbeats 800000 in
theorem x9 {g:Nat} {t:List Int} {D:Told} {aA:x1} (h:dO w g m szs k o D) (aR:aB .i64 w aA t):af x3 CR [.pointer (some ⟨g,0,none⟩),aA,.int .i64 c] w (FD w g m szs t k o c D):=by
 refine az func206 ?_;refine (Fz h aR).mono ?_;rintro _ J _ ⟨aJ,ks,e,rfl,au,aS,aT⟩;rw[aD (v:=dm ks) rfl,aD (v:=.int .i64 e) rfl];refine bu b2.i fun al bh bi aK aL=>?_;refine ob au rfl aL fun av aU bj aN=>?_;have bk:=aJ.size;have bl:=aK.size;have bm:=aL.lt;have an:Ext w av:=(aJ.trans aK).then aU (fun r ax he=>by have he:r=al:=he;omega);refine aM (fun v ay=>v= .int .i64 0∧(cL szs t∧cA c k)∧ad (fun r=>r=m) w ay∧ ∃ W,jg D t c o W∧dO ay g m szs k o W) ?_ ?_
 ·rintro _ ay ⟨_,h1,ak⟩;exact⟨fun h=>absurd h1 h,fun _=>⟨rfl,ak⟩⟩
 intro aV aW;simp only[bF,ab];by_cases ah:cL szs t
 rotate_left
 ·have he:=aT ah;subst he;exact⟨fun _=>⟨fun _=>⟨rfl,an⟩,fun h=>absurd h.1 ah⟩,fun h=>by simp at h⟩
 obtain⟨rfl,rfl⟩:=aS ah;refine⟨fun h=>absurd rfl h,fun _=>?_⟩;have ac:=h.ext an;obtain⟨⟨sv,gs,ae,hm⟩,ao,aO,aX,aY⟩:=id ac;rw[aw,V eL.p rfl,aa (by kernel_rfl) (ae.cell (o:=0+1) rfl)];refine jW.mono ?_;rintro _ aZ _ ⟨rfl,ag⟩;have a1:=an.trans ag;by_cases hi:cA c k
 rotate_left
 ·simp only[hi,decide_false,bc,X4,bC];exact⟨fun _=>⟨rfl,a1⟩,fun h=>absurd h.2 hi⟩
 simp only[hi,decide_true,bc,Y4,aP];rw[aw,V eL.p rfl,aa (by kernel_rfl) ((ae.ext ag).cell (o:=0+2) rfl)];simp only[a8,ab,cj];have aQ:=sR (oc aO ah);have a2:∀ {W:Told},jg D t c o W→ ∀ p∈W,cL szs p.1∧cA p.2 k∧p.2≠o:=fun hu p a7=>by
  rcases (hu.1 p).1 a7 with⟨aj,rfl⟩|⟨h1,_⟩
  ·exact⟨ah,hi,aj⟩
  ·exact aY p h1
 have ap:∀ {am ai:x2} {W:Told},Ext aZ am→ad (fun r=>r=m) am ai→cC ai m (W.map hY)→jg D t c o W→aV (.int .i64 0) ai:=by
  intro am ai W I U ba hu;have bb:g≠m:=fun he=>by
   obtain⟨bd,be,aC,_⟩:=ao;have ae:av.heap[g]? =_:=ae;rw[he,aC] at ae;cases ae
  have bf:∀ r,leads sv r→r≠m:=fun r ax he=>by
   subst he;obtain⟨bd,be,aC,_⟩:=ao;obtain⟨_,⟨rfl,_⟩|⟨cap,cs,rfl,aq,_⟩⟩:=hm
   ·obtain⟨a,n,c,h1,_⟩:=ax;cases h1
   ·obtain⟨a,n,c,h1,ak⟩:=ax;cases h1;have aq:av.heap[gs]? =_:=aq;have ak:gs=r:=ak;rw[ak,aC] at aq;cases aq
  have aE:=ag.trans I;exact aW _ _ ⟨rfl,⟨ah,hi⟩,((an.trans aE).O _).trans U,W,hu,⟨sv,gs,(ae.ext aE).O U bb,a6 (hm.ext aE) U bf⟩,ba,aO,aX,a2 hu⟩
 refine⟨fun aj am I _ _=>?_,fun aj am I _ _=>?_⟩
 ·rw[aw,V eL.p rfl,aa (by kernel_rfl) (((ae.ext ag).ext I).cell (o:=0+3) rfl),lD au ((aN.ext ag).ext I).range];subst aj;refine Fk ha.u keys ((ao.ext ag).ext I) ac.mO aQ (fun j v0 ai aF Y U=>?_) (fun ai aG Y U=>?_)
  ·obtain⟨bg,aH,_⟩:=xZ ac ah aF;rw[kO] at Y;exact ap I U Y (FB ac.nodup aH)
  ·exact ap I U Y (FC (x0 ac aG))
 ·rw[aw,V eL.p rfl,aa (by kernel_rfl) (((ae.ext ag).ext I).cell (o:=0+3) rfl),lD au ((aN.ext ag).ext I).range];refine oa ha.u keys ((ao.ext ag).ext I) ac.mO aQ (fun j v0 ai aF Y U=>?_) (fun ai aG Y U=>?_)
  ·obtain⟨bg,aH,_⟩:=xZ ac ah aF;have aI:(D.map hY).set j (dm (pad t),.int .i64 c)=(D.set j (t,c)).map hY:=by rw[U3];rfl
   rw[aI] at Y;exact ap I U Y (FA ac.nodup aH aj)
  ·have aI:D.map hY++[(dm (pad t),.int .i64 c)]=(D++[(t,c)]).map hY:=by rw[b6];rfl
   rw[aI] at Y;exact ap I U Y (xY (x0 ac aG) aj)
theorem FE {g:Nat} {t:List Int} {D:Told} {b:Bool} (h:dO w g m szs k o D) (O:cL szs t)
  (h1:∀ c,(t,c)∈D→K (if b then .tuple #[.int .i64 c,.bool true] else .int .i64 c)) (W:(∀ p∈D,p.1≠t)→K (if b then .tuple #[.int .i64 0,.bool false] else .int .i64 0)):
  I x3 (Instr.lookup ha (.map (some m)) (dm (pad t)) b) w K:=by
 have U:=sR (oc h.2.2.1 O);by_cases he:∃ p∈D,p.1=t
 ·obtain⟨p,J,rfl⟩:=he;obtain⟨j,Y⟩:=Y2.1 J;rw[n8 ha.u keys h.2.1 h.mO U (j:=j) (v:=.int .i64 p.2) (by rw[x8,Y];rfl)];exact h1 p.2 J
 ·have V:∀ p∈D,p.1≠t:=fun p J h=>he ⟨p,J,h⟩;rw[qq ha.u keys ⟨_,_,ak.i⟩ h.2.1 h.mO U (fun q aa ab=>by
   obtain⟨p,J,rfl⟩:=j5.1 aa;exact V p J (xU (h.2.2.2.2 p J).1 O ab))]
  exact W V
theorem FF {g:Nat} {D:Told} (h:dO w g m szs k o D):af x3 Dc [.pointer (some ⟨g,0,none⟩)] w fun v w'=>v= .int .i64 D.length∧Ext w w':=by
 obtain⟨⟨sv,gs,I,hm⟩,J,_⟩:=h;refine az func250 ?_;rw[cI dU.u];simp only[Z1,aP];rw[aw,V eL.p rfl,aa (by kernel_rfl) (I.cell (o:=0+3) rfl),Fl ha.u J];exact⟨by simp,Ext.refl _⟩
theorem FG {g:Nat} {D:Told} (h:dO w g m szs k o D):af x3 DD [.pointer (some ⟨g,0,none⟩)] w fun v w'=>v= .int .i64 k∧Ext w w':=by
 obtain⟨⟨sv,gs,I,hm⟩,_⟩:=h;refine az func303 ?_;rw[cI dU.u];simp only[Z1,aP];rw[aw,V eL.p rfl,aa (by kernel_rfl) (I.cell (o:=0+1) rfl)];exact⟨rfl,Ext.refl _⟩
theorem sT {g:Nat} {D:Told} (h:dO w g m szs k o D):af x3 Dd [.pointer (some ⟨g,0,none⟩)] w fun v w'=>Ext w w'∧ ∃ I,w.heap.size≤I∧am .i64 U w' I v szs:=by
 obtain⟨⟨sv,gs,J,hm⟩,_,O,_⟩:=h;have W:=O.1;refine az func251 ?_;rw[cI dU.u];simp only[Z1,aP];rw[aw,V eL.p rfl,aa (by kernel_rfl) (J.cell (o:=0+0) rfl)];exact hc hm.ls (by omega)
theorem FH {g:Nat} {D:Told} (h:dO w g m szs k o D):af x3 DE [.pointer (some ⟨g,0,none⟩)] w fun v w'=>v= .int .i64 szs.length∧Ext w w':=by
 refine az func304 ?_;refine (sT h).mono ?_;rintro v J _ ⟨I,O,_,hm⟩;rw[aL ac.u hm.ls];exact⟨rfl,I⟩
end Go.Proofs.YtgbkinibgjmodaaGreatDoor
namespace Go.Vc
open Go Go.RowKit
set_option maxRecDepth 100000
def leadsTo (v:x1) (r:Nat):Prop:=∃ a n c,v= .slice (some a) n c∧a.block=r
theorem eC (h:leadsTo (.slice none 0 0) r):False:=by
 obtain⟨a,n,c,h,_⟩:=h;cases h
section
variable {α:Type} {f:α→List x1} {k:Nat}
theorem gM:∀ {L:List α},(∀ a∈L,(f a).length=k)→(L.flatMap f).length=L.length*k
 |[],_=>by simp
 |a::L,h=>by
  rw[W9,o5,h a (.head _),gM fun b I=>h b (.tail _ I),j4,V4];omega
theorem og:∀ {L:List α} (i:Nat),(∀ a∈L,(f a).length=k)→(L.flatMap f).take (i*k)=(L.take i).flatMap f
 |[],i,_=>by simp
 |a::L,0,_=>by simp
 |a::L,i+1,h=>by
  have I:=h a (.head _);rw[W9,List.take_succ_cons,W9,←og i fun b J=>h b (.tail _ J),V4,Nat.one_mul,Nat.add_comm,List.take_append,I];congr 1
  ·exact l5 (by omega)
  ·congr 1;omega
theorem qt:∀ {L:List α} (i:Nat),(∀ a∈L,(f a).length=k)→(L.flatMap f).drop (i*k)=(L.drop i).flatMap f
 |[],i,_=>by simp
 |a::L,0,_=>by simp
 |a::L,i+1,h=>by
  have I:=h a (.head _);rw[W9,List.drop_succ_cons,←qt i fun b J=>h b (.tail _ J),V4,Nat.one_mul,Nat.add_comm,List.drop_append,I];rw[List.drop_of_length_le (by omega),List.nil_append];congr 1;omega
theorem mP {L:List α} {i:Nat} {a:α} (h:∀ a∈L,(f a).length=k) (hi:L[i]? =some a) (I:(f a)[j]? =some v):(L.flatMap f)[i*k+j]? =some v:=by
 have O:=(x4.1 I).1;rw[←List.getElem?_drop,qt i h];have J:=x4.1 hi;rw[W0 J.1,J.2,W9,Z7 O];exact I
theorem sU {L:List α} {i:Nat} {a:α} (h:∀ a∈L,(f a).length=k) (I:(f a).length=k) (hi:i<L.length):over (L.flatMap f) (i*k) (f a)=(L.set i a).flatMap f:=by
 have O:=gM h;have J:(i+1)*k≤L.length*k:=X0 _ hi;rw[V4,Nat.one_mul] at J;rw[kG (by omega),I,og i h,show i*k+k=(i+1)*k by rw[V4,Nat.one_mul],qt (i+1) h,List.set_eq_take_append_cons_drop,if_pos hi,List.flatMap_append,W9,V7]
theorem qu {vs:List x1} {o:Nat} (h1:o+vs.length≤m) (I:m≤cs.length):(over cs o vs).take m=over (cs.take m) o vs:=by
 rw[kG (by omega),kG (by rw[o8];omega),V7,V7,List.take_append,List.take_append,List.take_take,List.take_take,List.drop_take,o8];rw[show min m o=o by omega,show min o m=o by omega,show min o cs.length=o by omega,l5 (l:=vs) (by omega)];congr 3;omega
def a1 (f:α→List x1) (k:Nat) (e:r8) (w:x2) (g:Nat) (v:x1) (L:List α):Prop:=bG w g e k v L.length (L.flatMap f)∧ ∀ a∈L,(f a).length=k
variable {P:X5} {w:x2} {e:r8} {g:Nat} {v:x1} {L:List α}
theorem a1.nil (f:α→List x1) (k:Nat) (e:r8) (w:x2) (g:Nat):a1 f k e w g (.slice none 0 0) []:=⟨bG.nil w g e k,fun a h=>by cases h⟩
theorem a1.leads (h:a1 f k e w g v L) (I:leadsTo v r):r=g∧g<w.heap.size:=by
 obtain⟨_,⟨rfl,_⟩|⟨cap,cs,rfl,J,_⟩⟩:=h.1
 ·exact (eC I).elim
 ·obtain⟨a,n,c,h1,O⟩:=I;cases h1;exact⟨O.symm,J.lt⟩
theorem a1.O (h:a1 f k e w g v L) (I:ad S w w') (J:∀ r,leadsTo v r→¬S r):a1 f k e w' g v L:=
 ⟨⟨h.1.1,h.1.2.imp id fun⟨cap,cs,h1,U,V⟩=>⟨cap,cs,h1,U.O I (J g ⟨_,_,_,h1,rfl⟩),V⟩⟩,h.2⟩
theorem a1.ext (h:a1 f k e w g v L) (I:Ext w w'):a1 f k e w' g v L:=h.O (I.O fun _=>False) fun _ _ h=>h
theorem a1.sl (h:a1 f k e w g v L):bS w k v L.length (L.flatMap f):=h.1.sl
theorem a1.le (h:a1 f k e w g v L):L.length≤9223372036854775807:=by
 have:=bS.le h.sl;simpa[maxLen] using this
theorem ef (O:P.underlying t=some (.slice e)) (h:a1 f k e w g v L):I P (Z5 #[t] J #[v]) w K=K (.int .i64 L.length):=by
 obtain⟨_,_,_,_,_,rfl,_⟩:=h.sl;exact gg O
theorem cT {q:o4} {b:Nat} {i:Nat} (J:y=(i:Int)) (O:P.underlying t=some (.slice e)) (hi:aJ P e k b z) (h:a1 f k e w g v L) (U:i<L.length):
  I P (o6 t v (.int q y)) w K=K (.pointer (some ⟨g,i*k,none⟩)):=by
 subst J;obtain⟨_,⟨rfl,V⟩|⟨cap,cs,rfl,W,Y⟩⟩:=h.1
 ·omega
 ·rw[fe O hi U (fun _=>rfl),W6]
theorem a1.range {i:Nat} {a:α} (h:a1 f k e w g v L) (hi:L[i]? =some a):w.rangeAt g (i*k) (f a):=fun j u hu=>by
 have h1:=mP h.2 hi hu;have U:=(x4.1 hi).1;obtain⟨_,⟨rfl,V⟩|⟨cap,cs,rfl,J,_,_,W,O⟩⟩:=h.1
 ·omega
 ·have I:=(x4.1 h1).1;rw[gM h.2] at I;rw[←O,Z6 I] at h1;exact J.cell h1
theorem FI {b:Nat} {i:Nat} {a:α} {K:Unit→x2→Prop} (hi:aJ P t k b z) (h:a1 f k e w g v L) (I:(f a).length=k) (h1:∀ u∈f a,u.oneCell'=true) (U:i<L.length)
  (Y:∀ w',ad (fun r=>leadsTo v r) w w'→w'.heap.size=w.heap.size→a1 f k e w' g v (L.set i a)→K () w'):ax P (o3 t (.pointer (some ⟨g,i*k,none⟩)) (.agg (f a).toArray)) w K:=by
 have aj:=gM h.2;have aa:(i+1)*k≤L.length*k:=X0 _ U;rw[V4,Nat.one_mul] at aa;obtain⟨⟨ak,⟨rfl,al⟩|⟨cap,cs,rfl,ab,V,ac,W,ae⟩⟩,J⟩:=h
 ·omega
 ·have af:L.length*k≤cs.length:=by rw[W];exact X0 _ V
  refine wo hi I h1 ab (by omega) fun w' ag ah ai=>Y w' (ag.mono fun r _ he=>⟨_,_,_,rfl,he.symm⟩) ah ⟨⟨?_,.inr ⟨cap,_,by simp,ai,by simpa using V,ac,by rw[jR,W],?_⟩⟩,fun b O=>?_⟩
  ·rw[gM (L:=L.set i a) fun b O=>by
    rcases X9 O with h|rfl
    ·exact J b h
    ·exact I]
  ·rw[Y6,←sU J I U,←ae,qu (by rw[I];omega) af]
  ·rcases X9 O with h|rfl
   ·exact J b h
   ·exact I
theorem mQ {b:Nat} {u:x1} {i:Nat} {a a':α} {K:Unit→x2→Prop} (hi:aJ P t 1 b z) (hu:u.cells= #[u]) (h1:u.oneCell'=true) (h:a1 f k e w g v L) (J:L[i]? =some a) (U:f a'=(f a).set j u) (ap:j<k)
  (af:∀ w',ad (fun r=>leadsTo v r) w w'→w'.heap.size=w.heap.size→a1 f k e w' g v (L.set i a')→K () w'):ax P (o3 t (.pointer (some ⟨g,i*k+j,none⟩)) u) w K:=by
 have V:=(x4.1 J).1;have aq:=gM h.2;have ag:(i+1)*k≤L.length*k:=X0 _ V;rw[V4,Nat.one_mul] at ag;have ah:(f a).length=k:=h.2 a (x5 J);have I:(f a').length=k:=by rw[U,Y6];exact ah
 have ai:(L.flatMap f).set (i*k+j) u=(L.set i a').flatMap f:=by
  rw[←sU h.2 I V];refine Y8 fun p=>?_;rw[li _ _ _ (by omega),Y5,I];by_cases W:i*k≤p∧p<i*k+k
  ·rw[if_pos W,U,Y5];by_cases Y:i*k+j=p
   ·rw[if_pos Y,if_pos (by omega),if_pos (by omega),if_pos (by omega)]
   ·rw[if_neg Y,if_neg (by omega)];obtain⟨y,aa⟩:∃ y,(f a)[p-i*k]? =some y:=⟨_,y0 (by omega)⟩;have:=mP h.2 J aa;rw[show i*k+(p-i*k)=p by omega] at this;rw[this,aa]
  ·rw[if_neg W,if_neg (by omega)]
 obtain⟨⟨au,⟨rfl,av⟩|⟨cap,cs,rfl,aj,ab,ak,ac,al⟩⟩,ae⟩:=h
 ·omega
 ·have aw:L.length*k≤cs.length:=by rw[ac];exact X0 _ ab
  refine bl hi hu h1 aj (by omega) fun w' am an ao=>af w' (am.mono fun r _ he=>⟨_,_,_,rfl,he.symm⟩) an ⟨⟨?_,.inr ⟨cap,_,by simp,ao,by simpa using ab,ak,by rw[Y6,ac],?_⟩⟩,fun b O=>?_⟩
  ·rw[gM (L:=L.set i a') fun b O=>by
    rcases X9 O with h|rfl
    ·exact ae b h
    ·exact I]
  ·rw[Y6,←ai,←al,List.take_set]
  ·rcases X9 O with h|rfl
   ·exact ae b h
   ·exact I
theorem gN {ai:r8} {b:Nat} {x:x1} {a:α} {K:x1→x2→Prop} (W:P.underlying t=some (.slice e)) (hi:aJ P e k b z) (af:z.cells.size=k) (h:a1 f k e w g v L) (ac:bS w k x 1 (f a)) (h1:∀ u∈f a,u.oneCell'=true)
  (Y:(L.length+1)*b≤140737488355328) (ag:L.length+1≤9223372036854775807)
  (ah:∀ I J w',a1 f k e w' J I (L++[a])→(∀ r,leadsTo I r→leadsTo v r∨w.heap.size≤r)→ad (fun r=>leadsTo v r) w w'→K I w'):ax P (l9 #[t,t] ai #[v,x]) w K:=by
 have aj:(f a).length=k:=by have:=ac.1;omega
 have aa:∀ I J w',bG w' J e k I (L.length+1) (L.flatMap f++f a)→a1 f k e w' J I (L++[a]):=fun I J w' hm=>⟨by simpa using hm,fun b Y=>by
  rcases n9.1 Y with h'|h'
  ·exact h.2 b h'
  ·rw[j0.1 h'];exact aj⟩
 rcases h.1.2 with⟨O,ak⟩|⟨cap,cs,O,al,_⟩
 ·have hm:bG w w.heap.size e k v L.length (L.flatMap f):=⟨h.1.1,.inl ⟨O,ak⟩⟩;subst O;refine lk W W hi af hm ac h1 (by simpa using Y) (by simpa[maxLen] using ag) fun I J w' ab U ae=>ah I J w' (aa _ _ _ U) (fun r V=>.inr ?_) (ae.mono fun r V h=>by omega);have:=((aa _ _ _ U).leads V).1;omega
 ·refine lk W W hi af h.1 ac h1 (by simpa using Y) (by simpa[maxLen] using ag) fun I J w' ab U ae=>ah I J w' (aa _ _ _ U) (fun r V=>?_) (ae.mono fun r V h=>⟨_,_,_,O,h.symm⟩);have:=((aa _ _ _ U).leads V).1;rcases ab with ab|ab
  ·exact .inl ⟨_,_,_,O,by show g=r;omega⟩
  ·exact .inr (by omega)
theorem FJ {b:Nat} {x:x1} {a:α} {K:x1→x2→Prop} (O:P.underlying t=some (.slice e)) (hi:aJ P e k b z) (U:z.cells.size=k) (h:a1 f k e w g v L) (V:bS w k x 1 (f a)) (h1:∀ a,∀ u∈f a,u.oneCell'=true)
  (W:(L.length+1)*b≤140737488355328) (Y:L.length+1≤9223372036854775807)
  (aa:∀ I ab w',a1 f k e w' ab I (L++[a])→(∀ r,leadsTo I r→leadsTo v r∨w.heap.size≤r)→ad (fun r=>leadsTo v r) w w'→K I w'):ax P (l9 #[t,t] J #[v,x]) w K:=gN O hi U h V (h1 a) W Y aa
theorem gp {b:Nat} {a:α} {x:x1} {K:x1→x2→Prop} (U:P.underlying t=some (.slice e)) (hi:aJ P e k b z) (ab:k≤100000) (J:x.cells=(f a).toArray) (O:(f a).length=k)
  (V:∀ v g w',g=w.heap.size→Ext w w'→a1 f k e w' g v [a]→K v w'):ax P (Z4 t 1 #[(0,x)]) w K:=
 il U hi (by omega) (cs:=x.cells) (wz (by simp) (by rw[J];simpa using O)) fun g w' W Y I=>by
  have I:ae w' g e (f a):=by rw[J] at I;simpa using I
  exact V _ g w' W Y ⟨by simpa using bG.full (k:=k) (n:=1) I (by omega) (by simp[maxLen]),fun c aa=>by rw[j0.1 aa];exact O⟩
end
end Go.Vc
namespace Go.Proofs.YtgbkinibgjmodaaGreatDoor
open Go Go.Vc Go.RowKit Go.Proofs Go.Proofs.Tryz
set_option maxRecDepth 100000
theorem sV {α:Type}:∀ {l:List α} {j:Nat} {x:α},l[j]? =some x→(x::l.eraseIdx j).Perm l
 |[],j,x,h=>by simp at h
 |a::l,0,x,h=>by simp at h;subst h;exact List.Perm.refl _
 |a::l,j+1,x,h=>by
  simp at h;rw[List.eraseIdx_cons_succ];exact (List.Perm.swap a x _).trans ((sV h).cons a)
theorem ya {α:Type} {l:List α} (h:j<l.length):(l.eraseIdx j).length+1=l.length:=by
 rw[List.length_eraseIdx,if_pos h];omega
def mR (w:x2) (I:Nat):Nat:=match w.heap[I]? with
 |some (.mapIter (some m) _ seen _)=>(match w.heap[m]? with
  |some (.map J _)=>(leftOf J seen).size
  |_=>0)
 |_=>0
theorem qv {I:Nat} {d left:List (x1×x1)} {J:Option (x1×x1)} (h:fW w I m d left J):mR w I=left.length:=by
 obtain⟨U,V,seen,W,h1,_,_,O,_,rfl,_⟩:=h;unfold mR;rw[O];simp only;rw[h1];simp
theorem FK {w0:x2} {I:Nat} {d d0 left:List (x1×x1)} {J:Option (x1×x1)} (h:fW w I m d left J) (hm:cC w0 m d0) (h1:Ext w0 w) (V:Ext w0 w') (hi:eX w w'):fW w' I m d left J:=by
 obtain⟨W,c,s,Y,aa,ab,ac,ad,ae⟩:=h;obtain⟨af,ag,f1,_⟩:=hm;have O:=h1.ba m _ f1 rfl;have U:=V.ba m _ f1 rfl;rw[aa] at O;rw[←O] at U;exact⟨W,c,s,Y,U,ab,ac,hi I _ ad rfl,ae⟩
abbrev lE (w:x2) (g:Nat) (v:x1) (L:List (List Int)):Prop:=a1 (ints .i8) 6 b2 w g v L
theorem yb {k:o4}:∀ u∈ints k l,u.oneCell'=true:=fun u hu=>by
 obtain⟨x,_,rfl⟩:=j5.1 hu;rfl
set_option maxHeartbeats 800000 in
theorem keysIter {ah:Nat} {d:List (x1×x1)} {KS:List (List Int)} {w0:x2} (az:ae w0 ah ha [.map (some m)]) (hm:cC w0 m d) (aA:d.map (·.1)=KS.map dm) (aB:∀ ks∈KS,ks.length=6):
  nt x3 true jN [.pointer (some ⟨ah,0,none⟩)] ([]:List (List Int)) (fun h=>h.Perm KS) (fun h vs h' _=>∃ ks∈KS,h.length<KS.length∧vs=[dm ks]∧h'=h++[ks]) (fun w=>Ext w0 w):=by
 refine⟨jN.enters,fun l aC be w V _ aE W aF=>?_⟩;refine sd func299 ?_;rw[aa (by kernel_rfl) ((az.ext W).cell (o:=0) rfl)];refine ax.dc (xN ha.u (hm.ext W) fun ai J aG Y bf aH aI=>?_);refine⟨fun I=>∃ h O left aj,aC h I∧Ext w0 I∧w.heap.size≤I.heap.size∧fW I ai m d left aj∧left.map (·.1)=O.map dm∧(h++O).Perm KS,fun I=>mR I ai,
  ⟨[],KS,d,none,V _ _ _ Y aI.b aF,W.trans Y,Y.size,aH,aA,List.Perm.refl _⟩,?_⟩
 rintro I ⟨h,O,left,aj,ak,aJ,bg,al,ab,U⟩;have aK:left.length=O.length:=by have:=congrArg T9 ab;simpa using this
 refine xP al (fun h=>by cases h) (fun aL=>?_) (fun j p aM am an aN ao=>?_)
 ·rw[aD (v:=.bool false) rfl,aP];subst aL;have:O=[]:=b8 (by rw[←aK];rfl);subst this;rw[V9] at U;exact .inl ⟨h,U,ak⟩
 ·rw[aD (v:=.bool true) rfl,bC];refine xQ ao ?_;obtain⟨ks,ac,aO⟩:∃ ks,O[j]? =some ks∧p.1=dm ks:=by
   have h1:(left.map (·.1))[j]? =some p.1:=by rw[x8,am];rfl
   rw[ab,x8] at h1;obtain⟨ks,ap,aQ⟩:=Y1.1 h1;exact⟨ks,ap,aQ.symm⟩
  have aq:ks∈KS:=U.mem_iff.1 (n9.2 (.inr (x5 ac)));have au:=aB ks aq;rw[aD (v:=p.1) rfl,aO];refine ax.dc (bu b2.i fun aR bh bi aS aT aU=>?_);refine ax.dc (ob au rfl aT fun ad aV bj aW aX=>?_);rw[lD au aW.range];have af:Ext aM ad:=aS.then aV (fun r bk he=>by have he:r=aR:=he;omega);have av:=aU.trans aX;have aw:Ext w0 ad:=(aJ.trans an).trans af;have aY:=V _ _ _ an (by rw[←aG];exact aN) ak;have aZ:=V _ _ _ af av.b aY;have a1:=ao.ext af av.kY;have a2:h.length<KS.length:=by
   have h1:=U.length_eq;have ap:=(x4.1 ac).1;rw[o5] at h1;omega
  refine⟨rfl,(aE h (h++[ks]) _ ad aw ⟨ks,aq,a2,rfl,rfl⟩ aZ).mono ?_⟩;rintro _ a6 (⟨rfl,ay,a7,a8⟩|⟨rfl,ba⟩)
  ·simp only[bc,Y4,aP];have ag:=FK a1 hm aw ay (a8 rfl);have bb:w.heap.size≤a6.heap.size:=by
    obtain⟨_,_,_,_,_,_,_,bd,_⟩:=ag;have:=(l7.1 bd).1;omega
   refine⟨⟨h++[ks],O.eraseIdx j,left.eraseIdx j,some p,a7,ay,bb,ag,?_,?_⟩,?_⟩
   ·rw[←kO,ab,kO]
   ·refine List.Perm.trans ?_ U;rw[V7];exact List.Perm.append_left h (sV ac)
   ·rw[qv ag,qv al];have:=ya (x4.1 am).1;omega
  ·simp only[bc,X4,bC];exact .inr ⟨h,ba⟩
theorem FL:af x3 Dn [.map (some m)] w fun r w'=>Ext w w'∧ ∃ g,r= .func (.func jN) #[] #[.pointer (some ⟨g,0,none⟩)]∧w.heap.size≤g∧ae w' g ha [.map (some m)]:=by
 refine az func267 ?_;refine bL fun g J U I O=>?_;rw[lf];exact⟨I,g,rfl,by omega,O⟩
set_option maxHeartbeats 800000 in
theorem FM {al:Nat} {d:List (x1×x1)} {KS:List (List Int)} (aE:ae w al ha [.map (some m)]) (hm:cC w m d) (aF:d.map (·.1)=KS.map dm) (am:∀ ks∈KS,ks.length=6) (a8:KS.length≤1000000):
  af x3 DG [.slice none 0 0,.func (.func jN) #[] #[.pointer (some ⟨al,0,none⟩)]] w fun v w'=>Ext w w'∧ ∃ g L,(∀ r,leadsTo v r→w.heap.size≤r)∧L.Perm KS∧lE w' g v L:=by
 refine nE func310 ?_;refine bL fun gs J ba an Y=>?_;have Y:ae J gs hC [.slice none 0 0]:=Y;have bb:=Y.lt;refine⟨List (List Int),true,_,_,_,_,_,_,fun h w'=>ad (fun r=>w.heap.size≤r) w w'∧ ∃ v g,ae w' gs hC [v]∧(∀ r,leadsTo v r→w.heap.size≤r∧r≠gs)∧lE w' g v h,fun _ _ _=>False,rfl,keysIter aE hm aF am,?_,fun _ _ U h=>h.trans U,
  fun _ _ _ U h=>⟨h.1.trans (U.O _),by obtain⟨v,g,h1,aG,aH⟩:=h.2;exact⟨v,g,h1.ext U,aG,aH.ext U⟩⟩,fun _ _ _ _ _ h=>h,an,⟨an.O _,_,0,Y,fun r h=>(eC h).elim,a1.nil _ _ _ _ _⟩,?_,?_,fun _ _ h=>h.elim,fun _ _ _ h=>h.elim⟩
 ·rintro h _ h' w' ⟨ks,_,_,rfl,_⟩;rfl
 ·rintro a h h' ao aI ⟨ks,aJ,bc,aK,rfl⟩ ⟨ap,v,g,ag,V,ah⟩;cases aK;have ai:=am ks aJ;have bd:h.length≤1000000:=by omega
  refine ax.dc (bu b2.i fun aL be bf aM aq aN=>?_);refine ax.dc (ob ai rfl aq fun aO aP bg aQ aR=>?_);intro bh au _ aS;have bi:=aq.lt;have aT:Ext ao aO:=aM.then aP (fun r I he=>by have he:r=aL:=he;omega);have W:=aT.trans au;rw[aa (by kernel_rfl) ((ag.ext W).cell (o:=0) rfl),lD ai (aQ.ext au).range];refine ax.dc (gp (f:=ints .i8) (a:=ks) hC.u b2.i (by omega) (by simp[dm,x1.cells]) (by simp[ai]) fun a aW bj bk ab aU aV=>?_);have av:=aU.sl;rw[W9,List.flatMap_nil,V9] at av;refine ax.dc (FJ hC.u b2.i rfl ((ah.ext W).ext ab) av (fun a=>yb) (by omega) (by omega) fun aw aX ay aj aY ac aZ=>?_);have bm:=ap.size;have bn:=W.size;have bo:=ab.size;have bp:=ag.lt;have az:∀ r,leadsTo aw r→w.heap.size≤r∧r≠gs:=fun r I=>by
   rcases aY r I with h|h
   ·exact V r h
   ·omega
  have ak:ae ay gs hC [v]:=((ag.ext W).ext ab).O ac (fun h=>(V gs h).2 rfl);refine ax.dc (bl hC.i (by obtain⟨_,_,_,_,_,rfl,_⟩:=aj.sl;rfl) (by obtain⟨_,_,_,_,_,rfl,_⟩:=aj.sl;rfl) ak (by simp) fun aA aB bq a2 a6=>?_);have aC:ad (fun r=>w.heap.size≤r) ao aA:=(((W.trans ab).O _).trans (ac.mono fun r _ h=>(V r h).1)).trans (aB.mono fun r _ h=>by show w.heap.size≤r;omega);refine⟨aI.then aC (fun r I h=>by have h:w.heap.size≤r:=h;omega),⟨ap.trans aC,aw,aX,a2,az,aj.O aB fun r I h=>(az r I).2 h⟩,fun _=>?_⟩;exact ((((aN.kY.trans aR.kY).trans aS).trans aV.kY).trans aZ.kY).trans a6.kY
 ·rintro h ay a7 ⟨ac,v,g,ak,V,ah⟩;rw[aa (by kernel_rfl) (ak.cell (o:=0) rfl)];intro aA aD _;exact⟨(ac.ext fun r I h=>by have:w.heap.size≤r:=h;omega).trans aD,g,h,fun r I=>(V r I).1,a7,ah.ext aD⟩
theorem FN {I:Nat} {d:List (x1×x1)} {KS:List (List Int)} (J:ae w I ha [.map (some m)]) (hm:cC w m d) (O:d.map (·.1)=KS.map dm) (U:∀ ks∈KS,ks.length=6) (V:KS.length≤1000000):
  af x3 Dz [.func (.func jN) #[] #[.pointer (some ⟨I,0,none⟩)]] w fun v w'=>Ext w w'∧ ∃ g L,(∀ r,leadsTo v r→w.heap.size≤r)∧L.Perm KS∧lE w' g v L:=by
 refine az func297 ?_;exact (FM J hm O U V).mono fun _ _ _ h=>h
def fj:List Int→Int
 |[]=>0
 |x::l=>x*32 ^ l.length+fj l
theorem sW (n:Nat):(0:Int)<32 ^ n:=Int.pow_pos (by omega)
theorem qw:∀ (l:List Int),(∀ x∈l,0≤x∧x<32)→0≤fj l∧fj l<32 ^ l.length
 |[],_=>by simp[fj]
 |x::l,h=>by
  have O:=qw l fun y I=>h y (.tail _ I);have J:=h x (.head _);have U:=sW l.length;simp only[fj,j4];have e:(32:Int) ^ (l.length+1)=32*32 ^ l.length:=by rw[Int.pow_succ,Int.mul_comm]
  have h1:x*32 ^ l.length≤31*32 ^ l.length:=Int.mul_le_mul_of_nonneg_right (by omega) (by omega);have V:0≤x*32 ^ l.length:=Int.mul_nonneg J.1 (by omega);rw[e];omega
def gO:List Int→List Int→Int
 |x::a,y::b=>if x<y then-1 else if y<x then 1 else gO a b
 |_,_=>0
theorem yc:∀ (a b:List Int),a.length=b.length→(∀ x∈a,0≤x∧x<32)→(∀ x∈b,0≤x∧x<32)→(gO a b<0↔fj a<fj b)∧(fj a=fj b→a=b)
 |[],[],_,_,_=>by simp[gO]
 |[],_::_,h,_,_=>by simp at h
 |_::_,[],h,_,_=>by simp at h
 |x::a,y::b,h,Y,aa=>by
  have O:a.length=b.length:=by simpa using h
  have U:∀ x∈a,0≤x∧x<32:=fun z I=>Y z (.tail _ I);have V:∀ x∈b,0≤x∧x<32:=fun z I=>aa z (.tail _ I);have W:=yc a b O U V;have ab:=qw a U;have ad:=qw b V;have ae:=sW b.length;simp only[gO,fj];rw[O] at ab ⊢;have step:∀ u v:Int,u<v→u*32 ^ b.length+32 ^ b.length≤v*32 ^ b.length:=fun u v af=>by
   have:=Int.mul_le_mul_of_nonneg_right (show u+1≤v by omega) (show (0:Int)≤32 ^ b.length by omega);rw[Int.add_mul,Int.one_mul] at this;exact this
  by_cases h1:x<y
  ·rw[if_pos h1];have:=step x y h1;exact⟨⟨fun _=>by omega,fun _=>by omega⟩,fun h=>by omega⟩
  ·rw[if_neg h1];by_cases J:y<x
   ·rw[if_pos J];have:=step y x J;exact⟨⟨fun h=>by omega,fun h=>by omega⟩,fun h=>by omega⟩
   ·rw[if_neg J];have ac:x=y:=by omega
    subst ac;exact⟨W.1.trans ⟨fun h=>by omega,fun h=>by omega⟩,fun h=>by rw[W.2 (by omega)]⟩
theorem sX:∀ {a b:List Int} {i:Nat},(∀ (j:Nat) (x y:Int),j<i→a[j]? =some x→b[j]? =some y→x=y)→i≤a.length→i≤b.length→gO a b=gO (a.drop i) (b.drop i)
 |_,_,0,_,_,_=>by simp
 |[],_,i+1,_,h,_=>by simp at h
 |_::_,[],i+1,_,_,h=>by simp at h
 |x::a,y::b,i+1,he,h1,I=>by
  have J:=he 0 x y (by omega) rfl rfl;subst J;simp only[gO,Int.lt_irrefl,if_false,List.drop_succ_cons];exact sX (fun j u v U hu O=>he (j+1) u v (by omega) hu O) (by simpa using h1) (by simpa using I)
theorem yd:af x3 DF [.int .i8 x] w fun v w'=>v= .bool false∧Ext w w':=by
 refine az func309 ?_;simp only[bF];exact⟨by simp,Ext.refl _⟩
theorem FO:af x3 Dy [.int .i8 x,.int .i8 y] w fun v w'=>v= .int .i64 (if x<y then-1 else if y<x then 1 else 0)∧Ext w w':=by
 refine az func296 ?_;refine yd.mono ?_;rintro _ J _ ⟨rfl,I⟩;refine yd.mono ?_;rintro _ V _ ⟨rfl,O⟩;simp only[aP,an,bA,ab];exact⟨fun h=>⟨by rw[if_pos h],I.trans O⟩,fun h=>⟨fun U=>⟨by rw[if_neg h,if_pos U],I.trans O⟩,fun U=>⟨by rw[if_neg h,if_neg U],I.trans O⟩⟩⟩
theorem FP {cn bv:x1} {b:List Int} (V:aB .i8 w cn a) (Y:aB .i8 w bv b) (aw:a.length=b.length):af x3 Dl [cn,bv] w fun v w'=>v= .int .i64 (gO a b)∧Ext w w':=by
 refine az func265 ?_;have ax:=V.le;rw[aL iX.u V];refine bt.range a.length (fun i _ J=>Ext w J∧ ∀ (j:Nat) (x y:Int),j<i→a[j]? =some x→b[j]? =some y→x=y) (by omega) ⟨Ext.refl _,fun j x y aj=>by omega⟩ ?_ ?_
 ·rintro i _ J ak hi ⟨I,W⟩ al;simp only[an,ab];refine⟨fun _=>?_,fun h=>by omega⟩;obtain⟨x,aa⟩:∃ x,a[i]? =some x:=⟨_,y0 hi⟩;obtain⟨y,ac⟩:∃ y,b[i]? =some y:=⟨_,y0 (by omega)⟩;rw[aZ iX.u eZ.i (by kernel_rfl) (V.ext I) aa,aL iX.u (Y.ext I)];simp only[cm,ab];refine⟨fun h=>by omega,fun _=>?_⟩;rw[aZ iX.u eZ.i (by kernel_rfl) (Y.ext I) ac];refine FO.mono ?_;rintro _ ay _ ⟨rfl,ag⟩;have O:gO a b=gO (a.drop i) (b.drop i):=sX W (by omega) (by omega);have am:a.drop i=x::a.drop (i+1):=by rw[W0 hi,(x4.1 aa).2]
  have ao:b.drop i=y::b.drop (i+1):=by rw[W0 (by omega),(x4.1 ac).2]
  rw[am,ao] at O;simp only[gO] at O;simp only[bF,ab,aI];refine⟨fun ah=>⟨?_,I.trans ag⟩,fun ap=>al _ _ ⟨I.trans ag,fun j aq au aj ad ae=>?_⟩⟩
  ·rw[O];by_cases h1:x<y
   ·rw[if_pos h1,if_pos h1]
   ·by_cases U:y<x
    ·rw[if_neg h1,if_pos U,if_neg h1,if_pos U]
    ·rw[if_neg h1,if_neg U] at ah;exact absurd rfl ah
  ·by_cases av:j=i
   ·subst av;rw[aa] at ad;rw[ac] at ae;cases ad;cases ae;have ai:=Y9.1 ap;by_cases h1:x<y
    ·rw[if_pos h1] at ai;omega
    ·by_cases U:y<x
     ·rw[if_neg h1,if_pos U] at ai;omega
     ·omega
   ·exact W j aq au (by omega) ad ae
 ·rintro _ J ak ⟨I,W⟩;simp only[an,show decide ((a.length:Int)<(a.length:Int))=false from decide_eq_false (by omega),aP];rw[aL iX.u (V.ext I),aL iX.u (Y.ext I)];simp only[an,ab];refine⟨fun h=>by omega,fun _=>⟨?_,I⟩⟩;have O:gO a b=gO (a.drop a.length) (b.drop a.length):=sX W (by omega) (by omega);rw[O,List.drop_length];cases b.drop a.length <;> rfl
theorem FQ {b:List Int} (V:jf a) (W:jf b):af x3 wb [dm a,dm b] w fun v w'=>Ext w w'∧v= .int .i64 (gO a b):=by
 have ah:∀ {c:List Int},jf c→(ints .i8 c).length=6:=fun h=>by simp[h.1]
 refine az func264 ?_;refine bL fun ai J aj ac I=>?_;refine bL fun ak al am Y O=>?_;rw[xR] at I O;intro aa U _ _;have I:=(I.ext Y).ext U;have O:=O.ext U;rw[pW b2.u eZ.i (l:=0) (h:=6) (m:=6) hS hT eM (by omega) (by omega) (by omega),pW b2.u eZ.i (l:=0) (h:=6) (m:=6) hS hT eM (by omega) (by omega) (by omega)];rw[if_neg (by omega),if_neg (by omega)];have ls:∀ {g:Nat} {c:List Int},jf c→ae aa g b2 (ints .i8 c)→aB .i8 aa (.slice (some ⟨g,0+0*1,none⟩) (6-0) (6-0)) c:=fun {g c} ab ad=>by
  unfold aB;refine⟨by simp,g,0,_,6,by rw[ab.1],by rw[ab.1];omega,by simp[maxLen],fun _=>rfl,ad.range⟩
 refine (FP (ls V I) (ls W O) (by rw[V.1,W.1])).mono ?_;rintro _ an _ ⟨rfl,ag⟩;exact⟨((ac.trans Y).trans U).trans ag,rfl⟩
end Go.Proofs.YtgbkinibgjmodaaGreatDoor
namespace Go.Vc
open Go Go.RowKit Go.Shelf Go.Proofs Go.Sort
theorem grown_of (U:Ext w w') (I:cP w w'):∃ q os,w'=grow (w.drewN q) os:=by
 refine⟨w'.drawn-w.drawn,w'.heap.extract w.heap.size w'.heap.size,?_⟩;have J:∀ k,k<w.heap.size→w'.heap[k]? =w.heap[k]?:=fun k J=>by
  have O:w.heap[k]? =some w.heap[k]:=Array.getElem?_eq_getElem J;rw[O];cases V:fK w.heap[k] with
  |true=>exact U.ba k _ O V
  |false=>exact I.ba k _ O V
 have Y:w'.heap=w.heap++w'.heap.extract w.heap.size w'.heap.size:=by
  apply Array.ext_getElem?;intro k;rw[Array.getElem?_append];by_cases h:k<w.heap.size
  ·rw[if_pos h,J k h]
  ·rw[if_neg h,Array.getElem?_extract];have:=U.size;by_cases W:k<w'.heap.size
   ·rw[if_pos (by omega)];congr 1;omega
   ·rw[if_neg (by omega),Array.getElem?_eq_none (by omega)]
 have h1:=I.os;have W:=I.tape.1;have aa:=I.output;have ab:w.drawn+(w'.drawn-w.drawn)=w'.drawn:=by have:=I.tape.2;omega
 cases w';simp only[grow,x2.drewN] at*;subst h1 W aa;rw[←Y,ab]
section
variable {α:Type} [Inhabited α]
theorem ye (enc:α→List x1) (k:Nat) (I:∀ x,(enc x).length=k) (d:Array α):(flatK enc k d).toList=d.toList.flatMap enc:=by
 apply Y8;intro t;by_cases h:t<d.size*k
 ·have O:0<k:=by
   rcases Nat.eq_zero_or_pos k with J|J
   ·rw[J] at h;simp at h
   ·exact J
  have U:t / k<d.size:=(Nat.div_lt_iff_lt_mul O).2 h;have V:=Nat.mod_lt t O;have W:(flatK enc k d).toList[t]? =some ((enc d[t / k]!)[t % k]!):=by
   rw[T5,Array.getElem?_eq_getElem (by simpa using h)];have:=get_flatK enc k d t h;rw[getElem!_pos _ t (by simpa using h)] at this;rw[this]
  have Y:d.toList[t / k]? =some d[t / k]!:=by
   rw[T5,Array.getElem?_eq_getElem U,getElem!_pos d _ U]
  have aa:(enc d[t / k]!)[t % k]? =some ((enc d[t / k]!)[t % k]!):=by
   generalize d[t / k]! =z;rw[y0 (by rw[I];exact V),getElem!_pos (enc z) _ (by rw[I];exact V)]
  have:=mP (f:=enc) (k:=k) (fun a _=>I a) Y aa;rw[W,←this];congr 1;rw[Nat.mul_comm];exact Nat.div_add_mod t k
 ·rw[Z9 (by simpa using h),Z9];rw[gM (k:=k) fun a _=>I a];simpa using h
theorem yf (enc:α→List x1) (k:Nat) (V:∀ x,(enc x).length=k) {g:Nat} {d:Array α} {os:Array Obj} (J:ae w g e cs) (ab:d.size*k≤cs.length):
  ae (sortWorldK enc k w g 0 m d os) g e (d.toList.flatMap enc++cs.drop (d.size*k))∧ ∀ r,r<w.heap.size→r≠g→(sortWorldK enc k w g 0 m d os).heap[r]? =w.heap[r]?:=by
 have Y:=J.lt;have W:∀ r,r<w.heap.size→(sortWorldK enc k w g 0 m d os).heap[r]? =(w.heap.modify g (onCells (putCells id 0 (flatK enc k d))))[r]?:=fun r O=>by
  show ((w.heap.modify g (onCells (putCells id 0 (flatK enc k d))))++os)[r]? =_;rw[Array.getElem?_append_left (by simpa using O)]
 refine⟨?_,fun r O aa=>?_⟩
 ·unfold ae at J ⊢;rw[W g Y,Array.getElem?_modify,if_pos rfl,J];show some (Obj.cells (putCells id 0 (flatK enc k d) cs.toArray) e (0,0))=_;refine congrArg some (congrArg (fun c=>Obj.cells c e (0,0)) ?_);apply Array.ext';apply Y8;intro t;show _=(d.toList.flatMap enc++cs.drop (d.size*k))[t]?;rw[List.getElem?_append,gM (k:=k) fun a _=>V a,T5];unfold putCells;rw[Array.getElem?_mapIdx,List.getElem?_toArray];have U:d.toList.length=d.size:=rfl;by_cases I:t<d.size*k
  ·rw[if_pos (by rw[U];exact I),y0 (by omega),←ye enc k V,T5,Array.getElem?_eq_getElem (by simpa using I)];simp only[Z2,id];rw[if_pos (by simpa using I),Nat.sub_zero,getElem!_pos _ t (by simpa using I)]
  ·rw[if_neg (by rw[U];exact I),List.getElem?_drop,U,show d.size*k+(t-d.size*k)=t by omega];cases ac:cs[t]? with
   |none=>rfl
   |some x=>
    simp only[Z2];rw[if_neg (by simp;omega)]
 ·rw[W r O,Array.getElem?_modify,if_neg (Ne.symm aa)]
end
theorem yg {P:X5} {V:Ren} (an:SlLaysF0.n6 P V) {α:Type} {f:α→List x1} {k:Nat} {G:α→Prop} {num:α→Int} {cf:α→α→Int} {W:FuncId} {cap:Array x1}
  (aQ:∀ w,(isAgg (V.t 24)).run P w= .ok true w) (aR:∀ w,(Go.sizeOf (V.t 24)).run P w= .ok k w) (h1:∀ a,G a→ ∀ u∈f a,u.oneCell'=true) (ao:∀ a,G a→(f a).length=k)
  (aS:∀ a b,G a→G b→(cf a b<0↔num a<num b)) (aA:Enters P W) {w:x2} {g:Nat} {v:x1} {L:List α} (h:a1 f k e w g v L) (aa:∀ a∈L,G a) (aB:L.length<65536)
  (aT:∀ ap a b,ad (fun r=>r=g) w ap→G a→G b→af P W ([.agg (f a).toArray,.agg (f b).toArray]++cap.toList) ap fun u aU=>Ext ap aU∧u= .int .i64 (cf a b)):
  af P (V.f 6) [v,.func (.func W) #[] cap] w fun _ w'=>ad (fun r=>leadsTo v r) w w'∧ ∃ M,M.Perm L∧(∀ (p q:Nat) (x y:α),p<q→M[p]? =some x→M[q]? =some y→num x≤num y)∧a1 f k e w' g v M:=by
 have aC:Enters P (V.f 6):=fun args w=>an.f6.enters rfl args w;obtain⟨⟨bj,aV⟩,bk⟩:=id h;have aD:∀ p c,v= .slice p 0 c→L=[]→af P (V.f 6) [v,.func (.func W) #[] cap] w fun _ w'=>ad (fun r=>leadsTo v r) w w'∧ ∃ M,M.Perm L∧(∀ (p q:Nat) (x y:α),p<q→M[p]? =some x→M[q]? =some y→num x≤num y)∧a1 f k e w' g v M:=fun p c ab aB=>by
  refine .code aC ?_;rw[ab];refine (AnyF.slices_SortFunc_none an p c _ w).mono ?_;rintro bl w' ⟨rfl,rfl⟩;refine⟨_,rfl,cP.refl _,ad.refl _ _,L,.refl _,fun p q x y _ O=>by rw[aB] at O;simp at O,by rw[←ab];exact h⟩
 rcases aV with⟨rfl,aW⟩|⟨c,cs,rfl,U,aE,hm,aq,aX⟩
 ·exact aD _ _ rfl (b8 aW)
 cases au:L with
 |nil=>subst au;exact aD _ _ rfl rfl
 |cons a0 bm=>
 rw[←au];let β:={a:α // G a};have:Inhabited β:=⟨⟨a0,aa a0 (by rw[au];exact .head _)⟩⟩;let enc:β→List x1:=fun x=>f x.1;let d:Array β:=(L.attach.map fun x=>(⟨x.1,aa x.1 x.2⟩:β)).toArray;have aF:d.toList.map Subtype.val=L:=by
  show (L.attach.map fun x=>(⟨x.1,aa x.1 x.2⟩:β)).map Subtype.val=L;rw[List.map_map];exact List.attach_map_subtype_val L
 have ai:d.size=L.length:=by simp[d]
 have Y:∀ x:β,(enc x).length=k:=fun x=>ao x.1 x.2;have aY:d.toList.flatMap enc=L.flatMap f:=by
  have ac:=congrArg (fun l=>l.flatMap f) aF;rw[←ac];exact (List.flatMap_map Subtype.val f d.toList).symm
 have aj:d.size*k≤cs.length:=by rw[ai,aq];exact X0 k aE
 have aZ:HoldsK enc k w g 0 d:=by
  intro j ak;rw[size_flatK] at ak;have aG:j<cs.length:=by omega
  have av:(flatK enc k d)[j]! =cs[j]:=by
   have ac:(flatK enc k d).toList[j]? =some cs[j]:=by
    rw[ye enc k Y,aY,←aX,Z6 (by rw[←ai];exact ak),y0 aG]
   rw[T5] at ac;rw[getElem!_pos _ j (by simpa using ak)];rw[Array.getElem?_eq_getElem (by simpa using ak)] at ac;exact b9 ac
  refine⟨?_,?_⟩
  ·show w.cell? ⟨g,0+j,none⟩=some ((flatK enc k d)[j]!);rw[av];exact U.cell (o:=0+j) (by rw[W6];exact y0 aG)
  ·unfold x2.frozen?;unfold ae at U;rw[U];simp
 have al:∀ x y:β,ltOf (fun x y:β=>cf x.1 y.1) x y=decide (num x.1<num y.1):=fun x y=>by
  unfold ltOf;exact decide_eq_decide.2 (aS x.1 y.1 x.2 y.2)
 have a2:SWO (ltOf fun x y:β=>cf x.1 y.1):=
  ⟨fun x=>by rw[al];simp,fun x y z p q=>by rw[al] at*;simp at*;omega,fun x y z p q=>by rw[al] at*;simp at*;omega⟩
 have aH:∀ m (d2:Array β) os,d2.size=d.size→ad (fun r=>r=g) w (sortWorldK enc k w g 0 m d2 os)∧cP w (sortWorldK enc k w g 0 m d2 os):=fun m d2 os ag=>by
  obtain⟨bn,aI⟩:=yf enc k Y (m:=m) (os:=os) U (d:=d2) (by rw[ag];exact aj);have aJ:w.heap.size≤(sortWorldK enc k w g 0 m d2 os).heap.size:=by
   show w.heap.size≤((w.heap.modify g _)++os).size;simp
  refine⟨⟨aJ,fun r o J _ aw=>?_⟩,rfl,⟨rfl,Nat.le_add_right _ _⟩,rfl,aJ,fun r o J ag=>?_⟩
  ·rw[aI r (l7.1 J).1 aw];exact J
  ·have aw:r≠g:=fun he=>by subst he;unfold ae at U;rw[U] at J;cases J;cases ag
   rw[aI r (l7.1 J).1 aw];exact J
 have a6:CmpLays P W cap enc k (fun x y:β=>cf x.1 y.1) g 0 d.size w:=fun m os a7 ag x y=>by
  have O:=(aT _ x.1 y.1 (aH m a7 os ag).1 x.2 y.2).calls aA;have ah:([x1.agg (f x.1).toArray,.agg (f y.1).toArray]++cap.toList).toArray= #[.agg (enc x).toArray,.agg (enc y).toArray]++cap:=by
   apply Array.ext';simp[enc]
  rw[ah] at O;refine O.mono ?_;rintro _ w' ⟨_,rfl,a8,ba,rfl⟩;exact⟨rfl,grown_of ba a8⟩
 have aK:=AnyQ.slices_SortFunc an k aQ aR enc Y (fun x=>h1 x.1 x.2) (fun x y:β=>cf x.1 y.1) a2 W cap g 0 c d w (fun args w=>aA args w) a6 aZ U.lt (by rw[ai];omega);rw[ai] at aK;refine .code aC (aK.mono ?_);rintro _ w' ⟨rfl,I,n,os,⟨bb,_,ab⟩,bc,rfl⟩;have ax:I.size=d.size:=bb;obtain⟨bd,be⟩:=aH n I os ax;obtain⟨bf,_⟩:=yf enc k Y (m:=n) (os:=os) U (d:=I) (by rw[ax];exact aj);have am:(I.toList.map Subtype.val).Perm L:=by
  have av:(I.extract 0 L.length).toList=I.toList:=by rw[show L.length=I.size by omega,Array.extract_size]
  have bg:(d.extract 0 L.length).toList=d.toList:=by rw[show L.length=d.size by omega,Array.extract_size]
  rw[av,bg] at ab;rw[←aF];exact ab.map _
 have aL:=am.length_eq;refine⟨_,rfl,be,bd.mono fun r _ J=>⟨_,_,_,rfl,J.symm⟩,I.toList.map Subtype.val,am,fun p q x y bh O aM=>?_,⟨?_,.inr ⟨c,_,by rw[aL],bf,by rw[aL];exact aE,hm,?_,?_⟩⟩,fun a ah=>ao a (aa a (am.mem_iff.1 ah))⟩
 ·rw[x8,Y1] at O aM;obtain⟨bo,aN,rfl⟩:=O;obtain⟨bp,aO,rfl⟩:=aM;rw[T5] at aN aO;have aP:=(l7.1 aN);have ay:=(l7.1 aO);have:=bc p q (Y7 _) bh (by have:=ay.1;omega);rw[getElem!_pos I p aP.1,getElem!_pos I q ay.1,aP.2,ay.2,al] at this;simpa using this
 ·rw[gM (k:=k) fun a ah=>ao a (aa a (am.mem_iff.1 ah))]
 ·have az:(I.toList.flatMap enc).length=I.size*k:=by rw[gM (k:=k) fun a _=>Y a];rfl
  rw[o5,az,List.length_drop,ax,aq];rw[aq] at aj;exact Nat.add_sub_cancel' aj
 ·have az:(I.toList.flatMap enc).length=I.size*k:=by rw[gM (k:=k) fun a _=>Y a];rfl
  have bi:(List.map Subtype.val I.toList).length*k=(I.toList.flatMap enc).length:=by rw[az,u5];rfl
  rw[bi,List.take_left,List.flatMap_map]
end Go.Vc
namespace Go.Proofs
open Go.Shelf
def Tryz.sY:Go.Shelf.Ren:=⟨fun|6=>298|15=>181|14=>311|28=>237|29=>238|20=>326|21=>327|22=>328|23=>329|24=>330|25=>331|26=>332|27=>333|46=>341|47=>273|48=>274|49=>342|50=>343|57=>346|n=>n,fun|22=>365|24=>347|25=>364|3=>3|39=>278|0=>0|53=>340|55=>39|4=>4|46=>333|45=>332|50=>337|5=>5|9=>9|66=>375|70=>379|76=>400|77=>401|n=>n,fun|n=>n⟩
theorem Tryz.FR:Go.Proofs.SlLaysF0.n6 Tryz.prog Tryz.sY:={
 mixed:=by kernel_rfl,
 f6:=⟨Tryz.f298.name,by decide,Tryz.func298.trans (congrArg some (by kernel_rfl))⟩,
 f14:=⟨Tryz.f311.name,by decide,Tryz.func311.trans (congrArg some (by kernel_rfl))⟩,
 f15:=Tryz.func181.trans (congrArg some (by kernel_rfl)),
 f20:=⟨Tryz.f326.name,by decide,Tryz.func326.trans (congrArg some (by kernel_rfl))⟩,
 f21:=⟨Tryz.f327.name,by decide,Tryz.func327.trans (congrArg some (by kernel_rfl))⟩,
 f22:=⟨Tryz.f328.name,by decide,Tryz.func328.trans (congrArg some (by kernel_rfl))⟩,
 f23:=⟨Tryz.f329.name,by decide,Tryz.func329.trans (congrArg some (by kernel_rfl))⟩,
 f24:=⟨Tryz.f330.name,by decide,Tryz.func330.trans (congrArg some (by kernel_rfl))⟩,
 f25:=⟨Tryz.f331.name,by decide,Tryz.func331.trans (congrArg some (by kernel_rfl))⟩,
 f26:=⟨Tryz.f332.name,by decide,Tryz.func332.trans (congrArg some (by kernel_rfl))⟩,
 f27:=⟨Tryz.f333.name,by decide,Tryz.func333.trans (congrArg some (by kernel_rfl))⟩,
 f28:=Tryz.func237.trans (congrArg some (by kernel_rfl)),
 f29:=Tryz.func238.trans (congrArg some (by kernel_rfl)),
 f46:=⟨Tryz.f341.name,by decide,Tryz.func341.trans (congrArg some (by kernel_rfl))⟩,
 f47:=Tryz.func273.trans (congrArg some (by kernel_rfl)),
 f48:=Tryz.func274.trans (congrArg some (by kernel_rfl)),
 f49:=⟨Tryz.f342.name,by decide,Tryz.func342.trans (congrArg some (by kernel_rfl))⟩,
 f50:=⟨Tryz.f343.name,by decide,Tryz.func343.trans (congrArg some (by kernel_rfl))⟩,
 f57:=⟨Tryz.f346.name,by decide,Tryz.func346.trans (congrArg some (by kernel_rfl))⟩,
 t0:=Tryz.underlying0,
 a0:=Tryz.isAgg0,
 z0:=Tryz.sizeOf0,
 v0:=Tryz.zeroValue0,
 t3:=Tryz.underlying3,
 a3:=Tryz.isAgg3,
 z3:=Tryz.sizeOf3,
 v3:=Tryz.zeroValue3,
 t4:=Tryz.underlying4,
 a4:=Tryz.isAgg4,
 z4:=Tryz.sizeOf4,
 v4:=Tryz.zeroValue4,
 t5:=Tryz.underlying5,
 a5:=Tryz.isAgg5,
 z5:=Tryz.sizeOf5,
 v5:=Tryz.zeroValue5,
 t9:=Tryz.underlying9,
 a9:=Tryz.isAgg9,
 z9:=Tryz.sizeOf9,
 v9:=Tryz.zeroValue9,
 t22:=Tryz.underlying365,
 a22:=Tryz.isAgg365,
 z22:=Tryz.sizeOf365,
 v22:=Tryz.zeroValue365,
 t25:=Tryz.underlying364,
 a25:=Tryz.isAgg364,
 z25:=Tryz.sizeOf364,
 v25:=Tryz.zeroValue364,
 t39:=Tryz.underlying278,
 a39:=Tryz.isAgg278,
 z39:=Tryz.sizeOf278,
 v39:=Tryz.zeroValue278,
 t45:=Tryz.underlying332,
 a45:=Tryz.isAgg332,
 z45:=Tryz.sizeOf332,
 v45:=Tryz.zeroValue332,
 t46:=Tryz.underlying333,
 a46:=Tryz.isAgg333,
 z46:=Tryz.sizeOf333,
 v46:=Tryz.zeroValue333,
 t50:=Tryz.underlying337,
 a50:=Tryz.isAgg337,
 z50:=Tryz.sizeOf337,
 v50:=Tryz.zeroValue337,
 t53:=Tryz.underlying340,
 a53:=Tryz.isAgg340,
 z53:=Tryz.sizeOf340,
 v53:=Tryz.zeroValue340,
 t55:=Tryz.underlying39,
 a55:=Tryz.isAgg39,
 z55:=Tryz.sizeOf39,
 v55:=Tryz.zeroValue39,
 t66:=Tryz.underlying375,
 a66:=Tryz.isAgg375,
 z66:=Tryz.sizeOf375,
 v66:=Tryz.zeroValue375,
 t70:=Tryz.underlying379,
 a70:=Tryz.isAgg379,
 z70:=Tryz.sizeOf379,
 v70:=Tryz.zeroValue379,
 t76:=Tryz.underlying400,
 a76:=Tryz.isAgg400,
 z76:=Tryz.sizeOf400,
 v76:=Tryz.zeroValue400,
 t77:=Tryz.underlying401,
 a77:=Tryz.isAgg401,
 z77:=Tryz.sizeOf401,
 v77:=Tryz.zeroValue401}
def Tryz.sZ:Go.Shelf.Ren:=⟨fun|6=>218|15=>181|14=>262|28=>237|29=>238|20=>287|21=>288|22=>289|23=>290|24=>291|25=>292|26=>293|27=>294|46=>306|47=>273|48=>274|49=>307|50=>308|57=>325|n=>n,fun|22=>306|24=>311|25=>318|3=>3|39=>278|0=>0|53=>340|55=>39|4=>4|46=>333|45=>332|50=>337|5=>5|9=>9|66=>375|70=>379|76=>400|77=>401|n=>n,fun|n=>n⟩
theorem Tryz.FS:Go.Proofs.SlLaysF0.n6 Tryz.prog Tryz.sZ:={
 mixed:=by kernel_rfl,
 f6:=⟨Tryz.f218.name,by decide,Tryz.func218.trans (congrArg some (by kernel_rfl))⟩,
 f14:=⟨Tryz.f262.name,by decide,Tryz.func262.trans (congrArg some (by kernel_rfl))⟩,
 f15:=Tryz.func181.trans (congrArg some (by kernel_rfl)),
 f20:=⟨Tryz.f287.name,by decide,Tryz.func287.trans (congrArg some (by kernel_rfl))⟩,
 f21:=⟨Tryz.f288.name,by decide,Tryz.func288.trans (congrArg some (by kernel_rfl))⟩,
 f22:=⟨Tryz.f289.name,by decide,Tryz.func289.trans (congrArg some (by kernel_rfl))⟩,
 f23:=⟨Tryz.f290.name,by decide,Tryz.func290.trans (congrArg some (by kernel_rfl))⟩,
 f24:=⟨Tryz.f291.name,by decide,Tryz.func291.trans (congrArg some (by kernel_rfl))⟩,
 f25:=⟨Tryz.f292.name,by decide,Tryz.func292.trans (congrArg some (by kernel_rfl))⟩,
 f26:=⟨Tryz.f293.name,by decide,Tryz.func293.trans (congrArg some (by kernel_rfl))⟩,
 f27:=⟨Tryz.f294.name,by decide,Tryz.func294.trans (congrArg some (by kernel_rfl))⟩,
 f28:=Tryz.func237.trans (congrArg some (by kernel_rfl)),
 f29:=Tryz.func238.trans (congrArg some (by kernel_rfl)),
 f46:=⟨Tryz.f306.name,by decide,Tryz.func306.trans (congrArg some (by kernel_rfl))⟩,
 f47:=Tryz.func273.trans (congrArg some (by kernel_rfl)),
 f48:=Tryz.func274.trans (congrArg some (by kernel_rfl)),
 f49:=⟨Tryz.f307.name,by decide,Tryz.func307.trans (congrArg some (by kernel_rfl))⟩,
 f50:=⟨Tryz.f308.name,by decide,Tryz.func308.trans (congrArg some (by kernel_rfl))⟩,
 f57:=⟨Tryz.f325.name,by decide,Tryz.func325.trans (congrArg some (by kernel_rfl))⟩,
 t0:=Tryz.underlying0,
 a0:=Tryz.isAgg0,
 z0:=Tryz.sizeOf0,
 v0:=Tryz.zeroValue0,
 t3:=Tryz.underlying3,
 a3:=Tryz.isAgg3,
 z3:=Tryz.sizeOf3,
 v3:=Tryz.zeroValue3,
 t4:=Tryz.underlying4,
 a4:=Tryz.isAgg4,
 z4:=Tryz.sizeOf4,
 v4:=Tryz.zeroValue4,
 t5:=Tryz.underlying5,
 a5:=Tryz.isAgg5,
 z5:=Tryz.sizeOf5,
 v5:=Tryz.zeroValue5,
 t9:=Tryz.underlying9,
 a9:=Tryz.isAgg9,
 z9:=Tryz.sizeOf9,
 v9:=Tryz.zeroValue9,
 t22:=Tryz.underlying306,
 a22:=Tryz.isAgg306,
 z22:=Tryz.sizeOf306,
 v22:=Tryz.zeroValue306,
 t25:=Tryz.underlying318,
 a25:=Tryz.isAgg318,
 z25:=Tryz.sizeOf318,
 v25:=Tryz.zeroValue318,
 t39:=Tryz.underlying278,
 a39:=Tryz.isAgg278,
 z39:=Tryz.sizeOf278,
 v39:=Tryz.zeroValue278,
 t45:=Tryz.underlying332,
 a45:=Tryz.isAgg332,
 z45:=Tryz.sizeOf332,
 v45:=Tryz.zeroValue332,
 t46:=Tryz.underlying333,
 a46:=Tryz.isAgg333,
 z46:=Tryz.sizeOf333,
 v46:=Tryz.zeroValue333,
 t50:=Tryz.underlying337,
 a50:=Tryz.isAgg337,
 z50:=Tryz.sizeOf337,
 v50:=Tryz.zeroValue337,
 t53:=Tryz.underlying340,
 a53:=Tryz.isAgg340,
 z53:=Tryz.sizeOf340,
 v53:=Tryz.zeroValue340,
 t55:=Tryz.underlying39,
 a55:=Tryz.isAgg39,
 z55:=Tryz.sizeOf39,
 v55:=Tryz.zeroValue39,
 t66:=Tryz.underlying375,
 a66:=Tryz.isAgg375,
 z66:=Tryz.sizeOf375,
 v66:=Tryz.zeroValue375,
 t70:=Tryz.underlying379,
 a70:=Tryz.isAgg379,
 z70:=Tryz.sizeOf379,
 v70:=Tryz.zeroValue379,
 t76:=Tryz.underlying400,
 a76:=Tryz.isAgg400,
 z76:=Tryz.sizeOf400,
 v76:=Tryz.zeroValue400,
 t77:=Tryz.underlying401,
 a77:=Tryz.isAgg401,
 z77:=Tryz.sizeOf401,
 v77:=Tryz.zeroValue401}
theorem Tryz.FT (w:x2):(isAgg (Tryz.sY.t 24)).run Tryz.prog w= .ok true w:=Tryz.isAgg347 w
theorem Tryz.FU (w:x2):(Go.sizeOf (Tryz.sY.t 24)).run Tryz.prog w= .ok 6 w:=Tryz.sizeOf347 w
theorem Tryz.FV:Tryz.prog.funcs[264]? =some Tryz.f264:=Tryz.func264
theorem Tryz.FW (w:x2):(isAgg (Tryz.sZ.t 24)).run Tryz.prog w= .ok true w:=Tryz.isAgg311 w
theorem Tryz.FX (w:x2):(Go.sizeOf (Tryz.sZ.t 24)).run Tryz.prog w= .ok 2 w:=Tryz.sizeOf311 w
theorem Tryz.FY:Tryz.prog.funcs[219]? =some Tryz.f219:=Tryz.func219
end Go.Proofs
namespace Go.Proofs.YtgbkinibgjmodaaGreatDoor
open Go Go.Vc Go.RowKit Go.Proofs Go.Proofs.Tryz
set_option maxRecDepth 100000
def qx {α:Type} (f:α→Int) (L:List α) (a i:Nat):Prop:=∀ (p q:Nat) (x y:α),a≤p→p<q→q<i→L[p]? =some x→L[q]? =some y→f x≤f y
def mS (L:List (List Int)):Prop:=∀ ks∈L,jf ks
theorem mS.perm {L M:List (List Int)} (h:mS L) (I:M.Perm L):mS M:=fun ks J=>h ks (I.mem_iff.1 J)
theorem FZ {g:Nat} {L:List (List Int)} {i:Nat} (J:y=(i:Int)) (h:lE w g v L) (hi:L[i]? =some ks):
  I x3 (o6 hC v (.int .i64 y)) w (fun p=>I x3 (x6 b2 p) w K)=K (dm ks):=by
 have O:ks.length=6:=by have:=h.2 ks (x5 hi);simpa using this
 rw[cT J hC.u b2.i h (x4.1 hi).1,lD O (h.range hi)]
abbrev yh:x1:=.func (.func wb) #[] #[]
theorem qy {P:X5} {k:o4} {s:ByteArray} {i:Nat} (J:P.underlying t=some .string) (hi:i<s.size):
  I P (Instr.index t (.string s) (.int k (i:Int))) w K=K (.int .u8 (s[i].toNat:Int)):=I.of fun w' _=>by
 simp[Instr.index,asIntOf,run_underlying J,hi]
def du (n:Nat):Nat:=if n=0 then 0 else Nat.log2 n+1
theorem yi (h:n<256):du n≤8:=by
 unfold du;by_cases I:n=0
 ·rw[if_pos I];omega
 ·rw[if_neg I];have J:Nat.log2 n<8:=(Nat.log2_lt I).2 (by omega);omega
set_option maxHeartbeats 1000000 in
theorem F0 {g:Nat} {L:List (List Int)} (h:lE w g v L) (O:mS L) (U:L.length<65536):
  af x3 DA [v,yh] w fun _ w'=>ad (fun r=>leadsTo v r) w w'∧ ∃ M,M.Perm L∧qx fj M 0 M.length∧lE w' g v M:=by
 refine (yg FR (G:=jf) (num:=fj) (cf:=gO) (cap:=#[]) FT FU (fun a _=>yb) (fun a I=>by simp[I.1]) (fun a b I J=>(yc a b (by rw[I.1,J.1]) I.2 J.2).1) (Enters.of x3 FV rfl (by kernel_rfl)) h O U fun ac a b _ I J=>FQ I J).mono ?_;rintro _ w' _ ⟨V,M,W,hu,hm⟩;exact⟨V,M,W,fun p q x y _ Y _ aa ab=>hu p q x y Y aa ab,hm⟩
end Go.Proofs.YtgbkinibgjmodaaGreatDoor
namespace Go.Vc
open Go Go.RowKit
set_option maxRecDepth 100000
theorem Keys.str {P:X5} {k:r8} (I:P.underlying k=some .string):Keys P k fun v=>∃ s,v= .string s:=by
 have key:∀ s,MapKept.IsKey .string (.string s):=fun s=>trivial;refine⟨fun w O v ⟨n,h⟩=>?_,fun w x ⟨n,h⟩ U V=>?_,fun w v ⟨n,h⟩=>?_⟩
 ·subst h;exact MapKept.run_checkKey I (key n) O 9999
 ·subst h;rcases MapKept.findNow_spec (key n) U 0 (fun e he=>by obtain⟨m,h⟩:=V e he;rw[h];exact key m) with⟨h1,J⟩|⟨j,e,h1,J,W⟩
  ·exact .inl ⟨MapKept.run_findKey I h1,J⟩
  ·exact .inr ⟨j,e,by have:=MapKept.run_findKey (P:=P) (w:=w) I h1;simpa using this,J,W⟩
 ·subst h;exact MapKept.run_keyThatStays (d:=.string) (key n)
section
variable {P:X5} {w:x2}
theorem jh {s:Sem x1} (h:∀ K:x1→Prop,I P s w K=K v):bb P s v w:=by
 have h1:I P s w (fun u=>u=v):=(h fun u=>u=v).mpr rfl;obtain⟨u,hu,rfl⟩:=h1;exact hu
variable {k e:r8} {G:x1→Prop}
end
end Go.Vc
namespace Go.Proofs.YtgbkinibgjmodaaGreatDoor
open Go Go.Vc Go.RowKit Go.Proofs Go.Proofs.Tryz
set_option maxRecDepth 100000
def fu:Nat→Nat→List Int
 |0,_=>[]
 |n+1,u=>fu n (u / 10)++[48+((u % 10:Nat):Int)]
theorem oh:∀ (n u:Nat),(fu n u).length=n
 |0,_=>rfl
 |n+1,u=>by rw[fu,o5,oh n];rfl
theorem F1 (n u:Nat):fu (n+2) u=fu n (u / 100)++[48+((u / 10 % 10:Nat):Int),48+((u % 10:Nat):Int)]:=by
 rw[fu,fu,V7];rw[show u / 10 / 10=u / 100 by omega];rfl
theorem yj:∀ (n u:Nat),10 ^ n≤u→u<10 ^ (n+1)→fu (n+1) u=eA u
 |0,u,h1,I=>by
  rw[lu,if_pos (by simpa using I)];simp[fu]
 |n+1,u,h1,I=>by
  have J:(10:Nat) ^ (n+1)=10*10 ^ n:=by rw[Nat.pow_succ,Nat.mul_comm]
  have O:(10:Nat) ^ (n+1+1)=10*10 ^ (n+1):=by rw[Nat.pow_succ,Nat.mul_comm]
  have U:1≤10 ^ n:=Nat.one_le_iff_ne_zero.2 (by simp);rw[lu,if_neg (by omega),fu,yj n (u / 10) (by omega) (by omega)]
def fk (I C:List Int) (nd u:Nat):Prop:=nd≤I.length∧C.length=I.length∧ ∃ t,C.drop nd=t∧I=fu nd u++t
theorem fk.two {I:List Int} {nd u:Nat} (h:fk I C (nd+2) u):fk I ((C.set (nd+1) (48+((u % 10:Nat):Int))).set nd (48+((u / 10 % 10:Nat):Int))) nd (u / 100):=by
 obtain⟨h1,J,t,O,U⟩:=h;refine⟨by omega,by simp[J],_,rfl,?_⟩;rw[U,F1,V7];congr 1;rw[List.drop_set,if_neg (by omega),List.drop_set,if_neg (by omega),←O];have V:nd<C.length:=by omega
 have W:nd+1<C.length:=by omega
 rw[W0 V,W0 W,V2,Nat.add_sub_cancel_left];rfl
theorem fk.one {I:List Int} {u:Nat} (h:fk I C 1 u):C.set 0 (48+((u % 10:Nat):Int))=I:=by
 obtain⟨h1,J,t,O,U⟩:=h;rw[U,fu,fu,List.nil_append,←O];cases C with
 |nil=>simp at J;omega
 |cons c C=>simp
theorem fk.zero {I:List Int} {u:Nat} (h:fk I C 0 u):C=I:=by
 obtain⟨h1,U,t,J,O⟩:=h;rw[O,fu,List.nil_append,←J,List.drop_zero]
def hZ:ByteArray:=⟨#[48,48,48,49,48,50,48,51,48,52,48,53,48,54,48,55,48,56,48,57,49,48,49,49,49,50,49,51,49,52,49,53,49,54,49,55,49,56,49,57,50,48,50,49,50,50,50,51,50,52,50,53,50,54,50,55,50,56,50,57,51,48,51,49,51,50,51,51,51,52,51,53,51,54,51,55,51,56,51,57,52,48,52,49,52,50,52,51,52,52,52,53,52,54,52,55,52,56,52,57,53,48,53,49,53,50,53,51,53,52,53,53,53,54,53,55,53,56,53,57,54,48,54,49,54,50,54,51,54,52,54,53,54,54,54,55,54,56,54,57,55,48,55,49,55,50,55,51,55,52,55,53,55,54,55,55,55,56,55,57,56,48,56,49,56,50,56,51,56,52,56,53,56,54,56,55,56,56,56,57,57,48,57,49,57,50,57,51,57,52,57,53,57,54,57,55,57,56,57,57]⟩
theorem yk:hZ.size=200:=by decide+kernel
theorem F2:∀ q:Fin 100,hZ.data.toList[2*q.val]? =some (UInt8.ofNat (48+q.val / 10))∧hZ.data.toList[2*q.val+1]? =some (UInt8.ofNat (48+q.val % 10)):=by decide+kernel
theorem s3 {q:Nat} (J:q<100):(∀ h,(hZ[2*q]'h).toNat=48+q / 10)∧ ∀ h,(hZ[2*q+1]'h).toNat=48+q % 10:=by
 obtain⟨h1,O⟩:=F2 ⟨q,J⟩;refine⟨fun h=>?_,fun h=>?_⟩
 ·have I:=(x4.1 h1).2;have:hZ[2*q]=UInt8.ofNat (48+q / 10):=I;rw[this,UInt8.toNat_ofNat'];omega
 ·have I:=(x4.1 O).2;have:hZ[2*q+1]=UInt8.ofNat (48+q % 10):=I;rw[this,UInt8.toNat_ofNat'];omega
theorem wrap_u32 (h1:0≤x) (I:x<4294967296):o4.u32.wrap x=x:=by
 simp[o4.wrap,o4.bits,o4.signed];omega
def h0 (w:x2) (g o:Nat) (I C J:List Int):Prop:=ae w g kD (ints .u8 (I++C++J))∧I.length=o
theorem s4 {g o c i:Nat} {J:o4} (O:y=(i:Int)) (hi:i<n):
  I x3 (o6 b7 (.slice (some ⟨g,o,none⟩) n c) (.int J y)) w K=K (.pointer (some ⟨g,o+i,none⟩)):=by
 subst O;rw[fe b7.u b5.i hi (fun _=>rfl),T1]
theorem s5 {g o i:Nat} {I J:List Int} {K:Unit→x2→Prop} (O:h0 w g o I C J) (hi:i<C.length)
  (V:∀ w',ad (fun r=>r=g) w w'→h0 w' g o I (C.set i x) J→K () w'):ax x3 (o3 b5 (.pointer (some ⟨g,o+i,none⟩)) (.int .u8 x)) w K:=by
 obtain⟨O,rfl⟩:=O;refine bl (g:=g) (o:=I.length+i) b5.i rfl rfl O (by simp;omega) fun w' W Y U=>V w' W ⟨?_,rfl⟩;have e:(ints .u8 (I++C++J)).set (I.length+i) (.int .u8 x)=ints .u8 (I++C.set i x++J):=by
  unfold ints;rw[←U3,V7,V8 _ _ (by omega),Nat.add_sub_cancel_left,List.set_append_left _ _ hi,V7]
 rw[e] at U;exact U
theorem lF {g o c nd q i:Nat} {af W t:Int} {Y aa:List Int} {K:x2→Prop} (ag:h0 w g o Y C aa) (aE:C.length=n) (aF:n≤1000) (aG:nd≤n) (h1:(nd:Int)-af=((i+1:Nat):Int)) (ak:(nd:Int)-W=(i:Int)) (al:i+1<n) (am:t=((2*q:Nat):Int)) (ab:q<100)
  (an:∀ w',ad (fun r=>r=g) w w'→h0 w' g o Y ((C.set (i+1) (48+((q % 10:Nat):Int))).set i (48+((q / 10:Nat):Int))) aa→K w'):
  cj w fun J=>
  I x3 (av .sub U false true (.int .i64 (nd:Int)) (.int .i64 af)) J fun ao=>
  I x3 (av .sub U false true (.int .i64 (nd:Int)) (.int .i64 W)) J fun ah=>
  I x3 (av .add mp false true (.int .u32 t) (.int .u32 1)) J fun ap=>
  I x3 (Instr.index cz (.string hZ) ap) J fun t50=>
  I x3 (Instr.index cz (.string hZ) (.int .u32 t)) J fun ai=>
  I x3 (o6 b7 (.slice (some ⟨g,o,none⟩) n c) ao) J fun t53=>
  ax x3 (o3 b5 t53 t50) J fun(_:Unit) V=>
   (Ext J V∨bb x3 (Instr.index cz (.string hZ) (.int .u32 t)) ai V∧bb x3 (av .sub U false true (.int .i64 (nd:Int)) (.int .i64 W)) ah V∧True)∧
  I x3 (o6 b7 (.slice (some ⟨g,o,none⟩) n c) ah) V fun aq=>
   ax x3 (o3 b5 aq ai) V fun(_:Unit) ac=>K ac:=by
 subst am;intro J aj _ _;have au:ad (fun r=>r=g) w J:=aj.O _;have aw:h0 J g o Y C aa:=⟨ag.1.ext aj,ag.2⟩;rw[dd,wrap_i64 (by omega) (by omega),dd,wrap_i64 (by omega) (by omega),aI,wrap_u32 (by omega) (by omega)];rw[show ((2*q:Nat):Int)+1=((2*q+1:Nat):Int) by omega];have ae:=yk;rw[qy cz.u (by rw[ae];omega),qy cz.u (by rw[ae];omega)];rw[(s3 ab).1,(s3 ab).2,s4 h1 al];refine s5 aw (by omega) fun V ay az=>⟨.inr ⟨jh fun K=>?_,jh fun K=>?_,trivial⟩,?_⟩
 ·rw[qy cz.u (by rw[ae];omega),(s3 ab).1]
 ·rw[dd,wrap_i64 (by omega) (by omega)]
 ·rw[s4 ak (by omega)];refine s5 az (by simp;omega) fun ac aA aB=>an ac ((au.trans ay).trans aA) ?_;have aC:48+((q % 10:Nat):Int)=((48+q % 10:Nat):Int):=by omega
  have aD:48+((q / 10:Nat):Int)=((48+q / 10:Nat):Int):=by omega
  rw[aC,aD];exact aB
theorem fk.pair {I:List Int} {nd u q:Nat} (h:fk I C (nd+2) u) (J:q=u % 100):fk I ((C.set (nd+1) (48+((q % 10:Nat):Int))).set nd (48+((q / 10:Nat):Int))) nd (u / 100):=by
 have:=h.two;rw[show u % 10=q % 10 by omega,show u / 10 % 10=q / 10 by omega] at this;exact this
theorem lG {k:o4} {a b:Nat} (J:b≠0):I x3 (av .rem t cx cy (.int k (a:Int)) (.int k (b:Int))) w K=K (.int k ((a % b:Nat):Int)):=by
 rw[ik (by omega),Int.tmod_eq_emod_of_nonneg (by omega),Int.natCast_emod]
theorem u32_quo {a b:Nat} (J:b≠0) (O:a<4294967296):I x3 (av .quo t cx cy (.int .u32 (a:Int)) (.int .u32 (b:Int))) w K=K (.int .u32 ((a / b:Nat):Int)):=by
 have:=Nat.div_le_self a b;rw[nG (by omega),Int.tdiv_eq_ediv_of_nonneg (by omega),←Int.natCast_ediv];generalize a / b=m at this ⊢;rw[wrap_u32 (by omega) (by omega)]
theorem u64_quo {a b:Nat} (J:b≠0) (O:a<18446744073709551616):I x3 (av .quo t cx cy (.int .u64 (a:Int)) (.int .u64 (b:Int))) w K=K (.int .u64 ((a / b:Nat):Int)):=by
 have:=Nat.div_le_self a b;rw[nG (by omega),Int.tdiv_eq_ediv_of_nonneg (by omega),←Int.natCast_ediv];generalize a / b=m at this ⊢;rw[wrap_u64 (by omega) (by omega)]
theorem lH {a b:Nat} (J:a*b<4294967296):I x3 (av .mul t cx cy (.int .u32 (a:Int)) (.int .u32 (b:Int))) w K=K (.int .u32 ((a*b:Nat):Int)):=by
 have e:(a:Int)*(b:Int)=((a*b:Nat):Int):=by simp
 rw[e0,e];generalize a*b=m at J ⊢;rw[wrap_u32 (by omega) (by omega)]
theorem fk.start {u:Nat} (h:C.length=N):fk (fu N u) C N u:=⟨by rw[oh];omega,by rw[oh,h],[],by rw[List.drop_eq_nil_iff];omega,by simp⟩
set_option maxHeartbeats 4000000 in
theorem F3 {g o c u:Nat} {ai aj:List Int} (aL:h0 w g o ai C aj) (aM:C.length=N) (aX:N≤19) (hu:u<10 ^ N):
  af x3 DJ [.slice (some ⟨g,o,none⟩) N c,.int .u64 (u:Int)] w fun v w'=>v= .tuple #[]∧ad (fun r=>r=g) w w'∧h0 w' g o ai (fu N u) aj:=by
 have aa:=oh N u;refine az func314 ?_;rw[gg b7.u];refine⟨fun aN aw J=>∃ I nd:Nat,aN= .int .u64 (I:Int)∧aw= .int .i64 (nd:Int)∧I<10 ^ nd∧nd≤N∧ad (fun r=>r=g) w J∧ ∃ ak,h0 J g o ai ak aj∧fk (fu N u) ak nd I,
  fun _ aw _=>(bB aw).toNat,⟨u,N,rfl,rfl,hu,o7 _,ad.refl _ _,C,aL,fk.start aM⟩,?_⟩
 rintro _ _ J ⟨I,nd,rfl,rfl,al,ac,ax,ak,ay,aq⟩;have aG:ak.length=N:=by rw[aq.2.1,aa]
 have aY:(10:Nat) ^ nd≤10 ^ 19:=Nat.pow_le_pow_right (by omega) (by omega);have aO:I<18446744073709551616:=by omega
 have aZ:(8:Int)=((8:Nat):Int):=rfl;rw[cm,ab];refine⟨fun aP=>?_,fun aP=>?_⟩
 ·obtain⟨m,rfl⟩:∃ m,nd=m+8:=⟨nd-8,by omega⟩;have a1:I % 100000000<100000000:=Nat.mod_lt _ (by omega);rw[show W5 .u64 100000000=W5 .u64 ((100000000:Nat):Int) from rfl,lG (by omega),e1 eb.u mp.u,wrap_u32 (by omega) (by omega),u64_quo (by omega) aO];rw[show W5 .u32 10000=W5 .u32 ((10000:Nat):Int) from rfl,show W5 .u32 100=W5 .u32 ((100:Nat):Int) from rfl,show W5 .u32 2=W5 .u32 ((2:Nat):Int) from rfl];rw[u32_quo (by omega) (by omega),lG (by omega),u32_quo (by omega) (by omega),lH (by omega),lG (by omega),lH (by omega),u32_quo (by omega) (by omega),lH (by omega),lG (by omega),lH (by omega)];refine lF (i:=m+6) (q:=I % 100000000 % 10000 % 100) ay aG (by omega) ac (by omega) (by omega) (by omega) (by omega) (by omega) fun am ae ag=>?_;have U:=aq.pair (q:=I % 100000000 % 10000 % 100) (by omega);have an:=U.2.1.trans aa;refine lF (i:=m+4) (q:=I % 100000000 % 10000 / 100) ag an (by omega) ac (by omega) (by omega) (by omega) (by omega) (by omega) fun ah W V=>?_;have O:=fk.pair (nd:=m+4) (q:=I % 100000000 % 10000 / 100) U (by omega);have aH:=O.2.1.trans aa;refine lF (i:=m+2) (q:=I % 100000000 / 10000 % 100) V aH (by omega) ac (by omega) (by omega) (by omega) (by omega) (by omega) fun aQ aA au=>?_;have aJ:=fk.pair (nd:=m+2) (q:=I % 100000000 / 10000 % 100) O (by omega);have aR:=aJ.2.1.trans aa;refine lF (i:=m) (q:=I % 100000000 / 10000 / 100) au aR (by omega) ac (by omega) (by omega) (by omega) (by omega) (by omega) fun a2 aS aT=>?_;have aK:=fk.pair (nd:=m) (q:=I % 100000000 / 10000 / 100) aJ (by omega);rw[dd,wrap_i64 (by omega) (by omega)];refine⟨⟨I / 100000000,m,rfl,by congr 1;omega,?_,by omega,(((ax.trans ae).trans W).trans aA).trans aS,_,aT,?_⟩,by simp only[bB];omega⟩
  ·rw[Nat.pow_add] at al;exact Nat.div_lt_of_lt_mul (by rw[Nat.mul_comm];exact al)
  ·rw[show I / 100 / 100 / 100 / 100=I / 100000000 by omega] at aK;exact aK
 ·have a6:nd<8:=by omega
  have a7:(10:Nat) ^ nd≤10 ^ 7:=Nat.pow_le_pow_right (by omega) (by omega);rw[e1 eb.u mp.u,wrap_u32 (by omega) (by omega)];refine gY (fun a b am=>∃ Y m:Nat,a= .int .i64 (m:Int)∧b= .int .u32 (Y:Int)∧Y<10 ^ m∧m<4∧m≤N∧ad (fun r=>r=g) w am∧ ∃ av,h0 am g o ai av aj∧fk (fu N u) av m Y) ?_ ?_
  rotate_left
  ·intro aU ao;rw[cm,ab];refine⟨fun aB=>?_,fun aB=>ao _ _ _ ⟨I,nd,rfl,rfl,al,by omega,ac,ax,ak,ay,aq⟩⟩;obtain⟨m,rfl⟩:∃ m,nd=m+4:=⟨nd-4,by omega⟩;rw[show W5 .u32 10000=W5 .u32 ((10000:Nat):Int) from rfl,show W5 .u32 100=W5 .u32 ((100:Nat):Int) from rfl,show W5 .u32 2=W5 .u32 ((2:Nat):Int) from rfl];rw[lG (by omega),u32_quo (by omega) (by omega),u32_quo (by omega) (by omega),lH (by omega),lG (by omega),lH (by omega)];refine lF (i:=m+2) (q:=I % 10000 % 100) ay aG (by omega) ac (by omega) (by omega) (by omega) (by omega) (by omega) fun am ae ag=>?_;have U:=aq.pair (q:=I % 10000 % 100) (by omega);have an:=U.2.1.trans aa;refine lF (i:=m) (q:=I % 10000 / 100) ag an (by omega) ac (by omega) (by omega) (by omega) (by omega) (by omega) fun ah W V=>?_;have O:=fk.pair (nd:=m) (q:=I % 10000 / 100) U (by omega);rw[dd,wrap_i64 (by omega) (by omega)];refine ao _ _ _ ⟨I / 10000,m,by congr 1;omega,rfl,?_,by omega,by omega,(ax.trans ae).trans W,_,V,?_⟩
   ·rw[Nat.pow_add] at al;exact Nat.div_lt_of_lt_mul (by rw[Nat.mul_comm];exact al)
   ·rw[show I / 100 / 100=I / 10000 by omega] at O;exact O
  rintro _ _ am ⟨Y,m,rfl,rfl,aC,a8,aD,ae,av,ag,U⟩;have an:=U.2.1.trans aa;have ba:(10:Nat) ^ m≤10 ^ 3:=Nat.pow_le_pow_right (by omega) (by omega);refine gY (fun a b ah=>∃ ap m:Nat,a= .int .i64 (m:Int)∧b= .int .u32 (ap:Int)∧ap<10 ^ m∧m<2∧m≤N∧ad (fun r=>r=g) w ah∧ ∃ aE,h0 ah g o ai aE aj∧fk (fu N u) aE m ap) ?_ ?_
  rotate_left
  ·intro aU ao;rw[cm,ab];refine⟨fun aB=>?_,fun aB=>ao _ _ _ ⟨Y,m,rfl,rfl,aC,by omega,aD,ae,av,ag,U⟩⟩;obtain⟨m,rfl⟩:∃ aV,m=aV+2:=⟨m-2,by omega⟩;rw[show W5 .u32 100=W5 .u32 ((100:Nat):Int) from rfl,show W5 .u32 2=W5 .u32 ((2:Nat):Int) from rfl];rw[lG (by omega),lH (by omega),u32_quo (by omega) (by omega)];refine lF (i:=m) (q:=Y % 100) ag an (by omega) aD (by omega) (by omega) (by omega) (by omega) (by omega) fun ah W V=>?_;have O:=U.pair (q:=Y % 100) rfl;rw[dd,wrap_i64 (by omega) (by omega)];refine ao _ _ _ ⟨Y / 100,m,by congr 1;omega,rfl,?_,by omega,by omega,ae.trans W,_,V,O⟩;rw[Nat.pow_add] at aC;exact Nat.div_lt_of_lt_mul (by rw[Nat.mul_comm];exact aC)
  rintro _ _ ah ⟨ap,m,rfl,rfl,aF,bb,aD,W,aE,V,O⟩;have aH:=O.2.1.trans aa;rw[bA,ab];refine⟨fun aW=>?_,fun aW=>?_⟩
  ·obtain rfl:m=1:=by omega
   have aF:ap<10:=by simpa using aF
   rw[aI,wrap_u32 (by omega) (by omega),e1 mp.u b5.u,wrap_u8 (by omega) (by omega),s4 (y:=0) (i:=0) rfl (by omega)];refine s5 V (by omega) fun aQ aA au=>?_;have:=O.one;rw[Nat.mod_eq_of_lt aF] at this;rw[this] at au;exact⟨rfl,W.trans aA,au⟩
  ·obtain rfl:m=0:=by omega
   rw[O.zero] at V;exact⟨rfl,W,V⟩
def oi:List Int:=[1,10,100,1000,10000,100000,1000000,10000000,100000000,1000000000,10000000000,100000000000,1000000000000,10000000000000,100000000000000,1000000000000000,10000000000000000,100000000000000000,1000000000000000000,10000000000000000000]
def ep (w:x2):Prop:=w.rangeAt 1 0 (ints .u64 oi)
theorem ep.ext (h:ep w) (I:Ext w w'):ep w':=nF I h
theorem F4:∀ k:Nat,k<20→oi[k]? =some (((10 ^ k:Nat)):Int):=by decide
theorem yl {s:Nat} (h:2 ^ s≤n):du n=s+du (n / 2 ^ s):=by
 have I:=Nat.two_pow_pos s;have h1:n / 2 ^ s≠0:=by have:=Nat.div_pos h I;omega
 have J:n≠0:=by omega
 unfold du;rw[if_neg J,if_neg h1];have e:Nat.log2 n=Nat.log2 (n / 2 ^ s)+s:=by
  refine (Nat.log2_eq_iff J).2 ⟨?_,?_⟩
  ·rw[Nat.pow_add];have:=X0 (2 ^ s) (Nat.log2_self_le h1);have:=Nat.div_mul_le_self n (2 ^ s);omega
  ·have O:=Nat.lt_log2_self (n:=n / 2 ^ s);rw[show Nat.log2 (n / 2 ^ s)+s+1=(Nat.log2 (n / 2 ^ s)+1)+s by omega,Nat.pow_add];have:=X0 (2 ^ s) (show n / 2 ^ s+1≤2 ^ (Nat.log2 (n / 2 ^ s)+1) by omega);have U:=Nat.lt_div_mul_add I (a:=n);rw[V4] at this;omega
 omega
def oj:ByteArray:=⟨#[0,1,2,2,3,3,3,3,4,4,4,4,4,4,4,4,5,5,5,5,5,5,5,5,5,5,5,5,5,5,5,5,6,6,6,6,6,6,6,6,6,6,6,6,6,6,6,6,6,6,6,6,6,6,6,6,6,6,6,6,6,6,6,6,7,7,7,7,7,7,7,7,7,7,7,7,7,7,7,7,7,7,7,7,7,7,7,7,7,7,7,7,7,7,7,7,7,7,7,7,7,7,7,7,7,7,7,7,7,7,7,7,7,7,7,7,7,7,7,7,7,7,7,7,7,7,7,7,8,8,8,8,8,8,8,8,8,8,8,8,8,8,8,8,8,8,8,8,8,8,8,8,8,8,8,8,8,8,8,8,8,8,8,8,8,8,8,8,8,8,8,8,8,8,8,8,8,8,8,8,8,8,8,8,8,8,8,8,8,8,8,8,8,8,8,8,8,8,8,8,8,8,8,8,8,8,8,8,8,8,8,8,8,8,8,8,8,8,8,8,8,8,8,8,8,8,8,8,8,8,8,8,8,8,8,8,8,8,8,8,8,8,8,8,8,8,8,8,8,8,8,8,8,8,8,8]⟩
theorem F5:oj.size=256:=by decide+kernel
theorem F6:∀ q:Fin 256,oj.data.toList[q.val]? =some (UInt8.ofNat (du q.val)):=by decide+kernel
theorem F7 {q:Nat} (I:q<256):∀ h,(oj[q]'h).toNat=du q:=fun h=>by
 have h1:=F6 ⟨q,I⟩;have J:=(x4.1 h1).2;have:oj[q]=UInt8.ofNat (du q):=J;have O:=yi I;rw[this,UInt8.toNat_ofNat'];omega
theorem F8 (am:n<18446744073709551616):af x3 C6 [.int .u64 (n:Int)] w fun v w'=>v= .int .i64 (du n:Int)∧Ext w w':=by
 refine az func238 ?_;have step:∀ {s x m:Nat} {Y:x1→x1→x2→Prop} {y c:Int},s<64→x<18446744073709551616→m+du x=du n→m≤64→y=(2 ^ s:Nat)→c=(s:Int)→2 ^ s≤18446744073709551615→(∀ O V:Nat,O<2 ^ s∨(O=x / 2 ^ s∧V=m+s)→O≤x→V+du O=du n→V≤m+s→Y (.int .u64 (O:Int)) (.int .i64 (V:Int)) w)→
   I x3 (av .geq eb false true (.int .u64 (x:Int)) (.int .u64 y)) w fun t4=>
    Split t4 (I x3 (av .shr eb false true (.int .u64 (x:Int)) (.int .u64 c)) w fun ah=>I x3 (av .add U false true (.int .i64 (m:Int)) (.int .i64 c)) w fun ai=>Y ah ai w) (Y (.int .u64 (x:Int)) (.int .i64 (m:Int)) w):=by
  intro s x m Y y c ac aa hm an aj ak ae W;subst aj ak;rw[cm,ab];refine⟨fun h=>?_,fun h=>W x m (.inl (by omega)) (o7 _) hm (by omega)⟩;rw[sB ac,aI,wrap_i64 (by omega) (by omega)];have:=yl (n:=x) (s:=s) (by omega);have:=W (x / 2 ^ s) (m+s) (.inr ⟨rfl,rfl⟩) (Nat.div_le_self _ _) (by omega) (by omega);exact this
 refine gY (fun x m J=>w=J∧ ∃ O V:Nat,x= .int .u64 (O:Int)∧m= .int .i64 (V:Int)∧O<4294967296∧V+du O=du n∧V≤32) ?_ ?_
 rotate_left
 ·intro Y W;rw[cm,ab];refine⟨fun h=>?_,fun h=>W _ _ _ ⟨rfl,n,0,rfl,rfl,by omega,by omega,by omega⟩⟩;rw[show W5 .u64 32=W5 .u64 ((32:Nat):Int) from rfl,sB (by omega)];have:=yl (n:=n) (s:=32) (by omega);exact W _ _ _ ⟨rfl,n / 2 ^ 32,32,rfl,rfl,by omega,by omega,by omega⟩
 rintro _ _ _ ⟨rfl,x,m,rfl,rfl,aa,hm,ag⟩;refine gY (fun x m J=>w=J∧ ∃ O V:Nat,x= .int .u64 (O:Int)∧m= .int .i64 (V:Int)∧O<65536∧V+du O=du n∧V≤48) ?_ ?_
 rotate_left
 ·intro Y W;refine step (s:=16) (by omega) (by omega) hm (by omega) (by omega) (by omega) (by omega) fun O V h1 ae ad al=>W _ _ _ ⟨rfl,O,V,rfl,rfl,?_,ad,by omega⟩;rcases h1 with h1|⟨h1,_⟩ <;> omega
 rintro _ _ _ ⟨rfl,x,m,rfl,rfl,aa,hm,ag⟩;refine gY (fun x m J=>w=J∧ ∃ O V:Nat,x= .int .u64 (O:Int)∧m= .int .i64 (V:Int)∧O<256∧V+du O=du n∧V≤56) ?_ ?_
 rotate_left
 ·intro Y W;refine step (s:=8) (by omega) (by omega) hm (by omega) (by omega) (by omega) (by omega) fun O V h1 ae ad al=>W _ _ _ ⟨rfl,O,V,rfl,rfl,?_,ad,by omega⟩;rcases h1 with h1|⟨h1,_⟩ <;> omega
 rintro _ _ _ ⟨rfl,x,m,rfl,rfl,aa,hm,ag⟩;have ac:=F5;have ao:=yi aa;rw[e1 eb.u b5.u,wrap_u8 (by omega) (by omega)];refine (qy (s:=oj) cz.u (by rw[ac];omega)).mpr ?_;rw[F7 aa,e1 b5.u U.u,wrap_i64 (by omega) (by omega),aI,wrap_i64 (by omega) (by omega)];exact⟨by congr 1;omega,Ext.refl _⟩
theorem ym {k:o4} {a:Nat} (J:n<64):I x3 (av .shr t cx cy (.int .i64 (a:Int)) (.int k (n:Int))) w K=K (.int .i64 ((a / 2 ^ n:Nat):Int)):=I.of fun w' _=>by
 have e:(a:Int).fdiv (2 ^ min n Y0.bits)=((a / 2 ^ n:Nat):Int):=by
  have:min n Y0.bits=n:=Nat.min_eq_left (by show n≤64;omega);rw[this,Int.fdiv_eq_ediv_of_nonneg _ (by exact Int.le_of_lt (Int.pow_pos (by omega)))];simp
 simp only[av,eqGuard,binOp,Op.shift,Z3,e];rfl
theorem F9:∀ L:Fin 64,7≤L.val→2 ^ L.val≤10 ^ (L.val*78913 / 262144+1)∧10 ^ (L.val*78913 / 262144)≤10*2 ^ (L.val-1)∧1≤L.val*78913 / 262144∧L.val*78913 / 262144<19:=by decide+kernel
theorem Ga {d:Nat} (ag:ep w) (h1:100≤d) (al:d<9223372036854775808):af x3 DI [.int .u64 (d:Int)] w fun v w'=>Ext w w'∧ ∃ n:Nat,v= .int .i64 ((n+1:Nat):Int)∧n<19∧10 ^ n≤d∧d<10 ^ (n+1):=by
 have W:d≠0:=by omega
 have Y:du d=Nat.log2 d+1:=by unfold du;rw[if_neg W]
 have am:2 ^ (du d-1)≤d:=by rw[Y];exact Nat.log2_self_le W
 have an:d<2 ^ du d:=by rw[Y];exact Nat.lt_log2_self
 have ah:7≤du d:=by
  by_cases h:7≤du d
  ·exact h
  ·have:2 ^ du d≤2 ^ 6:=Nat.pow_le_pow_right (by omega) (by omega);omega
 have ai:du d<64:=by
  by_cases h:du d<64
  ·exact h
  ·have:2 ^ 63≤2 ^ (du d-1):=Nat.pow_le_pow_right (by omega) (by omega);omega
 obtain⟨aj,ac,t3,t4⟩:=F9 ⟨du d,ai⟩ ah;simp only at aj ac t3 t4;refine az func313 ?_;refine (F8 (by omega)).mono ?_;rintro _ J _ ⟨rfl,I⟩;generalize du d=L at*;refine af.mono (K:=fun v O=>v= .int .i64 ((L*78913 / 262144:Nat):Int)∧Ext J O) ?_ ?_
 ·refine az func334 ?_;rw[e0,wrap_i64 (by omega) (by omega),show W5 .u64 18=W5 .u64 ((18:Nat):Int) from rfl,show (L:Int)*78913=((L*78913:Nat):Int) by omega,ym (by omega)];exact⟨rfl,Ext.refl _⟩
 rintro _ O _ ⟨rfl,U⟩;generalize L*78913 / 262144=t at*;have ak:=F4 t (by omega);rw[wm (t:=pR) pR.u eb.i (by omega),aa (by kernel_rfl) (by rw[T1];exact ((ag.ext I).ext U) _ _ (jS ak)),cm];refine af.mono (K:=fun v ad=>v= .int .i64 ((if 10 ^ t≤d then 1 else 0:Nat):Int)∧Ext O ad) ?_ ?_
 ·refine az func335 ?_;rw[ab];refine⟨fun h=>⟨by rw[if_pos (by omega)];rfl,Ext.refl _⟩,fun h=>⟨by rw[if_neg (by omega)];rfl,Ext.refl _⟩⟩
 rintro _ ad _ ⟨rfl,ae⟩;rw[aI];by_cases V:10 ^ t≤d
 ·rw[if_pos V,wrap_i64 (by omega) (by omega)];exact⟨(I.trans U).trans ae,t,by congr 1,t4,V,by omega⟩
 ·rw[if_neg V,wrap_i64 (by omega) (by omega)];obtain⟨s,rfl⟩:∃ s,t=s+1:=⟨t-1,by omega⟩;rw[Nat.pow_succ] at ac;exact⟨(I.trans U).trans ae,s,by congr 1,by omega,by omega,by omega⟩
theorem yn {k J:o4} {i:Nat} {s:ByteArray} (O:x=(i:Int)) (U:y=(j:Int)) (V:x3.underlying t=some .string) (W:i≤j) (Y:j≤s.size):
  I x3 (X6 t (.string s) (some (.int k x)) (some (.int J y)) none) w K=K (.string (s.extract i j)):=I.of fun w' _=>by
 subst O U;have aa:=pV (P:=x3) w' (sl:=false) (n:=s.size) (c:=s.size) (low:=some (.int k (i:Int))) (high:=some (.int J (j:Int))) (mx:=none) (l:=i) (h:=j) (m:=s.size) ⟨k,rfl⟩ ⟨J,rfl⟩ eM W Y (o7 _);simp[X6,Instr.slice,run_underlying V,aa]
theorem Gb:∀ q:Fin 100,hZ.extract (2*q.val) (2*q.val+2)=strOfNums [48+((q.val / 10:Nat):Int),48+((q.val % 10:Nat):Int)]:=by decide+kernel
def yo:ByteArray:=⟨#[48,49,50,51,52,53,54,55,56,57,97,98,99,100,101,102,103,104,105,106,107,108,109,110,111,112,113,114,115,116,117,118,119,120,121,122]⟩
theorem Gc:∀ q:Fin 10,yo.extract q.val (q.val+1)=strOfNums [48+(q.val:Int)]:=by decide+kernel
theorem yp (h:n<10):eA n=[48+(n:Int)]:=by rw[lu,if_pos h,Nat.mod_eq_of_lt h];rfl
theorem Gd (h1:10≤n) (I:n<100):eA n=[48+((n / 10:Nat):Int),48+((n % 10:Nat):Int)]:=by
 rw[lu,if_neg (by omega),yp (by omega)];rfl
theorem Ge (I:n<100):af x3 DH [.int .i64 (n:Int)] w fun v w'=>v=bk (eA n)∧Ext w w':=by
 refine az func312 ?_;rw[an,ab];refine⟨fun h=>?_,fun h=>?_⟩
 ·rw[aI,wrap_i64 (by omega) (by omega)];refine (yn (s:=yo) (i:=n) (j:=n+1) rfl (by omega) cz.u (by omega) (by show n+1≤36;omega)).mpr ?_;rw[Gc ⟨n,by omega⟩,yp (by omega)];exact⟨rfl,Ext.refl _⟩
 ·rw[e0,wrap_i64 (by omega) (by omega),e0,wrap_i64 (by omega) (by omega),aI,wrap_i64 (by omega) (by omega)];refine (yn (s:=hZ) (i:=2*n) (j:=2*n+2) (by omega) (by omega) cz.u (by omega) (by rw[yk];omega)).mpr ?_;rw[Gb ⟨n,I⟩,Gd (by omega) I];exact⟨rfl,Ext.refl _⟩
theorem Gf {g:Nat} {O U:List Int} (I:h0 w g 1 O C U) (V:C.length≤23):aB .u8 w (.slice (some ⟨g,1,none⟩) C.length 23) C:=by
 obtain⟨I,W⟩:=I;refine⟨by simp,g,1,_,23,rfl,V,by simp[maxLen],fun _=>rfl,fun j v J=>?_⟩;have Y:j<C.length:=by have:=(x4.1 J).1;simpa using this
 refine I.cell ?_;rw[ints,b6,b6,Z7 (by simp;omega),Z8 (by simp;omega),u5,W,Nat.add_sub_cancel_left];exact J
theorem yq {g:Nat} (J:y=((m+2:Nat):Int)) (hm:m≤22):
  I x3 (X6 kD (.pointer (some ⟨g,0,none⟩)) (some (.int .i64 1)) (some (.int .i64 y)) none) w K=K (.slice (some ⟨g,1,none⟩) (m+1) 23):=by
 subst J;have:=pW (w:=w) (b:=g) (o:=0) (low:=some (.int .i64 1)) (high:=some (.int .i64 ((m+2:Nat):Int))) (mx:=none) (l:=1) (h:=m+2) (m:=24) (K:=K) kD.u b5.i ⟨_,rfl⟩ ⟨_,rfl⟩ eM (by omega) (by omega) (by omega);rw[this,if_neg (by omega)];rfl
set_option maxHeartbeats 1000000 in
theorem Gg (aa:ep w) (ac:n<9223372036854775808):af x3 DC [.int .i64 (n:Int),.int .i64 10] w fun v w'=>v=bk (eA n)∧Ext w w':=by
 refine az func302 ?_;rw[a8];refine (ab).mpr ⟨fun _=>?_,fun h=>absurd rfl h⟩;refine aM (fun v J=>w=J∧v= .bool (decide (n<100))) ?_ ?_
 rotate_left
 ·intro ad I;rw[ld,ab];refine⟨fun _=>?_,fun h=>by omega⟩;rw[an];exact I _ _ ⟨rfl,by congr 1;rw[V1,decide_eq_true_eq,decide_eq_true_eq];omega⟩
 rintro _ _ ⟨rfl,rfl⟩;rw[ab];refine⟨fun h=>?_,fun h=>?_⟩
 ·exact (Ge h).mono fun _ _ _ h=>h
 refine bu kD.i fun g J am U ae=>?_;rw[e1 ak.u eb.u,wrap_u64 (by omega) (by omega)];refine aM (fun v O=>J=O∧v= .int .u64 (n:Int)) ?_ ?_
 rotate_left
 ·intro ad I;rw[an,ab];exact⟨fun h=>by omega,fun _=>I _ _ ⟨rfl,rfl⟩⟩
 rintro _ _ ⟨rfl,rfl⟩;refine (Ga (aa.ext U) (by omega) ac).mono ?_;rintro _ O _ ⟨V,m,rfl,hm,ag,W⟩;rw[aI,wrap_i64 (by omega) (by omega)];rw[yq (m:=m) (by omega) (by omega)];have ah:h0 O g 1 [0] (r9 (m+1) 0) (r9 (22-m) 0):=by
  refine⟨?_,rfl⟩;have e:[0]++r9 (m+1) (0:Int)++r9 (22-m) 0=r9 24 0:=by
   rw[show[(0:Int)]=r9 1 0 from rfl,List.replicate_append_replicate,List.replicate_append_replicate];congr 1;omega
  rw[e];exact ae.ext V
 refine (F3 (N:=m+1) ah (by simp) (by omega) W).mono ?_;rintro _ ao _ ⟨rfl,ai,aj⟩;rw[an,ab];refine⟨fun h=>by omega,fun _=>?_⟩;rw[aI,wrap_i64 (by omega) (by omega)];rw[yq (m:=m) (by omega) (by omega)];have al:=oh (m+1) n;have Y:=Gf aj (by omega);rw[al] at Y;rw[sx b7.u b5.u cz.u Y,yj m n ag W];refine⟨rfl,(U.trans V).then ai fun r ap he=>?_⟩;have he:r=g:=he;omega
theorem Gh (I:ep w) (J:n<9223372036854775808):af x3 r4 [.int .i64 (n:Int)] w fun v w'=>v=bk (eA n)∧Ext w w':=by
 refine az func243 ?_;refine af.mono (K:=fun v w'=>v=bk (eA n)∧Ext w w') ?_ (fun _ _ _ h=>h);refine az func278 ?_;exact (Gg I J).mono fun _ _ _ h=>h
theorem ep.O (h:ep w) (I:ad S w w') (J:¬S 1):ep w':=pS I J h
def cM (w:x2) (g gs:Nat) (A:ag) (B:ag) (clean:Bool) (s:Option aC):Prop:=match s with
 |some s=>cK w g gs A B s clean
 |none=>dG w g gs A B
theorem e3.of {g:Nat} {A:ag} {B:ag} {s:Option aC} (h:e3 w g gs A B clean s w'):ad (bj g gs A) w w'∧cM w' g gs A B clean s:=h
theorem e3.mk {g:Nat} {A:ag} {B:ag} {s:Option aC} (h:ad (bj g gs A) w w') (I:cM w' g gs A B clean s):e3 w g gs A B clean s w':=⟨h,I⟩
theorem cM.O {g:Nat} {A:ag} {B:ag} {s:Option aC} (h:cM w g gs A B clean s) (I:ad S w w') (J:∀ r,bj g gs A r→¬S r) (U:∀ r,b3 g gs A B r→¬S r):cM w' g gs A B clean s:=by
 cases s with
 |none=>exact dG.O (g:=g) (gs:=gs) (A:=A) (B:=B) h I J U
 |some s=>exact cK.O (g:=g) (gs:=gs) (A:=A) (B:=B) (s:=s) (clean:=clean) h I J U
theorem cM.ext {g:Nat} {A:ag} {B:ag} {s:Option aC} (h:cM w g gs A B clean s) (I:Ext w w'):cM w' g gs A B clean s:=h.O (I.O fun _=>False) (fun _ _ h=>h) fun _ _ h=>h
theorem cM.side {g:Nat} {A:ag} {B:ag} {s:Option aC} (h:cM w g gs A B clean s):je w g gs A B:=by
 cases s with
 |none=>exact h.1
 |some s=>exact h.1
def aU (lo hi:Int) (s:Option aC):Option (Int×aC):=s.bind (aY lo hi)
theorem j2 {g:Nat} {A:ag} {B:ag} {s:Option aC} (h:cM w g gs A B clean s):af x3 k7 [.pointer (some ⟨g,0,none⟩),.int .i64 lo,.int .i64 hi] w fun v w'=>e3 w g gs A B clean ((aU lo hi s).map (·.2)) w'∧ ∃ n at_:Int,v= .tuple #[.int .i64 n,.int .i64 at_]∧(∀ q,aU lo hi s=some q→n=q.1)∧(aU lo hi s=none→n=0):=by
 cases s with
 |none=>
  refine (Fc h).mono ?_;rintro _ J _ ⟨I,rfl⟩;exact⟨⟨I.O _,dG.ext (g:=g) (gs:=gs) (A:=A) (B:=B) h I⟩,0,0,rfl,fun q h=>(by cases h),fun _=>rfl⟩
 |some s=>exact sL (s:=s) h
theorem mT {g:Nat} {A:ag} {B:ag} {s:Option aC} (h:cM w g gs A B clean s):af x3 iU [.pointer (some ⟨g,0,none⟩)] w fun v w'=>v= .bool s.isSome∧Ext w w':=by
 cases s with
 |none=>exact lB h
 |some s=>exact mM h
theorem Gi {g:Nat} {A:ag} {B:ag} {s:Option aC} {e:Int} (h:cM w g gs A B clean s) (he:e≠0):af x3 k8 [.pointer (some ⟨g,0,none⟩),.int .i64 e,.int .i64 at_] w fun _ w'=>e3 w g gs A B clean none w':=by
 cases s with
 |none=>
  refine (Fa h).mono ?_;rintro _ J _ I;exact⟨I.O _,dG.ext (g:=g) (gs:=gs) (A:=A) (B:=B) h I⟩
 |some s=>
  refine (qi (s:=s) h he).mono ?_;rintro _ J _ ⟨U,V⟩;exact⟨U.mono fun r _ h=>.inl h,V⟩
theorem ol {g:Nat} {A:ag} {B:ag} {s:Option aC} {b:Bool} (h:cM w g gs A B clean s):af x3 nB [.pointer (some ⟨g,0,none⟩),.bool b,.int .i64 at_] w fun _ w'=>e3 w g gs A B clean (s.map (aV b)) w':=by
 cases s with
 |none=>
  refine (xG h).mono ?_;rintro _ J _ I;exact⟨I.O _,dG.ext (g:=g) (gs:=gs) (A:=A) (B:=B) h I⟩
 |some s=>
  refine (qj (s:=s) h).mono ?_;rintro _ J _ ⟨U,V⟩;exact⟨U.mono fun r _ h=>.inl h,V⟩
theorem kP {n:Int} {s:Option aC} {s':aC} (h:aU lo hi s=some (n,s')):lo≤n∧n≤hi:=by
 cases s with
 |none=>cases h
 |some s=>exact (gl h).1
def eg (ks acc:List Int) (s:Option aC):Option (List Int×aC):=s.bind (hd ks acc)
theorem yr {acc:List Int} {s:Option aC}:eg (k::ks) acc s=match aU 0 (k-1) s with
  |none=>none
  |some (v,s)=>hd ks (acc++[v]) s:=by
 cases s with
 |none=>rfl
 |some s=>
  show hd (k::ks) acc s=_;rw[hd];show _=match aY 0 (k-1) s with|none=>none|some (v,s)=>hd ks (acc++[v]) s
  cases aY 0 (k-1) s <;> rfl
theorem ys:∀ (t:List Int),(∀ x∈t,0≤x∧x≤ao)→(ds t).length≤20*t.length
 |[],_=>by simp[ds]
 |x::t,h=>by
  have O:=ys t fun y I=>h y (.tail _ I);have J:=h x (.head _);have U:=sA 19 x.toNat (by unfold ao at J;omega) (by omega);have e:ds (x::t)=eA x.toNat++[32]++ds t:=by simp[ds]
  rw[e];simp only[o5,j4,List.length_nil];omega
set_option maxHeartbeats 4000000 in
theorem Gj {g al:Nat} {A B:ag} {s:Option aC} {aT:x1→x2→Prop}
  (h:cM w g gs A B clean s) (aV:aB .i64 w sv sizes) (bi:∀ r,leads sv r→¬bj g gs A r∧r≠al) (bm:∀ z∈sizes,1≤z∧z≤ao) (b9:sizes.length≤100001) (bn:ep w) (h1:b3 g gs A B 1)
  (aX:ae w al dr [.slice none 0 0,.int .i64 0]) (aY:¬bj g gs A al) (a1:¬B al)
  (a2:∀ t w' aA W,t.length=sizes.length→(∀ x∈t,0≤x∧x≤ao)→ad (fun r=>bj g gs A r∨r=al) w w'→ae w' al dr [aA,.int .i64 0]→am .i64 ak w' W aA t→w.heap.size≤W→
   cM w' g gs A B clean ((eg sizes [] s).map (·.2))→(∀ q,eg sizes [] s=some q→t=q.1)→aT (bk (ds t)) w'):
  bt (.string ⟨#[]⟩) (.int .i64 0) w fun key aN ap bo=>
   I x3 (av .lss U false false aN (.int .i64 (sizes.length:Int))) ap fun bp=>
   Split bp (I x3 (o6 au sv aN) ap fun bq=>
   I x3 (x6 ak bq) ap fun br=>
   I x3 (av .sub ak false true br (.int .i64 1)) ap fun bu=>
   af x3 k7 [.pointer (some ⟨g,0,none⟩),(.int .i64 0),bu] ap fun a6 aw=>
   I x3 (j6 a6 0) aw fun a7=>
   I x3 (j6 a6 1) aw fun ca=>
   I x3 (x7 dr (.pointer (some ⟨al,0,none⟩)) 0) aw fun bw=>
   I x3 (x6 au bw) aw fun bx=>
   ax x3 (Z4 au 1 #[(0,a7)]) aw fun bz bA=>
   ax x3 (l9 #[au,au] au #[bx,bz]) bA fun bB a8=>
   I x3 (x7 dr (.pointer (some ⟨al,0,none⟩)) 0) a8 fun bC=>
   ax x3 (o3 au bC bB) a8 fun(_:Unit) bD=>
   af x3 r4 [a7] bD fun bE aE=>
   I x3 (av .add cz false true bE (.string ⟨#[32]⟩)) aE fun bF=>
   I x3 (av .add cz false false key bF) aE fun bG=>
   I x3 (av .add U false true aN (.int .i64 1)) aE fun bH=>
   bo bG bH aE) (aT key ap):=by
 have cb:=aX.lt;have bI:=h.side;obtain⟨cc,cd,ce,bJ,bK⟩:=bI;refine bt.range sizes.length (fun j key J=>∃ t aA W ac,key=bk (ds t)∧t.length=j∧(∀ x∈t,0≤x∧x≤ao)∧ad (fun r=>bj g gs A r∨r=al) w J∧ae J al dr [aA,.int .i64 0]∧am .i64 ak J W aA t∧w.heap.size≤W∧
  cM J g gs A B clean ac∧eg sizes [] s=eg (sizes.drop j) t ac) aV.le ⟨[],_,w.heap.size,s,rfl,rfl,fun x aj=>(by cases aj),ad.refl _ _,aX,am.nil _ _ _ _,o7 _,h,rfl⟩ ?_ ?_
 rotate_left
 ·rintro _ J bL ⟨t,aA,W,ac,rfl,aF,ay,aq,aG,aH,aO,aJ,he⟩;rw[an,ab];refine⟨fun h=>by omega,fun _=>?_⟩;rw[List.drop_length] at he;cases ac with
  |none=>
   have he:eg sizes [] s=none:=he;exact a2 t J aA W aF ay aq aG aH aO (by rw[he];exact aJ) (fun q Y=>by rw[he] at Y;cases Y)
  |some ac=>
   have he:eg sizes [] s=some (t,ac):=he;exact a2 t J aA W aF ay aq aG aH aO (by rw[he];exact aJ) (fun q Y=>by rw[he] at Y;cases Y;rfl)
 rintro j _ J bL ba ⟨t,aA,W,ac,rfl,aF,ay,aq,aG,aH,aO,aJ,he⟩ bM;obtain⟨z,aP⟩:∃ z,sizes[j]? =some z:=⟨_,y0 ba⟩;have bN:=bm z (x5 aP);have cg:z≤4611686018427387904:=bN.2;have bO:aB .i64 J sv sizes:=hW aV aq fun r ai a n c bP bQ=>by
  have:=bi r ⟨a,n,c,bP,bQ⟩;exact ai.elim this.1 this.2
 have ah:∀ r,bj g gs A r→r<w.heap.size:=bJ;rw[an,ab];refine⟨fun _=>?_,fun h=>by omega⟩;rw[aZ au.u ak.i (by kernel_rfl) bO aP,dd,wrap_i64 (by omega) (by omega)];refine (j2 aJ).mono ?_;rintro _ ch _ ⟨bR,n,at_,rfl,bb,bS⟩;obtain⟨aK,bT⟩:=bR.of;have bc:0≤n∧n≤ao:=by
  cases Y:aU 0 (z-1) ac with
  |none=>rw[bS Y];exact⟨by omega,by unfold ao;omega⟩
  |some q=>
   rw[bb q Y];have:=kP (s':=q.2) (n:=q.1) Y;exact⟨this.1,by unfold ao;omega⟩
 rw[aD (v:=.int .i64 n) rfl,aD (v:=.int .i64 at_) rfl];have bd:=aG.O aK aY;have bU:=aH.O aK fun _ bV=>by have:=ah _ bV;omega
 rw[V dr.p rfl,aa (by kernel_rfl) (bd.cell (o:=0+0) rfl)];refine dx au.u ak.i rfl fun a aW bW ci az bX=>?_;refine hb au.u ak.i rfl (bU.ext az) bX.ls (by simp;omega) (by simp;omega) fun be bf bY cj aQ aL=>?_;have ck:=aq.size;have cl:=aK.size;have z3:=az.size;have z4:=aL.size;rw[V dr.p rfl];have bZ:=(bd.ext az).O aL (fun he=>by have he:al=W:=he;omega);refine bl (g:=al) (o:=0) au.i aQ.ls.cells.1 aQ.ls.cells.2 bZ (by simp) fun bg aR cm aS=>?_;have aS:ae bg al dr [be,.int .i64 0]:=aS;have b0:ad (fun r=>bj g gs A r∨r=al) w bW:=(aq.trans (aK.mono fun r _ h=>.inl h)).trans (az.O _);have b1:ad (fun r=>bj g gs A r∨r=al) w bY:=fB b0 aL fun r ai he=>by have he:r=W:=he;omega
 have bh:ad (fun r=>bj g gs A r∨r=al) w bg:=b1.trans (aR.mono fun r _ h=>.inr h);have b2:¬(fun r=>bj g gs A r∨r=al) 1:=fun h=>h.elim h1.1 fun h=>a1 (h▸h1.2);obtain⟨m,rfl⟩:∃ m:Nat,n=(m:Int):=⟨n.toNat,by omega⟩;unfold ao at bc;refine (Gh (bn.O bh b2) (by omega)).mono ?_;rintro _ cn _ ⟨rfl,aM⟩;have cp:=sA 19 m (by omega) (by omega);have cq:=ys t ay;rw[show (ByteArray.mk #[32])=strOfNums [32] from rfl,sw (by simp;omega),sw (by simp;omega),aI];refine bM _ _ ⟨t++[(m:Int)],be,bf,(aU 0 (z-1) ac).map (·.2),?_,by simp[aF],fun x aj=>?_,bh.trans (aM.O _),aS.ext aM,(aQ.O aR (fun _ he=>by have he:bf=al:=he;omega)).ext aM,by omega,?_,?_⟩
 ·rw[EB,Z3]
 ·rcases n9.1 aj with aj|aj
  ·exact ay x aj
  ·rw[j0.1 aj];exact bc
 ·refine cM.ext ?_ aM;have b4:=bT.ext az;have b5:∀ r,bj g gs A r→¬(fun r=>r=W) r:=fun r ai he=>by have:=ah r ai;have he:r=W:=he;omega
  have b6:∀ r,b3 g gs A B r→¬(fun r=>r=W) r:=fun r ai he=>by have:=bK r ai.2;have he:r=W:=he;omega
  have b7:∀ r,bj g gs A r→¬(fun r=>r=al) r:=fun r ai he=>by have he:r=al:=he;exact aY (he▸ai)
  have b8:∀ r,b3 g gs A B r→¬(fun r=>r=al) r:=fun r ai he=>by have he:r=al:=he;exact a1 (he▸ai.2)
  exact (b4.O aL b5 b6).O aR b7 b8
 ·rw[he,W0 ba,show sizes[j]=z from (x4.1 aP).2,yr];cases Y:aU 0 (z-1) ac with
  |none=>rfl
  |some q=>
   rw[bb q Y];rfl
def di (s:aC):Prop:=s.big=false→s.told≤16384
def h2 (n:Int) (s:aC):aC:=aV (decide (16384<min (s.told+n) ao)) {s with told:=min (s.told+n) ao}
theorem Gk (n:Int) (s:aC):di (h2 n s):=fun h=>by
 have h:(s.big||decide (16384<min (s.told+n) ao))=false:=h;have:=of_decide_eq_false (T3.1 h).2;show min (s.told+n) ao≤16384;omega
theorem Gl {g:Nat} {A B:ag} {s:Option aC} {n:Int} {K:x2→Prop} (h:cM w g gs A B clean s) (aA:∀ t,s=some t→0≤n∧n≤ao∧di t)
  (aq:∀ w',ad (bj g gs A) w w'→cM w' g gs A B clean (s.map (h2 n))→K w'):
  I x3 (aX (.pointer (some ⟨g,0,none⟩))) w fun aB=>
  I x3 (x7 bT aB 2) w fun aD=>
  I x3 (x6 ak aD) w fun aE=>
  I x3 (av .add ak false false aE (.int .i64 n)) w fun aF=>
  I x3 (n0.min_ #[ak,ak] ak #[aF,(.int .i64 4611686018427387904)]) w fun aG=>
  I x3 (aX (.pointer (some ⟨g,0,none⟩))) w fun aH=>
  I x3 (x7 bT aH 2) w fun aJ=>
  ax x3 (o3 ak aJ aG) w fun(_:Unit) ac=>
  I x3 (aX (.pointer (some ⟨g,0,none⟩))) ac fun t77=>
  I x3 (x7 bT t77 2) ac fun aK=>
  I x3 (x6 ak aK) ac fun aL=>
  I x3 (av .gtr ak false true aL (.int .i64 16384)) ac fun aM=>
  af x3 nB [.pointer (some ⟨g,0,none⟩),aM,.int .i64 at_] ac fun _ aN=>K aN:=by
 cases s with
 |none=>
  obtain⟨Y,e,big,aj,al,told,sv,l,ah,am,an⟩:=id h;rw[aw,V bT.p rfl,aa (by kernel_rfl) (ah.cell (o:=0+5) rfl),aI,hD,aw,V bT.p rfl];refine bl (g:=g) (o:=5) ak.i rfl rfl ah (by simp[eQ]) fun J U aO W=>?_;rw[aw,V bT.p rfl,aa (by kernel_rfl) (W.cell (o:=0+5) rfl),bA];have au:dG J g gs A B:=⟨Y.O U,e,big,aj,al,_,sv,l,W,am,ai.O an U fun r _ h ap=>qg h Y.2.1 ap⟩;refine (xG au).mono ?_;rintro _ aP _ ay;exact aq _ ((U.mono fun r _ h=>.inl h).trans (ay.O _)) (au.ext ay)
 |some s=>
  obtain⟨aY,aQ,hi⟩:=aA s rfl;obtain⟨Y,aR,aS,big,aj,al,told,sv,ah,am,an⟩:=id h;rw[aw,V bT.p rfl,aa (by kernel_rfl) (ah.cell (o:=0+5) rfl),aI,hD,aw,V bT.p rfl];refine bl (g:=g) (o:=5) ak.i rfl rfl ah (by simp[eQ]) fun J U aO W=>?_;have W:ae J g bT (eQ gs 0 big aj al (min (Y0.wrap (told+n)) 4611686018427387904) sv):=W;rw[aw,V bT.p rfl,aa (by kernel_rfl) (W.cell (o:=0+5) rfl),bA];have key:s.big=false→min (Y0.wrap (told+n)) 4611686018427387904=min (s.told+n) ao:=fun ab=>by
   rw[am.2 ab];have:=hi ab;unfold ao at aQ ⊢;rw[wrap_i64 (by omega) (by omega)]
  have aT:cK J g gs A B {s with told:=min (s.told+n) ao} clean:=⟨Y.O U,aR.O U (fun he=>Y.1 he.symm) (fun r aU he=>aU.1 (.inl he)),⟨by show 0≤min _ _;unfold ao;omega,by show min _ _≤_;omega,aS.2.2⟩,big,aj,al,_,sv,W,⟨am.1,key⟩,ai.O an U fun r _ h ap=>qg h Y.2.1 ap⟩;refine (qj aT).mono ?_;rintro _ aP _ ⟨aW,az⟩;refine aq _ ((U.trans aW).mono fun r _ h=>.inl h) ?_;have e:aV (decide (16384<min (Y0.wrap (told+n)) 4611686018427387904)) {s with told:=min (s.told+n) ao}=h2 n s:=by
   cases ab:s.big with
   |false=>rw[key ab,←ab];rfl
   |true=>simp[h2,aV,ab]
  rw[e] at az;exact az
def hj (sizes:List Int) (s:Option aC):Option (List (List Int×Int)×aC):=s.bind (dh sizes)
def ji (w:x2) (m:Nat) (acc:List (List Int×Int)):Prop:=cC w m (acc.map fun p=>(bk (ds p.1),.int .i64 1))
def iz (w:x2) (m:Nat):Prop:=∃ d,cC w m d∧ ∀ p∈d,∃ (k:ByteArray) (c:Int),p=(.string k,.int .i64 c)
theorem ji.any {acc:List (List Int×Int)} (h:ji w m acc):iz w m:=⟨_,h,fun p I=>by
 obtain⟨q,_,rfl⟩:=j5.1 I;exact⟨_,_,rfl⟩⟩
theorem Gm {k:ByteArray} (h:iz w m) (V:∀ c:Int,K (.int .i64 c)):I x3 (Instr.lookup fA (.map (some m)) (.string k) false) w K:=by
 obtain⟨d,hm,W⟩:=h;have Y:=Keys.str cz.u;have aa:∀ p∈d,∃ s,p.1=x1.string s:=fun p J=>by obtain⟨s,c,rfl⟩:=W p J;exact⟨s,rfl⟩
 by_cases he:∃ p∈d,p.1=x1.string k
 ·obtain⟨p,J,O⟩:=he;obtain⟨j,ab⟩:=Y2.1 J;obtain⟨s,c,rfl⟩:=W p J;have O:x1.string s=x1.string k:=O;rw[O] at ab;rw[n8 fA.u Y hm aa ⟨k,rfl⟩ ab];exact V c
 ·have ac:∀ p∈d,p.1≠x1.string k:=fun p J h=>he ⟨p,J,h⟩;rw[qq fA.u Y ⟨_,_,U.i⟩ hm aa ⟨k,rfl⟩ ac];exact V 0
theorem Gn {k:ByteArray} {K:Unit→x2→Prop} (h:iz w m) (V:∀ w',ad (fun r=>r=m) w w'→iz w' m→K () w'):ax x3 (Instr.mapUpdate fA (.map (some m)) (.string k) (.int .i64 c)) w K:=by
 obtain⟨d,hm,J⟩:=h;have W:∀ p∈d,∃ s,p.1=x1.string s:=fun p I=>by obtain⟨s,c,rfl⟩:=J p I;exact⟨s,rfl⟩
 refine oa fA.u (Keys.str cz.u) hm W ⟨k,rfl⟩ (fun j v0 w' Y O U=>V w' U ⟨_,O,fun p I=>?_⟩) (fun w' aa O U=>V w' U ⟨_,O,fun p I=>?_⟩)
 ·rcases X9 I with I|rfl
  ·exact J p I
  ·exact⟨_,_,rfl⟩
 ·rcases n9.1 I with I|I
  ·exact J p I
  ·rw[j0.1 I];exact⟨_,_,rfl⟩
theorem yt {b:List Int} (I:∀ x∈a,0≤x) (J:∀ x∈b,0≤x) (h:bk (ds a)=bk (ds b)):a=b:=by
 have h:strOfNums (ds a)=strOfNums (ds b):=x1.string.inj h;exact w5 I J (str_inj (w6 a) (w6 b) h)
theorem s6 {acc:List (List Int×Int)}:∀ p∈acc.map fun p=>(bk (ds p.1),W5 .i64 1),∃ s,p.1=x1.string s:=fun p I=>by
 obtain⟨q,_,rfl⟩:=j5.1 I;exact⟨_,rfl⟩
theorem yu {acc:List (List Int×Int)} {t:List Int} (h:ji w m acc) (W:∀ p∈acc,∀ x∈p.1,0≤x) (Y:∀ x∈t,0≤x):
  I x3 (Instr.lookup fA (.map (some m)) (bk (ds t)) false) w K=K (.int .i64 (if t∈acc.map (·.1) then 1 else 0)):=by
 have O:=Keys.str cz.u;by_cases he:t∈acc.map (·.1)
 ·rw[if_pos he];obtain⟨p,J,rfl⟩:=j5.1 he;obtain⟨j,aa⟩:=Y2.1 J;rw[n8 fA.u O h s6 ⟨_,rfl⟩ (j:=j) (v:=.int .i64 1) (by rw[x8,aa];rfl)];simp
 ·rw[if_neg he];rw[qq fA.u O ⟨_,_,U.i⟩ h s6 ⟨_,rfl⟩ (fun p J ab=>?_)]
  ·simp
  ·obtain⟨q,V,rfl⟩:=j5.1 J;have:=yt (W q V) Y ab;exact he (j5.2 ⟨q,V,this⟩)
theorem Gp {acc:List (List Int×Int)} {t:List Int} {K:Unit→x2→Prop} (h:ji w m acc) (W:∀ p∈acc,∀ x∈p.1,0≤x) (Y:∀ x∈t,0≤x) (aa:t∉acc.map (·.1))
  (ab:∀ w',ad (fun r=>r=m) w w'→ji w' m (acc++[(t,c)])→K () w'):ax x3 (Instr.mapUpdate fA (.map (some m)) (bk (ds t)) (.int .i64 1)) w K:=by
 refine oa fA.u (Keys.str cz.u) h s6 ⟨_,rfl⟩ (fun j v0 w' J O U=>?_) (fun w' _ O U=>ab w' U ?_)
 ·rw[x8] at J;obtain⟨q,V,I⟩:=Y1.1 J;have I:bk (ds q.1)=bk (ds t):=congrArg Prod.fst I;have:=yt (W q (x5 V)) Y I;exact absurd (j5.2 ⟨q,x5 V,this⟩) aa
 ·unfold ji;rw[b6];exact O
theorem Gq {acc:List (List Int×Int)} {t:List Int} {ok:Prop} {K:Unit→x2→Prop} (V:iz w m) (ae:ok→ji w m acc∧(∀ p∈acc,∀ x∈p.1,0≤x)∧(∀ x∈t,0≤x)∧t∉acc.map (·.1))
  (W:∀ w',ad (fun r=>r=m) w w'→iz w' m→(ok→ji w' m (acc++[(t,c)]))→K () w'):
  I x3 (Instr.lookup fA (.map (some m)) (bk (ds t)) false) w fun af=>
  I x3 (av .add U false true af (.int .i64 1)) w fun ag=>
  ax x3 (Instr.mapUpdate fA (.map (some m)) (bk (ds t)) ag) w K:=by
 by_cases Y:ok
 ·obtain⟨h1,aa,ab,ac⟩:=ae Y;rw[yu h1 aa ab,if_neg ac,aI,wrap_i64 (by omega) (by omega)];exact Gp (c:=c) h1 aa ab ac fun w' O J=>W w' O J.any fun _=>J
 ·refine Gm V fun ah=>?_;rw[aI];exact Gn V fun w' O J=>W w' O J fun h=>absurd h Y
def eD {α:Type} (f:List α→aC→Option (α×aC)) (n:Nat) (acc:List α) (o:Option aC):Option (List α×aC):=o.bind (ch f n acc)
theorem iz.O (h:iz w m) (I:ad S w w') (J:¬S m):iz w' m:=by
 obtain⟨d,h1,U⟩:=h;exact⟨d,h1.O I J,U⟩
theorem cM.words {g:Nat} {A:ag} {B:ag} {s:aC} (h:cM w g gs A B clean (some s)):s.toks.length≤100000:=by
 have h:cK w g gs A B s clean:=h;exact h.2.1.words.1
theorem yv {acc:List (List Int×Int)} {st:aC} {t:List Int} (O:∀ q,eg sizes [] (some st)=some q→t=q.1) (I:∀ q,aU 0 ao ((eg sizes [] (some st)).map (·.2))=some q→c=q.1):
  (aU 0 ao ((eg sizes [] (some st)).map (·.2))=none→dg sizes acc st=none)∧ ∀ q,aU 0 ao ((eg sizes [] (some st)).map (·.2))=some q→dg sizes acc st=if t∈acc.map (·.1) then none else some ((t,c),q.2):=by
 have e:eg sizes [] (some st)=hd sizes [] st:=rfl;rw[e] at O I ⊢;unfold dg;cases h1:hd sizes [] st with
 |none=>exact⟨fun _=>rfl,fun q J=>(by cases J)⟩
 |some q=>
  obtain⟨Y,U⟩:=q;rw[h1] at O I;have:=O _ rfl;subst this;have V:aU 0 ao ((some (t,U)).map (·.2))=aY 0 ao U:=rfl;rw[V] at I ⊢;simp only;cases W:aY 0 ao U with
  |none=>exact⟨fun _=>rfl,fun q J=>(by cases J)⟩
  |some q=>
   obtain⟨aa,ab⟩:=q;rw[W] at I;have:=I _ rfl;subst this;exact⟨fun h=>(by cases h),fun q J=>(by cases J;rfl)⟩
set_option maxHeartbeats 8000000 in
theorem Gr {g:Nat} {A B:ag} {s:Option aC} {Q:x1→x2→Prop}
  (h:cM w g gs A B clean s) (cd:aB .i64 w sv sizes) (bm:∀ r,leads sv r→¬bj g gs A r∧r<w.heap.size) (ce:∀ z∈sizes,1≤z∧z≤ao) (cg:sizes.length≤100001) (ch:ep w) (h1:b3 g gs A B 1) (ci:(N:Int)≤ao)
  (bQ:∀ v w' l,e3 w g gs A B clean ((eD (dg sizes) N [] s).map (·.2)) w'→bi (dV w.heap.size) bh w' [v] (show List (List Int×Int) from l)→(∀ q,eD (dg sizes) N [] s=some q→l=q.1)→Q v w'):
  ax x3 (Instr.makeMap fA none) w fun bn Y=>
 bt (.slice none 0 0) (.int .i64 0) Y fun out i ap k=>
  be (α:=x1→x2→Prop) (fun(cj:x1) (aH:x2)=>
   Split cj (ax x3 (T7 dr true (.tuple #[])) aH fun x W=>
  I x3 (Z5 #[au] U #[sv]) W fun ck=>
  bt (.string ⟨#[]⟩) (.int .i64 0) W fun key bo aJ cl=>
   I x3 (av .lss U false false bo ck) aJ fun cm=>
   Split cm (I x3 (o6 au sv bo) aJ fun cn=>
   I x3 (x6 ak cn) aJ fun cp=>
   I x3 (av .sub ak false true cp (.int .i64 1)) aJ fun cq=>
   af x3 k7 [.pointer (some ⟨g,0,none⟩),(.int .i64 0),cq] aJ fun bR aQ=>
   I x3 (j6 bR 0) aQ fun bS=>
   I x3 (j6 bR 1) aQ fun dK=>
   I x3 (x7 dr x 0) aQ fun cr=>
   I x3 (x6 au cr) aQ fun ct=>
   ax x3 (Z4 au 1 #[(0,bS)]) aQ fun cu aq=>
   ax x3 (l9 #[au,au] au #[ct,cu]) aq fun cw bT=>
   I x3 (x7 dr x 0) bT fun cA=>
   ax x3 (o3 au cA cw) bT fun(_:Unit) cB=>
   af x3 r4 [bS] cB fun cD a2=>
   I x3 (av .add cz false true cD (.string ⟨#[32]⟩)) a2 fun cE=>
   I x3 (av .add cz false false key cE) a2 fun cF=>
   I x3 (av .add U false true bo (.int .i64 1)) a2 fun cG=>
   cl cF cG a2)
    (af x3 k7 [.pointer (some ⟨g,0,none⟩),(.int .i64 0),(.int .i64 4611686018427387904)] aJ fun bU a6=>
  I x3 (j6 bU 0) a6 fun cH=>
  I x3 (j6 bU 1) a6 fun cI=>
  I x3 (x7 dr x 1) a6 fun cJ=>
  ax x3 (o3 ak cJ cH) a6 fun(_:Unit) cK=>
  be (α:=x2→Prop) (fun(aK:x2)=>
   I x3 (Instr.lookup fA bn key false) aK fun cL=>
   I x3 (av .add U false true cL (.int .i64 1)) aK fun cN=>
   ax x3 (Instr.mapUpdate fA bn key cN) aK fun(_:Unit) aR=>
   I x3 (x6 dr x) aR fun cO=>
   ax x3 (Z4 gZ 1 #[(0,cO)]) aR fun cP aX=>
   ax x3 (l9 #[gZ,gZ] gZ #[out,cP]) aX fun cQ a7=>
   I x3 (av .add ak false true i (.int .i64 1)) a7 fun cR=>
  k cQ cR a7) fun bV=>
  be (α:=x1→x2→Prop) (fun(cS:x1) (aE:x2)=>
   Split cS (af x3 k8 [.pointer (some ⟨g,0,none⟩),(.int .i64 4),cI] aE fun dL bW=>
    bV bW)
    (bV aE)) fun bX=>
  af x3 iU [.pointer (some ⟨g,0,none⟩)] cK fun cT aS=>
  Split cT (I x3 (Instr.lookup fA bn key false) aS fun cU=>
  I x3 (av .gtr U false true cU (.int .i64 0)) aS fun cV=>
  bX cV aS)
   (bX (.bool false) aS)))
    (Q out aH)) fun bY=>
  I x3 (av .lss ak false false i (.int .i64 (N:Int))) ap fun cW=>
  Split cW (af x3 iU [.pointer (some ⟨g,0,none⟩)] ap fun cX cY=>
  bY cX cY)
   (bY (.bool false) ap):=by
 obtain⟨dM,dN,dO,cZ,a8⟩:=h.side;have ah:∀ r,bj g gs A r→r<w.heap.size:=cZ;unfold ao at ci;refine qp fun aa Y dP bp bq=>?_;have dQ:=bp.size;have dR:=bq.lt;generalize ac:eD (dg sizes) N [] s=bZ at bQ;refine⟨fun out br ap=>∃ (i:Nat) (acc:List (List Int×Int)) (so:Option aC),br= .int .i64 (i:Int)∧i≤N∧ad (bj g gs A) w ap∧Y.heap.size≤ap.heap.size∧bi (dV Y.heap.size) bh ap [out] acc∧cM ap g gs A B clean so∧
   bZ=eD (dg sizes) (N-i) acc so∧iz ap aa∧acc.length≤100001∧ ∀ st,so=some st→ji ap aa acc∧(∀ p∈acc,∀ x∈p.1,0≤x)∧acc.length+st.toks.length≤100000,
  fun _ br _=>N-(bB br).toNat,⟨0,[],s,rfl,Y7 _,bp.O _,o7 _,fQ,h.ext bp,ac.symm,⟨[],bq,fun p az=>(by cases az)⟩,by simp,fun st c0=>⟨bq,fun p az=>(by cases az),?_⟩⟩,?_⟩
 ·subst c0;have:=h.words;simpa using this
 rintro out _ ap ⟨i,acc,so,rfl,dS,b0,z9,b1,bx,ba,c1,dT,bz⟩;refine aM (fun v aH=>Ext ap aH∧((v= .bool true∧i<N∧ ∃ st,so=some st)∨(v= .bool false∧(so=none∨i=N)))) ?_ ?_
 rotate_left
 ·intro dU bD;rw[an,ab];refine⟨fun c2=>?_,fun dW=>bD _ _ ⟨Ext.refl _,.inr ⟨rfl,.inr (by omega)⟩⟩⟩;refine (mT bx).mono ?_;rintro _ aH _ ⟨rfl,aF⟩;cases so with
  |none=>exact bD _ _ ⟨aF,.inr ⟨rfl,.inl rfl⟩⟩
  |some st=>exact bD _ _ ⟨aF,.inl ⟨rfl,by omega,st,rfl⟩⟩
 rintro _ aH ⟨aF,c4⟩;rcases c4 with⟨rfl,c2,st,rfl⟩|⟨rfl,c5⟩
 rotate_left
 ·rw[aP];have b2:bZ=so.map fun st=>(acc,st):=by
   rcases c5 with rfl|rfl
   ·exact ba
   ·rw[V2] at ba;rw[ba];cases so <;> rfl
  refine bQ out aH acc (e3.mk (b0.trans (aF.O _)) ?_) (bO (ai.mono b1 (fun r _ h=>by have h:Y.heap.size≤r:=h;show w.heap.size≤r;omega) fun _ _ h=>h) aF) (fun q aw=>?_)
  ·rw[b2,Option.map_map];have e:V0 ((fun x=>x.2)∘fun st=>(acc,st)) so=so:=by cases so <;> rfl
   rw[e];exact bx.ext aF
  ·rw[b2] at aw;cases so with
   |none=>cases aw
   |some st=>cases aw;rfl
 rw[bC];obtain⟨bz,bE,dX⟩:=bz st rfl;have dY:=aF.size;refine bu dr.i fun al W dZ b4 b5=>?_;have aY:=aF.trans b4;have bF:ad (bj g gs A) w W:=b0.trans (aY.O _);have b6:aB .i64 W sv sizes:=hW cd bF fun r J a n c c6 c7=>(bm r ⟨a,n,c,c6,c7⟩).1 J;rw[aL au.u b6];have bb:¬bj g gs A al:=fun ac=>by have:=ah _ ac;omega
 refine Gj (s:=some st) (bx.ext aY) b6 (fun r J=>⟨(bm r J).1,by have:=(bm r J).2;omega⟩) ce cg (ch.O bF h1.1) h1 b5 bb (fun c8=>by have:=a8 _ c8;omega) fun t aJ aA bc ea c9 b7 da db dc dd de=>?_;have eb:=b4.size;have z12:=b7.size;have ec:=b5.lt;have bG:∀ x∈t,0≤x:=fun x df=>(c9 x df).1;refine (j2 dd).mono ?_;rintro _ aQ _ ⟨bH,c,dh,rfl,di,ed⟩;obtain⟨bd,dj⟩:=bH.of;have ee:=bd.size;rw[aD (v:=.int .i64 c) rfl,aD (v:=.int .i64 dh) rfl,V dr.p rfl];refine bl (g:=al) (o:=1) ak.i rfl rfl (da.O bd bb) (by simp) fun aq bf ef bI=>?_;have bI:ae aq al dr [aA,.int .i64 c]:=bI;have dk:am .i64 ak aq bc aA t:=(db.O bd (fun _ ac=>by have:=ah _ ac;omega)).O bf (fun _ he=>by have he:bc=al:=he;omega);have bJ:ad (fun r=>bj g gs A r∨r=al) W aq:=(b7.trans (bd.mono fun r _ h=>.inl h)).trans (bf.mono fun r _ h=>.inr h);have aN:cM aq g gs A B clean ((aU 0 ao ((eg sizes [] (some st)).map (·.2))).map (·.2)):=dj.O bf (fun r J he=>by have he:r=al:=he;exact bb (he▸J)) (fun r J he=>by have:=a8 r J.2;have he:r=al:=he;omega);have b8:¬(fun r=>bj g gs A r∨r=al) aa:=fun h=>h.elim (fun h=>by have:=ah _ h;omega) (fun h=>by omega);have dl:iz aq aa:=(c1.O (aY.O (fun _=>False)) (fun h=>h)).O bJ b8;have b9:ji aq aa acc:=(cC.ext bz aY).O bJ b8;obtain⟨bK,bL⟩:=yv (acc:=acc) de di;refine c3 (fun aK=>ad (bj g gs A) aq aK∧cM aK g gs A B clean ((dg sizes acc st).map (·.2))) ?_ ?_
 ·rintro aK ⟨aT,dm⟩;have bM:¬bj g gs A aa:=fun h=>by have:=ah _ h;omega
  have eh:=bf.size;have ei:=aT.size;refine Gq (acc:=acc) (t:=t) (c:=c) (ok:=∃ q,dg sizes acc st=some q) (dl.O aT bM) (fun⟨q,aw⟩=>⟨cC.O b9 aT bM,bE,bG,fun aG=>?_⟩) fun aR aZ dn dp=>?_
  ·cases ay:aU 0 ao ((eg sizes [] (some st)).map (·.2)) with
   |none=>rw[bK ay] at aw;cases aw
   |some aV=>rw[bL aV ay,if_pos aG] at aw;cases aw
  have ej:=aZ.size;have dq:ae aR al dr [aA,.int .i64 c]:=(bI.O aT bb).O aZ (fun he=>by have he:al=aa:=he;omega);have ds:am .i64 ak aR bc aA t:=(dk.O aT (fun _ ac=>by have:=ah _ ac;omega)).O aZ (fun _ he=>by have he:bc=aa:=he;omega);rw[bw dr.p dr.i rfl dq.range];have ca:bi (dV W.heap.size) bh aR [aA,.int .i64 c] (t,c):=⟨[aA],[.int .i64 c],dV W.heap.size,bh,rfl,fun _ h=>h,fun _ h=>h.elim,fun _ _ _ h=>h,ai.mono (ln ds) (fun r _ h=>by subst h;exact dc) (fun _ _ h=>h),rfl⟩;refine hF (α:=List Int×Int) (a:=(t,c)) (cs:=[aA,.int .i64 c]) (A:=dV W.heap.size) (R:=bh) gZ.u dr.i (by decide) rfl ca fun u aX aW _ dt=>?_;have z22:=aW.size;have du:bi (fun r=>dV Y.heap.size r∧r<W.heap.size∧r≠al) bh W [out] acc:=bO (ai.mono (jT b1) (fun r _ h=>⟨h.1,by have:=h.2;omega,by have:=h.2;omega⟩) fun _ _ h=>h) aY;have cb:ad (fun r=>bj g gs A r∨r=al∨r=aa) W aX:=(((bJ.mono fun r _ h=>h.elim .inl fun h=>.inr (.inl h)).trans (aT.mono fun r _ h=>.inl h)).trans (aZ.mono fun r _ h=>.inr (.inr h))).trans (aW.O _);have dv:=ai.O du cb fun r J h ac=>by
   rcases h with h|h
   ·have bg:Y.heap.size≤r:=h.1;rcases ac with ac|ac|ac
    ·have:=ah _ ac;omega
    ·exact h.2.2 ac
    ·omega
   ·exact h
  refine lm (α:=List Int×Int) (a:=(t,c)) (A:=dV W.heap.size) gZ.u dr.i rfl dv dt (bO ca aW) (fun r _ h h'=>?_) (by omega) (by omega) fun ek a7 dw a1=>?_
  ·rcases h' with h'|h'
   ·have:=h.2;have:W.heap.size≤r:=h';omega
   ·exact h'
  have em:=a1.size;rw[aI,wrap_i64 (by omega) (by omega)];have dx:ad (bj g gs A) w aX:=fB bF cb fun r J h=>by
   rcases h with h|h|h
   ·exact h
   ·omega
   ·omega
  have dy:ad (bj g gs A) w a7:=fB dx a1 fun r J h=>by have bg:Y.heap.size≤r:=h.1;omega
  have dz:cM aX g gs A B clean ((dg sizes acc st).map (·.2)):=(dm.O aZ (fun r J he=>by have he:r=aa:=he;exact bM (he▸J)) (fun r J he=>by have:=a8 r J.2;have he:r=aa:=he;omega)).ext aW;have dA:∀ r,bj g gs A r→¬(dV Y.heap.size r∧r<W.heap.size∧r≠al):=fun r J he=>by have:=ah _ J;have bg:Y.heap.size≤r:=he.1;omega
  have dC:∀ r,b3 g gs A B r→¬(dV Y.heap.size r∧r<W.heap.size∧r≠al):=fun r J he=>by have:=a8 r J.2;have bg:Y.heap.size≤r:=he.1;omega
  have cc:¬(dV Y.heap.size aa∧aa<W.heap.size∧aa≠al):=fun he=>by have bg:Y.heap.size≤aa:=he.1;omega
  refine⟨⟨i+1,acc++[(t,c)],(dg sizes acc st).map (·.2),rfl,by omega,dy,by omega,?_,dz.O a1 dA dC,?_,(dn.O (aW.O (fun _=>False)) (fun h=>h)).O a1 cc,by simp;omega,fun dD dE=>?_⟩,by simp only[bB];omega⟩
  ·refine ai.mono dw (fun r _ h=>?_) fun _ _ h=>h;show Y.heap.size≤r;rcases h with h|h|h
   ·exact h.1
   ·have h:W.heap.size≤r:=h;omega
   ·omega
  ·rw[ba,show N-i=(N-(i+1))+1 by omega];cases aj:dg sizes acc st with
   |none=>exact mN aj
   |some q=>
    obtain⟨a,dD⟩:=q;have dF:a=(t,c):=by
     cases ay:aU 0 ao ((eg sizes [] (some st)).map (·.2)) with
     |none=>rw[bK ay] at aj;cases aj
     |some aV=>
      rw[bL aV ay] at aj;split at aj
      ·cases aj
      ·cases aj;rfl
    subst dF;exact qm aj
  ·obtain⟨q,aw,rfl⟩:=Y1.1 dE;have en:=(mK aw).2.2.2.1;refine⟨cC.O ((cC.ext (dp ⟨q,aw⟩) aW)) a1 cc,fun p az=>?_,by simp only[o5,U8];omega⟩;rcases n9.1 az with az|az
   ·exact bE p az
   ·rw[j0.1 az];exact bG
 ·intro eo bN;cases ay:aU 0 ao ((eg sizes [] (some st)).map (·.2)) with
  |none=>
   rw[ay] at aN;have aj:=bK ay;refine aM (fun v aE=>Ext aq aE∧v= .bool false) ?_ ?_
   ·rintro _ aE ⟨aO,rfl⟩;rw[aP];exact bN _ ⟨aO.O _,by rw[aj];exact aN.ext aO⟩
   ·intro dG bP;refine (mT aN).mono ?_;rintro _ aS _ ⟨rfl,bk⟩;rw[show ((none:Option (Int×aC)).map (·.2)).isSome=false from rfl,aP];exact bP _ _ ⟨bk,rfl⟩
  |some aV=>
   rw[ay] at aN;have aj:=bL aV ay;refine aM (fun v aE=>Ext aq aE∧v= .bool (decide (t∈acc.map (·.1)))) ?_ ?_
   ·rintro _ aE ⟨aO,rfl⟩;rw[ab];refine⟨fun aG=>?_,fun dH=>?_⟩
    ·refine (Gi (aN.ext aO) (by omega)).mono ?_;rintro _ bW _ bH;obtain⟨dI,dJ⟩:=bH.of;exact bN _ ⟨(aO.O _).trans dI,by rw[aj,if_pos aG];exact dJ⟩
    ·exact bN _ ⟨aO.O _,by rw[aj,if_neg dH];exact aN.ext aO⟩
   ·intro dG bP;refine (mT aN).mono ?_;rintro _ aS _ ⟨rfl,bk⟩;rw[show ((some aV:Option (Int×aC)).map (·.2)).isSome=true from rfl,bC,yu (cC.ext b9 bk) bE bG,bA];refine bP _ _ ⟨bk,?_⟩;congr 1;by_cases aG:t∈acc.map (·.1)
    ·rw[if_pos aG,decide_eq_true aG];rfl
    ·rw[if_neg aG,decide_eq_false aG];rfl
theorem yw (sizes:List Int) (s:Option aC):hj sizes s=match aU (-ao) ao s with
 |none=>none
 |some (n,s)=>
  if n<0 then match s.shared[(-n-1).toNat]? with
   |none=>none
   |some (z,l)=>if z=sizes then some (l,s) else none
  else ch (dg sizes) n.toNat [] (h2 n s):=by
 cases s with
 |none=>rfl
 |some s=>
  show dh sizes s=_;unfold dh;show _=match aY (-ao) ao s with
   |none=>none
   |some (n,s)=>
    if n<0 then match s.shared[(-n-1).toNat]? with
     |none=>none
     |some (z,l)=>if z=sizes then some (l,s) else none
    else ch (dg sizes) n.toNat [] (h2 n s)
  cases aY (-ao) ao s <;> rfl
theorem yx {m:Bool} {S R:ag} {a:hg} (h:ai.rep (α:=hg) m S R w cs a):∃ u v,cs=[u,v]∧ai.rep (α:=List Int) false bh R w [u] a.1∧ai.rep (α:=List (List Int×Int)) false bh R w [v] a.2:=by
 obtain⟨c,d,J,O,rfl,_,_,_,h1,I⟩:=h;have h1:ai.rep (α:=List Int) false bh R w c a.1:=h1;have I:ai.rep (α:=List (List Int×Int)) false bh R w d a.2:=I;obtain⟨u,rfl⟩:=X1.1 (show c.length=1 from ai.len h1);obtain⟨v,rfl⟩:=X1.1 (show d.length=1 from ai.len I);exact⟨u,v,rfl,h1,I⟩
set_option maxHeartbeats 4000000 in
theorem Gs {g:Nat} {A B:ag} {s:Option aC}
  (h:cM w g gs A B clean s) (hi:∀ t,s=some t→di t) (aX:aB .i64 w sv sizes) (ap:∀ r,leads sv r→¬bj g gs A r∧r<w.heap.size) (aY:∀ z∈sizes,1≤z∧z≤ao) (aZ:sizes.length≤100001) (a1:ep w) (h1:b3 g gs A B 1):
  af x3 CN [.pointer (some ⟨g,0,none⟩),sv] w fun v w'=>e3 w g gs A B clean ((hj sizes s).map (·.2)) w'∧ ∃ l,Seen (fun r=>b3 g gs A B r∨w.heap.size≤r) w' [v] (show List (List Int×Int) from l)∧ ∀ q,hj sizes s=some q→l=q.1:=by
 have a2:=h.side;obtain⟨bD,bE,bF,a6,bG⟩:=id a2;have ah:∀ r,bj g gs A r→r<w.heap.size:=a6;refine az func201 ?_;refine (j2 (lo:=-ao) (hi:=ao) h).mono ?_;rintro _ J _ ⟨a7,n,at_,rfl,aA,a8⟩;obtain⟨aq,aN⟩:=a7.of;have bH:=aq.size;have U:=yw sizes s;rw[aD (v:=.int .i64 n) rfl,aD (v:=.int .i64 at_) rfl];have aO:aB .i64 J sv sizes:=hW aX aq fun r ae a n c au aE=>(ap r ⟨a,n,c,au,aE⟩).1 ae;have bI:∀ r,leads sv r→¬bj g gs A r∧r<J.heap.size:=fun r ae=>⟨(ap r ae).1,by have:=(ap r ae).2;omega⟩;have rest:∀ ac,Ext J ac→(∀ q,aU (-ao) ao s=some q→¬n<0)→ ∀ N:Nat,n=(N:Int)→(N:Int)≤ao→ ∀ Y,ad (bj g gs A) ac Y→cM Y g gs A B clean (((aU (-ao) ao s).map (·.2)).map (h2 n))→
   ∀ v w' l,e3 Y g gs A B clean ((eD (dg sizes) N [] (((aU (-ao) ao s).map (·.2)).map (h2 n))).map (·.2)) w'→bi (dV Y.heap.size) bh w' [v] (show List (List Int×Int) from l)→(∀ q,eD (dg sizes) N [] (((aU (-ao) ao s).map (·.2)).map (h2 n))=some q→l=q.1)→
   e3 w g gs A B clean ((hj sizes s).map (·.2)) w'∧ ∃ l,Seen (fun r=>b3 g gs A B r∨w.heap.size≤r) w' [v] (show List (List Int×Int) from l)∧ ∀ q,hj sizes s=some q→l=q.1:=by
  intro ac W av N aF aG Y aj aH v w' l ba bb bd;obtain⟨be,bf⟩:=ba.of;have bg:=W.size;have z3:=aj.size;have e:hj sizes s=eD (dg sizes) N [] (((aU (-ao) ao s).map (·.2)).map (h2 n)):=by
   rw[U];cases I:aU (-ao) ao s with
   |none=>rfl
   |some q=>
    obtain⟨bk,ak⟩:=q;have:=aA _ I;subst this;simp only;rw[if_neg (av _ I),aF,Z3];rfl
  rw[e];refine⟨e3.mk (((aq.trans (W.O _)).trans aj).trans be) bf,l,nK bb fun r _ h=>?_,bd⟩;rcases h with h|h
  ·have h:Y.heap.size≤r:=h;exact .inr (by omega)
  ·exact h.elim
 refine aM (fun v ac=>Ext J ac∧v= .bool (decide (n<0∧(aU (-ao) ao s).isSome=true))) ?_ ?_
 rotate_left
 ·intro bl ay;refine (mT aN).mono ?_;rintro _ ac _ ⟨rfl,W⟩;cases I:aU (-ao) ao s with
  |none=>
   rw[show ((none:Option (Int×aC)).map (·.2)).isSome=false from rfl,aP];exact ay _ _ ⟨W,by rw[decide_eq_false];rintro⟨_,h⟩;rw[I] at h;cases h⟩
  |some q=>
   rw[show ((some q:Option (Int×aC)).map (·.2)).isSome=true from rfl,bC,an];exact ay _ _ ⟨W,by congr 1;rw[V1,decide_eq_true_eq,decide_eq_true_eq,I];exact⟨fun h=>⟨h,rfl⟩,fun h=>h.1⟩⟩
 rintro _ ac ⟨W,rfl⟩;have al:=aN.ext W;have bg:=W.size;rw[ab];refine⟨fun av=>?_,fun bm=>?_⟩
 rotate_left
 ·have av:∀ q,aU (-ao) ao s=some q→¬n<0:=fun q I h=>bm ⟨h,by rw[I];rfl⟩;obtain⟨N,aF,aG⟩:∃ N:Nat,n=(N:Int)∧(N:Int)≤ao:=by
   cases I:aU (-ao) ao s with
   |none=>rw[a8 I];exact⟨0,rfl,by unfold ao;omega⟩
   |some q=>
    have h1:=av q I;have bn:=kP (n:=q.1) (s':=q.2) I;have bo:=aA q I;exact⟨n.toNat,by omega,by omega⟩
  refine Gl (at_:=at_) al (fun t bp=>?_) fun Y aj aH=>?_
  ·obtain⟨q,I,rfl⟩:=Y1.1 bp;have bn:=kP (n:=q.1) (s':=q.2) I;have bo:=aA q I;refine⟨by omega,by omega,?_⟩;cases s with
   |none=>cases I
   |some s0=>
    have aQ:=(c6 (n:=q.1) (s':=q.2) I).eqs;have aR:=hi s0 rfl;intro aS;rw[aQ.1];rw[aQ.2.1] at aS;exact aR aS
  ·have z3:=aj.size;have bq:ad (bj g gs A) w Y:=(aq.trans (W.O _)).trans aj;subst aF;refine Gr (N:=N) aH ((hW (aO.ext W) aj fun r ae a n c au aE=>(ap r ⟨a,n,c,au,aE⟩).1 ae)) (fun r ae=>⟨(ap r ae).1,by have:=(ap r ae).2;omega⟩) aY aZ (a1.O bq h1.1) h1 aG fun v w' l a b c=>?_;exact rest ac W av N rfl aG Y aj aH v w' l a b c
 ·obtain⟨br,bt⟩:=av;obtain⟨⟨bk,ak⟩,I⟩:=Option.isSome_iff_exists.1 bt;have:=aA _ I;subst this;have bJ:=kP I;rw[I] at U al;simp only at U;rw[if_pos br] at U;have al:cK ac g gs A B ak clean:=al;obtain⟨_,aR,bK,big,bL,bM,told,bN,aI,bP,aJ⟩:=id al;have bQ:ao=4611686018427387904:=rfl;refine aM (fun v Y=>Ext ac Y∧v= .bool (decide (hj sizes s=none))) ?_ ?_
  ·rintro _ Y ⟨ai,rfl⟩;rw[ab];refine⟨fun bu=>?_,fun aT=>?_⟩
   ·refine (qi (al.ext ai) (by omega)).mono ?_;rintro _ bR _ ⟨bw,bx⟩;rw[bu];refine⟨e3.mk (((aq.trans (W.O _)).trans (ai.O _)).trans (bw.mono fun r _ h=>.inl h)) bx,[],fQ,fun q I=>by cases I⟩
   ·cases ax:ak.shared[(-n-1).toNat]? with
    |none=>rw[ax] at U;exact absurd U aT
    |some q=>
     obtain⟨z,l⟩:=q;rw[ax] at U;simp only at U;have bz:z=sizes:=by
      by_cases am:z=sizes
      ·exact am
      ·rw[if_neg am] at U;exact absurd U aT
     rw[if_pos bz] at U;rw[aw,V bT.p rfl,aa (by kernel_rfl) ((aI.ext ai).cell (o:=0+6) rfl),kE,wrap_i64 (by omega) (by omega),dd,wrap_i64 (by omega) (by omega)];refine mu (α:=hg) (m:=true) (S:=A) (R:=b3 g gs A B) (i:=(-n-1).toNat) (a:=(z,l)) (by omega) fP.u hR.i (bO aJ ai) ax fun b o cs aK aL=>?_;obtain⟨u,v,rfl,hu,au⟩:=yx aL;rw[V hR.p rfl,aa (by kernel_rfl) (aK 1 v rfl)];rw[U];refine⟨e3.mk ((aq.trans (W.O _)).trans (ai.O _)) (al.ext ai),l,nK au fun r _ h=>?_,fun q I=>by cases I;rfl⟩;rcases h with h|h
     ·exact h.elim
     ·exact .inl h
  ·intro bl ay;rw[kE,wrap_i64 (by omega) (by omega),aw,V bT.p rfl,aa (by kernel_rfl) (aI.cell (o:=0+6) rfl),fR fP.u aJ,bA,ab];refine⟨fun aV=>ay _ _ ⟨Ext.refl _,?_⟩,fun aW=>?_⟩
   ·have aV:(ak.shared.length:Int)<0-n:=aV;rw[Z9 (by omega)] at U;rw[decide_eq_true U]
   ·have aW:¬(ak.shared.length:Int)<0-n:=aW;have bB:(-n-1).toNat<ak.shared.length:=by omega
    obtain⟨⟨z,l⟩,ax⟩:∃ q,ak.shared[(-n-1).toNat]? =some q:=⟨_,y0 bB⟩;rw[aw,V bT.p rfl,aa (by kernel_rfl) (aI.cell (o:=0+6) rfl),kE,wrap_i64 (by omega) (by omega),dd,wrap_i64 (by omega) (by omega)];refine mu (α:=hg) (m:=true) (S:=A) (R:=b3 g gs A B) (i:=(-n-1).toNat) (a:=(z,l)) (by omega) fP.u hR.i aJ ax fun b o cs aK aL=>?_;obtain⟨u,v,rfl,hu,au⟩:=yx aL;rw[V hR.p rfl,aa (by kernel_rfl) (aK 0 u rfl)];refine (D4 (ff hu) (aO.ext W)).mono ?_;rintro _ Y _ ⟨rfl,ai⟩;rw[bc];refine ay _ _ ⟨ai,?_⟩;rw[ax] at U;simp only at U;by_cases am:z=sizes
    ·rw[if_pos am] at U;rw[decide_eq_true am,decide_eq_false (by rw[U];simp)];rfl
    ·rw[if_neg am] at U;rw[decide_eq_false am,decide_eq_true U];rfl
abbrev mU (n:Nat):ag:=fun r=>r<n
def om (n:Int) (k:Nat) (s:Option aC):Option (List Int×aC):=s.bind (ee n k)
theorem Gt {g k:Nat} {A B:ag} {s:Option aC} {m:Int} (h:cM w g gs A B clean s) (W:k≤4611686018427387904) (hm:0≤m∧m≤1000000):
  af x3 vW [.pointer (some ⟨g,0,none⟩),.int .i64 (k:Int),.int .i64 m] w fun v w'=>e3 w g gs A B clean ((om m k s).map (·.2)) w'∧
   ∃ Y l,am .i64 ak w' Y v l∧(∀ r,leads v r→w.heap.size≤r)∧l.length≤100001∧ ∀ q,om m k s=some q→l=q.1:=by
 cases s with
 |some s=>exact Fg (s:=s) h W hm
 |none=>
  have h:dG w g gs A B:=h;refine az func199 ?_;refine⟨fun out aa J=>w=J∧out= .slice none 0 0∧aa= .int .i64 0,fun _ _ _=>0,⟨rfl,rfl,rfl⟩,?_⟩;rintro _ _ _ ⟨rfl,rfl,rfl⟩;refine aM (fun v U=>Ext w U∧v= .bool false) ?_ ?_
  ·rintro _ U ⟨I,rfl⟩;rw[aP];exact⟨e3.mk (I.O _) (h.ext I),0,[],am.nil _ _ _ _,fun r ac=>absurd ac (fun h=>by obtain⟨a,n,c,h,_⟩:=h;cases h),by simp,fun q ad=>by cases ad⟩
  ·intro ae V;rw[an,ab];refine⟨fun _=>?_,fun _=>V _ _ ⟨Ext.refl _,rfl⟩⟩;refine (lB h).mono ?_;rintro _ U _ ⟨rfl,I⟩;exact V _ _ ⟨I,rfl⟩
def qz (z:List Int) (l:List (List Int×Int)) (s:aC):aC:={s with shared:=s.shared++[(z,l)]}
def yy (w:x2) (g gs:Nat):Prop:=∃ (e big I J told:Int) (sv:x1),ae w g bT (eQ gs e big I J told sv)∧e≠0
def fC (w:x2) (g gs:Nat) (A:ag) (B:ag) (clean:Bool) (s:Option aC):Prop:=match s with
 |some s=>cK w g gs A B s clean
 |none=>yy w g gs
theorem cM.q {g:Nat} {A:ag} {B:ag} {s:Option aC} (h:cM w g gs A B clean s):fC w g gs A B clean s:=by
 cases s with
 |some s=>exact h
 |none=>
  obtain⟨_,e,big,I,J,told,sv,l,O,U,_⟩:=h;exact⟨e,big,I,J,told,sv,O,U.1⟩
theorem fC.O {g:Nat} {A:ag} {B:ag} {s:Option aC} (h:fC w g gs A B clean s) (I:ad S w w') (U:¬S g) (V:∀ r,bj g gs A r→r<w.heap.size→¬S r) (W:∀ r,b3 g gs A B r→¬S r):fC w' g gs A B clean s:=by
 cases s with
 |some s=>
  have h:cK w g gs A B s clean:=h;exact cK.O h I (fun r J=>V r J (h.1.2.2.2.1 r J)) W
 |none=>
  obtain⟨e,big,Y,aa,told,sv,ab,ac⟩:=h;exact⟨e,big,Y,aa,told,sv,ab.O I U,ac⟩
theorem fC.ext {g:Nat} {A:ag} {B:ag} {s:Option aC} (h:fC w g gs A B clean s) (I:Ext w w'):fC w' g gs A B clean s:=h.O (I.O fun _=>False) (fun h=>h) (fun _ _ _ h=>h) (fun _ _ h=>h)
theorem yz {g:Nat} {A:ag} {B:ag} {s:Option aC} (h:fC w g gs A B clean s):af x3 iU [.pointer (some ⟨g,0,none⟩)] w fun v w'=>v= .bool s.isSome∧Ext w w':=by
 cases s with
 |none=>
  obtain⟨e,big,V,W,told,sv,I,O⟩:=h;refine (sK I).mono ?_;rintro _ J _ ⟨rfl,U⟩;exact⟨by rw[decide_eq_false O];rfl,U⟩
 |some s=>exact mM h
theorem fU.ba {g:Nat} {R':Nat→Prop} (h:fU w g R toks clean) (J:ad S w w') (V:¬S g) (W:∀ r,R r→¬S r) (Y:∀ r,R r→R' r):fU w' g R' toks clean:=by
 obtain⟨aa,p,a,⟨h1,ab,ac,ae,af,ag⟩,U,ah⟩:=h;exact⟨aa,p,a,⟨h1,ab,ac,ae.O J V,af,a6 ag J fun r I=>W r (U r I)⟩,fun r I=>Y r (U r I),ah⟩
theorem j3 {α:Type} [ai α] {m:Bool} {S R:ag} {l:List α} (h:ai.rep m S R w [v] l):∃ a n c,v= .slice a n c:=by
 obtain⟨vs,J,F,O,he,I,hm⟩:=gj h;obtain⟨U,b,o,base,cap,rfl,_⟩:=I;exact⟨_,_,_,rfl⟩
def jj (w:x2) (g gs:Nat) (A:ag) (B:ag) (R:ag) (clean:Bool) (s:Option aC):Prop:=match s with
 |some s=>je w g gs A B∧fU w gs R s.toks clean∧(0≤s.told∧s.told≤ao∧s.shared.length+s.toks.length≤100000)∧
  ∃ big I J told sv,ae w g bT (eQ gs 0 big I J told sv)∧((s.big=true↔big≠0)∧(s.big=false→told=s.told))∧bi A R w [sv] (show List hg from s.shared)
 |none=>yy w g gs
theorem jj.O {g:Nat} {A R:ag} {B:ag} {s:Option aC} (h:jj w g gs A B R clean s) (I:ad S w w') (Y:¬S g) (aa:∀ r,bj g gs A r→r<w.heap.size→¬S r) (ab:∀ r,R r→¬S r):jj w' g gs A B R clean s:=by
 cases s with
 |some s=>
  obtain⟨h1,ac,ae,big,J,U,told,sv,V,W,af⟩:=h;have ah:=h1.2.2.2.1;exact⟨h1.O I,ac.O I (aa gs (.inr (.inl rfl)) (ah _ (.inr (.inl rfl)))) ab,ae,big,J,U,told,sv,V.O I Y,W,ai.O af I fun r aj h=>h.elim (fun h=>aa r (.inr (.inr h)) aj) (ab r)⟩
 |none=>
  obtain⟨e,big,J,U,told,sv,V,W⟩:=h;exact⟨e,big,J,U,told,sv,V.O I Y,W⟩
theorem jj.out {g:Nat} {A R B I:ag} {s:Option aC} (h:jj w g gs A B R clean s) (J:∀ r,R r→b3 g gs A I r) (O:∀ r,I r→r<w.heap.size):fC w g gs A I clean s:=by
 cases s with
 |some s=>
  obtain⟨⟨U,V,W,Y,an⟩,⟨aa,p,a,ab,ac,ad⟩,ae,big,af,ah,told,sv,aj,ak,al⟩:=h;exact⟨⟨U,V,W,Y,O⟩,⟨aa,p,a,ab,fun r am=>J r (ac r am),ad⟩,ae,big,af,ah,told,sv,aj,ak,ai.mono al (fun _ _ h=>h) fun r _ h=>J r h⟩
 |none=>exact h
theorem cM.qr {g:Nat} {A R:ag} {B:ag} {s:Option aC} (h:cM w g gs A B clean s) (V:∀ r,b3 g gs A B r→R r):jj w g gs A B R clean s:=by
 cases s with
 |some s=>
  obtain⟨h1,⟨W,p,a,Y,aa,ab⟩,ac,big,I,J,told,sv,O,U,ad⟩:=h;exact⟨h1,⟨W,p,a,Y,fun r ae=>V r (aa r ae),ab⟩,ac,big,I,J,told,sv,O,U,ai.mono ad (fun _ _ h=>h) fun r _ h=>V r h⟩
 |none=>
  obtain⟨_,e,big,I,J,told,sv,l,O,U,_⟩:=h;exact⟨e,big,I,J,told,sv,O,U.1⟩
set_option maxHeartbeats 2000000 in
theorem Gu {g aq:Nat} {A B R:ag} {s:Option aC} {ay aV u:x1} {z:List Int} {l:List (List Int×Int)} {K:x2→Prop} (h:cM w g gs A B clean s) (av:∀ r,b3 g gs A B r→R r) (aJ:∀ r,R r→b3 g gs A (mU w.heap.size) r)
  (aK:∀ t,s=some t→t.shared.length+1+t.toks.length≤100000) (aL:ae w aq bK [ay,u,aV,v])
  (hu:ai.rep (α:=List Int) false bh R w [u] z) (aM:ai.rep (α:=List (List Int×Int)) false bh R w [v] l)
  (aW:∀ w' W,ad (bj g gs A) w w'→(∀ r,W r→A r∨w.heap.size≤r)→jj w' g gs W (mU w.heap.size) R clean (s.map (qz z l))→K w'):
  I x3 (aX (.pointer (some ⟨g,0,none⟩))) w fun az=>
  I x3 (x7 bT az 3) w fun aA=>
  I x3 (x6 fP aA) w fun aN=>
  I x3 (x7 bK (.pointer (some ⟨aq,0,none⟩)) 1) w fun t76=>
  I x3 (x6 au t76) w fun t77=>
  I x3 (x7 bK (.pointer (some ⟨aq,0,none⟩)) 3) w fun aY=>
  I x3 (x6 gZ aY) w fun aZ=>
  I x3 (Instr.build hR #[(0,t77),(1,aZ)]) w fun a1=>
  ax x3 (Z4 fP 1 #[(0,a1)]) w fun a2 aj=>
   (Ext w aj∨bb x3 (x6 fP aA) aN aj∧bb x3 (x7 bT az 3) aA aj∧bb x3 (aX (.pointer (some ⟨g,0,none⟩))) az aj∧True)∧
   ax x3 (l9 #[fP,fP] fP #[aN,a2]) aj fun a6 aB=>
    I x3 (aX (.pointer (some ⟨g,0,none⟩))) aB fun a7=>
    I x3 (x7 bT a7 3) aB fun a8=>
    ax x3 (o3 fP a8 a6) aB fun(_:Unit) bc=>K bc:=by
 obtain⟨bd,e,big,Y,ab,told,sv,am,ac,an,bt,be⟩:je w g gs A B∧ ∃ e big Y ab told sv,∃ am:List hg,ae w g bT (eQ gs e big Y ab told sv)∧bi A R w [sv] am∧am.length≤100000∧
   ∀ w' W af,je w' g gs W (mU w.heap.size)→ad (fun r=>A r∨r=g) w w'→ae w' g bT (eQ gs e big Y ab told af)→bi W R w' [af] (am++[((z,l):hg)])→jj w' g gs W (mU w.heap.size) R clean (s.map (qz z l)):=by
  cases s with
  |none=>
   obtain⟨h1,e,big,Y,ab,told,sv,l',aD,ao,aE⟩:=h;exact⟨h1,e,big,Y,ab,told,sv,l',aD,ai.mono aE (fun _ _ h=>h) fun r _ h=>av r h,ao.2,fun w' W af aO _ ac an=>⟨e,big,Y,ab,told,af,ac,ao.1⟩⟩
  |some s=>
   obtain⟨h1,bf,aP,big,Y,ab,told,sv,aD,ao,aE⟩:=h;have aK:=aK s rfl;refine⟨h1,0,big,Y,ab,told,sv,s.shared,aD,ai.mono aE (fun _ _ h=>h) fun r _ h=>av r h,(show s.shared.length≤100000 by omega),fun w' W af aO bg ac an=>⟨aO,?_,⟨aP.1,aP.2.1,?_⟩,big,Y,ab,told,af,ac,ao,an⟩⟩
   ·exact fU.ba bf bg (fun he=>he.elim h1.2.2.1 fun h=>h1.1 h.symm) (fun r U he=>he.elim (fun h=>U.1 (.inr (.inr h))) fun h=>U.1 (.inl h)) av
   ·show (s.shared++[(z,l)]).length+s.toks.length≤100000;simp;omega
 obtain⟨bk,aF,bm,aQ,bu⟩:=id bd;rw[aw,V bT.p rfl,aa (by kernel_rfl) (ac.cell (o:=0+6) rfl),V bK.p rfl,aa (by kernel_rfl) (aL.cell (o:=0+1) rfl),V bK.p rfl,aa (by kernel_rfl) (aL.cell (o:=0+3) rfl)];rw[cH (cs:=#[u,v]) (by obtain⟨_,_,_,rfl⟩:=j3 hu;obtain⟨_,_,_,rfl⟩:=j3 aM;kernel_rfl)];have aR:bi (fun _=>False) R w [u,v] ((z,l):hg):=⟨[u],[v],bh,bh,rfl,fun _ h=>h,fun _ h=>h,fun _ _ h _=>h,hu,aM⟩;refine hF (α:=hg) (a:=(z,l)) (cs:=[u,v]) (A:=fun _=>False) (R:=R) fP.u hR.i (by decide) rfl aR fun x J ah _ bn=>?_;have bw:=ah.size;refine⟨.inl ah,?_⟩;refine lm (α:=hg) (a:=(z,l)) (A:=fun _=>False) (R:=R) fP.u hR.i rfl (bO an ah) bn (bO aR ah) (fun r _ bo ak=>?_) (by omega) (by omega) fun aS bp aG aH=>?_
 ·rcases ak with ak|ak
  ·exact ak
  ·exact (aJ r ak).1 (.inr (.inr bo))
 have bx:=aH.size;have bq:=(ac.ext ah).O aH aF;rw[aw,V bT.p rfl];refine bl (g:=g) (o:=6) fP.i (nM aG) (iZ aG) bq (by simp[eQ]) fun ap aT bz aI=>?_;have aI:ae ap g bT (eQ gs e big Y ab told aS):=aI;have aU:ad (fun r=>A r∨r=g) w ap:=((ah.O _).trans (aH.mono fun r _ h=>.inl h)).trans (aT.mono fun r _ h=>.inr h);let W:ag:=fun r=>(A r∨w.heap.size≤r)∧r<bp.heap.size;have bA:g<w.heap.size:=aQ g (.inl rfl);have bB:gs<w.heap.size:=aQ gs (.inr (.inl rfl));have br:=ai.mono (S':=W) (R':=R) aG (fun r U h=>⟨h.elim .inl fun h=>h.elim False.elim fun h=>.inr (by omega),U⟩) (fun r U h=>h);refine aW ap W (aU.mono fun r _ h=>h.elim (fun h=>.inr (.inr h)) .inl) (fun r U=>U.1) (be ap W aS ⟨bk,fun h=>h.1.elim aF fun h=>by omega,fun h=>h.1.elim bm fun h=>by omega,fun r U=>?_,?_⟩ aU aI (ai.O br aT fun r U al he=>?_))
 ·rcases U with rfl|rfl|U
  ·omega
  ·omega
  ·have:=U.2;omega
 ·intro r U;have U:r<w.heap.size:=U;omega
 ·have he:r=g:=he;subst he;rcases al with al|al
  ·exact al.1.elim aF fun h=>by omega
  ·exact (aJ _ al).1 (.inl rfl)
set_option maxHeartbeats 2000000 in
theorem Gv {W:Nat} {ay aj:x1} {scope all:List Int} {aG:x2→Prop} (aH:ae w W bK [ay,.slice none 0 0,.int .i64 0,.slice none 0 0]) (aJ:aB .i64 w ay scope) (aS:∀ r,leads ay r→r≠W)
  (aT:aB .i64 w aj all) (aU:∀ r,leads aj r→r≠W) (aV:∀ v∈scope,0≤v∧v<all.length) (bk:scope.length≤100001)
  (aX:∀ w' aq Y,ad (fun r=>r=W) w w'→ae w' W bK [ay,aq,.int .i64 0,.slice none 0 0]→am .i64 ak w' Y aq (scope.map fun v=>all.getD v.toNat 0)→w.heap.size≤Y→aG w'):
 bJ (.int .i64 0) w fun az ah k=>
  I x3 (av .lss U false false az (.int .i64 (scope.length:Int))) ah fun aY=>
  Split aY (I x3 (o6 au ay az) ah fun a1=>
  I x3 (x6 ak a1) ah fun a2=>
  cj ah fun ac=>
  I x3 (x7 bK (.pointer (some ⟨W,0,none⟩)) 1) ac fun t39=>
  I x3 (x6 au t39) ac fun aK=>
  I x3 (o6 au aj a2) ac fun a6=>
  I x3 (x6 ak a6) ac fun a7=>
  ax x3 (Z4 au 1 #[(0,a7)]) ac fun t45 al=>
   (Ext ac al∨bb x3 (x6 au t39) aK al∧bb x3 (x7 bK (.pointer (some ⟨W,0,none⟩)) 1) t39 al∧True)∧
  ax x3 (l9 #[au,au] au #[aK,t45]) al fun t46 aL=>
   I x3 (x7 bK (.pointer (some ⟨W,0,none⟩)) 1) aL fun a8=>
   ax x3 (o3 au a8 t46) aL fun(_:Unit) aM=>
    I x3 (av .add U false true az (.int .i64 1)) aM fun ba=>
  k ba aM) (aG ah):=by
 have bm:=aH.lt;refine bJ.range scope.length (fun i J=>ad (fun r=>r=W) w J∧ ∃ aq Y,ae J W bK [ay,aq,.int .i64 0,.slice none 0 0]∧am .i64 ak J Y aq ((scope.take i).map fun v=>all.getD v.toNat 0)∧w.heap.size≤Y) aJ.le ⟨ad.refl _ _,_,w.heap.size,aH,am.nil _ _ _ _,o7 _⟩ ?_ ?_
 rotate_left
 ·rintro J bc ⟨af,aq,Y,ao,ap,aN⟩;rw[o9] at ap;rw[an,ab];exact⟨fun h=>by omega,fun _=>aX J aq Y af ao ap aN⟩
 rintro i J bc hi ⟨af,aq,Y,ao,ap,aN⟩ bd;obtain⟨v,aA⟩:∃ v,scope[i]? =some v:=⟨_,y0 hi⟩;have bn:=aV v (x5 aA);have be:all[v.toNat]? =some (all.getD v.toNat 0):=by
  rw[u4,y0 (by omega)];rfl
 have bf:aB .i64 J ay scope:=hW aJ af fun r aw a n c aC aD=>aS r ⟨a,n,c,aC,aD⟩ aw;have bg:aB .i64 J aj all:=hW aT af fun r aw a n c aC aD=>aU r ⟨a,n,c,aC,aD⟩ aw;rw[an,ab];refine⟨fun _=>?_,fun h=>by omega⟩;rw[aZ au.u ak.i (by kernel_rfl) bf aA];intro bo ag _ _;have bp:=af.size;have bq:=ag.size;rw[V bK.p rfl,aa (by kernel_rfl) ((ao.ext ag).cell (o:=0+1) rfl)];rw[dt (y:=v) (i:=v.toNat) (by omega) au.u ak.i (by kernel_rfl) (bg.ext ag) be];refine dx au.u ak.i rfl fun a aW br bt ai bh=>?_;refine⟨.inl ai,?_⟩;have z3:=ai.size;refine hb au.u ak.i rfl ((ap.ext ag).ext ai) bh.ls (by simp;omega) (by simp;omega) fun aO aP bu bw aE aQ=>?_;rw[V bK.p rfl];have bi:=((ao.ext ag).ext ai).O aQ (fun he=>by have he:W=Y:=he;omega);refine bl (g:=W) (o:=1) au.i aE.ls.cells.1 aE.ls.cells.2 bi (by simp) fun bj aR bx aF=>?_;have aF:ae bj W bK [ay,aO,.int .i64 0,.slice none 0 0]:=aF;rw[aI];refine bd _ ⟨(fB (af.trans ((ag.trans ai).O _)) aQ fun r aw he=>by have he:r=Y:=he;omega).trans aR,aO,aP,aF,?_,by omega⟩;rw[u9,aA,Z0,b6];exact aE.O aR (fun _ he=>by have he:aP=W:=he;omega)
abbrev fX:Type:=Rd (List Int)×Rd (List Int)×Int×Rd (List (List Int×Int))
def fD (f:bZ):fX:=(f.scope,f.sizes,f.other,f.lines)
theorem yA {R:ag} {ay aq bI:x1} {sc I:List Int} {l:List (List Int×Int)} (h1:ai.rep (α:=List Int) false bh R w [ay] sc) (J:ai.rep (α:=List Int) false bh R w [aq] I) (O:ai.rep (α:=List (List Int×Int)) false bh R w [bI] l):
  Seen R w [ay,aq,.int .i64 o,bI] ((sc,I,o,l):fX):=
 ⟨[ay],[aq,.int .i64 o,bI],bh,bh,rfl,fun _ h=>h,fun _ h=>h,fun _ _ h _=>h,h1,[aq],[.int .i64 o,bI],bh,bh,rfl,fun _ h=>h,fun _ h=>h,fun _ _ h _=>h,J,[.int .i64 o],[bI],bh,bh,rfl,fun _ h=>h,fun _ h=>h,fun _ _ h _=>h,rfl,O⟩
theorem j7 {R:ag} {g:Nat} (h:am .i64 e w g v l) (U:∀ r,leads v r→R r):ai.rep (α:=List Int) false bh R w [v] l:=by
 have h1:bi (fun r=>r=g) bh w [v] l:=ln h;obtain⟨vs,V,F,af,he,W,hm⟩:=gj h1;refine⟨v,rfl,vs,V,fun _ _=>False,⟨fun _ _ h=>h,fun h=>(by cases h),fun h=>by cases h⟩,⟨he.1,fun i c a Y aa=>?_⟩,?_,fun h=>by cases h⟩
 ·exact he.2 i c a Y aa
 ·obtain⟨I,b,o,base,cap,rfl,ab,ac,J,ah,ad⟩:=W;refine⟨I,b,o,base,cap,rfl,ab,ac,J,fun O=>.inr (U b ?_),ad⟩;have ae:0<l.length:=by
   rw[I] at O;rcases Nat.eq_zero_or_pos l.length with h|h
   ·rw[h,Nat.zero_mul] at O;omega
   ·exact h
  exact⟨⟨b,o,none⟩,l.length,cap,by rw[J ae],rfl⟩
theorem yB {α:Type} [ai α] {R R':ag} {a:α} (h:Seen R w cs a) (I:∀ r,r<w.heap.size→R r→R' r):Seen R' w cs a:=ai.mono h (fun _ _ h=>h) I
end Go.Proofs.YtgbkinibgjmodaaGreatDoor
