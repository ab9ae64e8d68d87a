/- own texts, made small by a tool (wip/ holds them as they were written): no statement of the seat. -/
import Derived.Test.YtgbkinibgjmodaaGreatDoorYb
set_option linter.unusedVariables false
set_option linter.unusedSimpArgs false
set_option linter.unnecessarySimpa false
open Array renaming getElem?_eq_some_iff→l6,getElem?_toList→U8
open BitVec renaming ofInt→W9
open Bool renaming not_true→Y7,not_false→Y8,eq_iff_iff→W5,and_eq_true→V7,or_eq_false_iff→U4
open Decidable renaming not_not→X4
open Go renaming Value→x4,World→x5,Builtin→u7,TypeId→o6,IntKind→o8,Program→X5,Oper→U9
open Go.Addr renaming add_mid→U5
open Go.Builtin renaming len_→u6,append_→r8,min_→T1
open Go.Instr renaming loadAt→x1,fieldAt→x2,storeAt→x6,indexAt→x7,extract→x8,buildSlice→u9,alloc→n0,sliceAt→j4,build→Z3,box→Z5,index→Y2,lookup→V3,makeSlice→U7
open Go.IntKind renaming i64→X3,u64→V2
open Go.Op renaming unary→Z4
open Go.Proofs.Tryz renaming prog→y0
open Go.Result renaming andThen→Y6
open Go.Sem renaming run_bind→Y4,run_pure→X0
open Go.Sort renaming Holds→U3
open Go.Value renaming int→X7
open Int renaming toNat_natCast→c7
open List renaming getElem?_eq_getElem→x3,getElem?_eq_some_iff→u4,mem_of_getElem?→u5,getElem?_map→r9,getD_eq_getElem?_getD→p8,replicate→p9,length_map→o3,take_add_one→o4,length_append→o5,mem_singleton→o9,mem_append→n9,take_length→l5,length_take→l7,mem_map→l9,map_append→j0,eq_nil_of_length_eq_zero→j5,length_cons→j9,take_of_length_le→Z1,getElem?_eq_none→Z7,getElem?_take_of_lt→Z8,getElem?_append_left→Y0,getElem?_append_right→Y3,mem_iff_getElem?→X1,drop_eq_getElem_cons→X2,getElem?_set→X8,flatMap_cons→X9,ext_getElem?→W0,range→W3,pairwise_iff_getElem→W8,append_assoc→V0,length→V4,length_eq_one_iff→V6,mem_or_eq_of_mem_set→V9,length_set→U1,append_nil→U2,mem_cons→U6,set_append_right→T2,length_singleton→T3
open Nat renaming le_refl→o7,zero_le→Y1,le_trans→Y5,mul_le_mul_right→X6,sub_self→W7,add_mul→V1,zero_add→V5,mul_one→T0
open Option renaming some→j6,toList_some→c8,isNone_some→c9,map_some→Z0,map_eq_some_iff→Z6,isNone_none→Y9,map→W6,getD_some→T4
open Option.some renaming inj→Z2,injEq→Z9
open Prod.mk renaming injEq→V8
namespace Go.Vc
open Go Go.RowKit
section
variable {P:X5} {w:x5} {m:Bool} {S R:av}
theorem re {t e:o6} {b n k l h:Nat} {z v:x4} {low high:Option x4} {cs:List x4} {K:x4→Prop} (U:P.underlying t=some (.slice e)) (hi:aJ P e k b z)
  (E:b7 w k v n cs) (h1:jB low l) (V:jC high n h) (J:l≤h) (W:h≤n) (X:∀ O,b7 w k O (h-l) ((cs.drop (l*k)).take ((h-l)*k))→K O):
  I P (j4 t v low high none) w K:=by
 have Y:=E;obtain⟨_,Z,o,base,cap,rfl,aa,_⟩:=E;rw[gy U hi h1 V eU J (by omega) (o7 _)];exact X _ (b7.part Y J W (by omega) (o7 _))
theorem Bg {t e:o6} {J k:o8} {b i:Nat} {y:Int} {z v:x4} {l:List Int} {K:x4→Prop} (O:y=(i:Int)) (U:P.underlying t=some (.slice e)) (hi:aJ P e 1 b z)
  (h:aG k w v l) (V:i≤l.length) (W:∀ E,aG k w E (l.drop i)→K E):I P (j4 t v (some (.int J y)) none none) w K:=by
 refine re U hi h (lp i y O) hY V (o7 _) fun E h'=>W E (aG.of (n:=l.length-i) ?_);have X:((ints k l).drop (i*1)).take ((l.length-i)*1)=ints k (l.drop i):=by
  rw[Z1 (by simp),T0,ints,←List.map_drop]
 rw[X] at h';exact h'
theorem Bh {t e:o6} {J k:o8} {b i:Nat} {y:Int} {z v:x4} {l:List Int} {K:x4→Prop} (O:y=(i:Int)) (U:P.underlying t=some (.slice e)) (hi:aJ P e 1 b z)
  (h:aG k w v l) (V:i≤l.length) (W:∀ E,aG k w E (l.take i)→K E):I P (j4 t v none (some (.int J y)) none) w K:=by
 refine re U hi h hX (lq i y O) (Y1 _) V fun E h'=>W E (aG.of (n:=i) ?_);have X:((ints k l).drop (0*1)).take ((i-0)*1)=ints k (l.take i):=by
  simp[ints,List.map_take]
 rw[X] at h';exact h'
theorem py {t e:o6} {b n:Nat} {parts:Array (Nat×x4)} {l:List Int} {K:x4→x5→Prop} (E:P.underlying t=some (.slice e)) (hi:aJ P e 1 b (.int .i64 0)) (X:n≤100000) (I:l.length=n)
  (J:Instr.fill (fun j=>some (j*1,1)) ((Array.range (n*1)).map ((if n*1=0 then #[] else (X7 .i64 0).cells)[·% (if n*1=0 then #[] else (X7 .i64 0).cells).size]!)) parts.toList=some (ints .i64 l).toArray)
  (O:∀ v g w',g=w.heap.size→Ext w w'→aq .i64 e w' g v l→K v w'):aa P (u9 t n parts) w K:=
 hZ E hi (by omega) J fun g w' U V W=>O _ g w' U V (aq.of (n:=n) (bR.full (by simpa using W) (by simp[I]) (by simp[maxLen];omega)))
end
section
variable {P:X5} {w:x5}
theorem Bi {t I J e:o6} {O kn:o8} {b n k cap:Nat} {y:Int} {z:x4} {base:Option Addr} {xs:List x4} {K:x4→x5→Prop} (W:y=(k:Int)) (X:P.underlying t=some (.slice e)) (Y:P.underlying I=some (.int kn)) (hi:aJ P e 1 b z) (Z:z.cells= #[z])
  (ab:b7 w 1 (.slice base n cap) n xs) (ac:0<k) (U:cap<n+k) (ad:(n+k)*b≤140737488355328) (ae:n+k≤9223372036854775807)
  (af:∀ v g w',g=w.heap.size→Ext w w'→bR w' g e 1 v (n+k) (xs++p9 k z)→K v w'):aa P (r8 #[t,I] J #[.slice base n cap,.int O y]) w K:=by
 subst W;obtain⟨i,hi,ag,rfl,ah⟩:=hi;obtain⟨E,av,o,aw,ax,he,ai,ay,aj,ak⟩:=ab;cases he;have al:(u7.firstCells i.size n (.slice base n cap)).run P w.drew= .ok xs.toArray w.drew:=by
  rcases Nat.eq_zero_or_pos n with rfl|am
  ·have:xs=[]:=j5 (by simpa using E);subst this;cases base with
   |none=>exact run_firstCells_none w.drew i.size 0 0 cap
   |some a=>exact run_firstCells_some w.drew i.size 0 a 0 cap [] (by simp) (by simp)
  ·have:=aj am;subst this;refine run_firstCells_some w.drew i.size n _ n cap xs (by rw[ag];exact E) fun j u hu=>?_;rw[U5];exact ak j u hu
 have ao:k*i.bytes≤281474976710656:=by
  have:k*i.bytes≤(n+k)*i.bytes:=X6 _ (by omega);omega
 have ap:=Lib.run_append_grow_zeros (P:=P) w t I J e i z O kn X Y hi ah base n cap xs al k ac (by omega) U (by omega) ao (growslice_fits U ad);have aq:n+k≤grownCap w (n+k) cap e:=grownCap_ge w _ _ _;have au:grownCap w (n+k) cap e≤maxLen:=grownCap_le_maxLen w (n+k) cap e (by simpa[maxLen] using ae);have V:∀ m,u7.zeroCells z.cells m=(p9 m z).toArray:=fun m=>by
  rw[Z];apply Array.ext
  ·simp[size_zeroCells]
  ·intro j h1 ai;simp[u7.zeroCells,Nat.mod_one]
 refine .of ap ((nz w _ (Nat.le_succ _)).trans (nB _ _)) (af _ w.heap.size _ rfl ((qq w _).trans (nA _ _)) ⟨by simp at E;simp[E],.inr ⟨_,xs++p9 k z++p9 (grownCap w (n+k) cap e-(n+k)) z,rfl,?_,aq,au,?_,?_⟩⟩)
 ·rw[V,V];have:=heap_alloc_new w.drew (.cells (xs.toArray++(p9 k z).toArray++(p9 (grownCap w (n+k) cap e-(n+k)) z).toArray) e);rw[List.append_toArray,List.append_toArray] at this ⊢;exact this
 ·simp at E;simp[E];omega
 ·simp at E;rw[List.take_append_of_le_length (by simp[E]),Z1 (by simp[E])]
theorem vQ {t e E:o6} {base:Option Addr} {n c:Nat} {K:x4→Prop} (J:P.underlying t=some (.slice e)):
  I P (u7.cap_ #[t] E #[.slice base n c]) w K=K (.int .i64 c):=I.of fun w' _=>by simp[u7.cap_,run_underlying J,goInt]
theorem Bj {g o k c:Nat} {e:o6} {cs:List x4} (h:ak w g e cs) (U:o+k≤cs.length) (I:k≤c) (J:c≤maxLen):b7 w 1 (.slice (some ⟨g,o,none⟩) k c) k ((cs.drop o).take k):=by
 refine⟨by simp;omega,g,o,_,c,rfl,I,J,fun _=>rfl,fun j v E=>?_⟩;have O:=(u4.1 E).1;simp at O;rw[Z8 (by omega),List.getElem?_drop] at E;exact h.cell E
theorem Bk {t J e O:o6} {U g o n cap:Nat} {z:x4} {cs:List x4} {K:x4→x5→Prop} (V:P.underlying t=some (.slice e)) (hi:aJ P e 1 U z) (W:z.cells= #[z]) (h1:z.oneCell'=true)
  (E:ak w g O cs) (X:0<n) (ae:o+n≤cs.length)
  (Y:∀ w',am (fun r=>r=g) w w'→w'.heap.size=w.heap.size→ak w' g O (over cs o (p9 n z))→K (.tuple #[]) w'):aa P (u7.clear_ #[t] J #[.slice (some ⟨g,o,none⟩) n cap]) w K:=by
 obtain⟨i,hi,af,rfl,Z⟩:=hi;have ab:=Lib.run_clear_slice (P:=P) w t e J z V (fun w=>by simp[zeroValue,typeInfo,hi,Z]) W h1 g o n cap X
  (fun j ag=>by rw[E.cell (x3 (show o+j<cs.length by omega))];rfl) (fun j _=>E.frozen _ _)
 obtain⟨ac,I⟩:=lr (p9 n z) cs o w E;exact .of ab (I.da E) (Y _ I.ad I.size ac)
end
section
variable {P:X5} {w:x5}
theorem gY {t e E:o6} {J k:o8} {i b g:Nat} {y:Int} {z v:x4} {l:List Int} {K:x4→Prop} (O:y=(i:Int)) (U:P.underlying t=some (.slice e)) (hi:aJ P e 1 b z)
  (h:aq k E w g v l) (V:i<l.length):I P (x7 t v (.int J y)) w K=K (.pointer (some ⟨g,i,none⟩)):=by
 subst O;obtain⟨_,⟨_,W⟩|⟨cap,cs,rfl,_⟩⟩:=h
 ·omega
 ·rw[gx U hi V (fun _=>rfl)];simp
theorem s4 {t e:o6} {J k:o8} {i b:Nat} {y x:Int} {z v:x4} {l:List Int} {K:x4→Prop} (O:y=(i:Int)) (U:P.underlying t=some (.slice e)) (hi:aJ P e 1 b z)
  (h:aG k w v l) (E:l[i]? =some x) (V:∀ b o,w.cell? ⟨b,o,none⟩=some (.int k x)→K (.pointer (some ⟨b,o,none⟩))):I P (x7 t v (.int J y)) w K:=by
 subst O;have W:=(u4.1 E).1;obtain⟨_,_,_,_,_,rfl,_,_,X,Y⟩:=h;rw[gx U hi W X,T0];exact V _ _ (Y i _ (jD E))
theorem gZ {e E:o6} {k:o8} {i b g:Nat} {x:Int} {z v:x4} {l:List Int} {K:Unit→x5→Prop} (hi:aJ P e 1 b z)
  (h:aq k E w g v l) (ac:i<l.length) (O:∀ w',am (fun r=>r=g) w w'→w'.heap.size=w.heap.size→aq k E w' g v (l.set i x)→K () w'):aa P (x6 e (.pointer (some ⟨g,i,none⟩)) (.int k x)) w K:=by
 obtain⟨ad,⟨_,ae⟩|⟨cap,full,rfl,U,V,W,I,J⟩⟩:=h
 ·omega
 ·have X:i<full.length:=by simp at I;omega
  refine bH hi rfl rfl U X fun w' Y Z ab=>O w' Y Z ⟨by simp,.inr ⟨cap,full.set i (.int k x),by simp,ab,by simpa using V,W,by simpa using I,?_⟩⟩;simp only[U1,T0] at J ⊢;rw[List.take_set,J,ints,ints,List.map_set]
theorem vR {t:o6} {b o:Nat} {v:x4} (E:ku P t=true) (h:w.cell? ⟨b,o,none⟩=some v):ai P (x1 t (.pointer (some ⟨b,o,none⟩))) v w:=fun w' I=>by
 have h':=ln I h;unfold ku at E;cases hu:P.underlying t with
 |none=>rw[hu] at E;cases E
 |some d=>
  rw[hu] at E;cases d <;> first|(cases E;done)|simp[x1,Instr.sureAddr,loadVar,isAgg,run_underlying hu,h']
theorem hr {k:o8} {S:av} {w':x5} {v:x4} {l:List Int} (h:aG k w v l) (J:am S w w') (O:∀ r,S r→ ∀ a n c,v= .slice (some a) n c→a.block≠r):aG k w' v l:=by
 obtain⟨h1,b,o,base,cap,rfl,U,V,E,W⟩:=h;refine⟨h1,b,o,base,cap,rfl,U,V,E,?_⟩;rcases Nat.eq_zero_or_pos l.length with I|I
 ·intro j u hu;have:=(u4.1 hu).1;simp at this;omega
 ·have X:=E I;subst X;exact qU J (fun h=>O _ h _ _ _ rfl rfl) W
end
end Go.Vc
namespace Go.Vc
open Go Go.RowKit
set_option maxRecDepth 100000
theorem Bl:(⟨#[]⟩:ByteArray)=strOfNums []:=rfl
theorem Bm {E:x4→x4→x4→x5→Prop} {B:(x4→x4→x4→x5→Prop)→Prop} (G:x4→x4→x4→x5→Prop) (h1:∀ t u v w,G t u v w→E t u v w)
  (J:∀ I:x4→x4→x4→x5→Prop,(∀ t u v w,G t u v w→I t u v w)→B I):aB E B:=J E h1
theorem s5 {E:x4→x4→x4→x4→x5→Prop} {B:(x4→x4→x4→x4→x5→Prop)→Prop} (G:x4→x4→x4→x4→x5→Prop) (h1:∀ s t u v w,G s t u v w→E s t u v w)
  (J:∀ I:x4→x4→x4→x4→x5→Prop,(∀ s t u v w,G s t u v w→I s t u v w)→B I):aB E B:=J E h1
abbrev bx (l:List Int):x4:=.string (strOfNums l)
def Bytes (l:List Int):Prop:=∀ b∈l,0≤b∧b<256
theorem kC (l:List Int):(strOfNums l).size=l.length:=strOfNums_size l
theorem Bn {l:List Int} (h:Bytes l) {i:Nat} {b:Int} (hi:l[i]? =some b):(strOfNums l)[i]? =some (UInt8.ofNat b.toNat)∧((UInt8.ofNat b.toNat).toNat:Int)=b:=by
 have O:=h b (u5 hi);have I:=u4.1 hi;refine⟨?_,by rw[UInt8.toNat_ofNat'];omega⟩;have J:i<(strOfNums l).size:=by rw[kC];exact I.1
 rw[getElem?_pos (strOfNums l) i J];congr 1;show (strOfNums l).data[i]=_;have E:(strOfNums l).data.toList[i]? =some (UInt8.ofNat b.toNat):=by rw[strOfNums_data,r9,hi];rfl
 rw[U8] at E;exact (l6.1 E).2
theorem str_inj {a b:List Int} (E:Bytes a) (I:Bytes b) (h:strOfNums a=strOfNums b):a=b:=by
 have h1:(strOfNums a).data.toList=(strOfNums b).data.toList:=by rw[h]
 rw[strOfNums_data,strOfNums_data] at h1;have key:∀ {l:List Int},Bytes l→(l.map fun n=>UInt8.ofNat n.toNat).map (fun u=>((u.toNat:Nat):Int))=l:=fun {l} J=>by
  rw[List.map_map]
  conv=>rhs;rw[←List.map_id l]
  refine List.map_congr_left fun x O=>?_;have:=J x O;show (((UInt8.ofNat x.toNat).toNat:Nat):Int)=x;rw[UInt8.toNat_ofNat'];omega
 rw[←key E,←key I,h1]
theorem Bo (a b:List Int):strOfNums a++strOfNums b=strOfNums (a++b):=by
 apply ByteArray.ext;rw[ByteArray.data_append];simp[strOfNums]
theorem Bp (l:List Int) (i j:Nat):(strOfNums l).extract i j=strOfNums ((l.take j).drop i):=by
 apply ByteArray.ext;rw[ByteArray.data_extract];apply Array.toList_inj.1;rw[Array.toList_extract];simp[strOfNums,List.extract_eq_take_drop,List.map_drop,List.map_take,List.drop_take]
theorem vS (l:List Int):(strOfNums l).toList=l.map fun n=>UInt8.ofNat n.toNat:=by
 rw[ByteArray.toList_eq];exact strOfNums_data l
theorem vT {a b:List Int} (E:Bytes a) (I:Bytes b):((strOfNums a).toList == (strOfNums b).toList)=decide (a=b):=by
 rw[W5,beq_iff_eq,decide_eq_true_eq,vS,vS];refine⟨fun h=>str_inj E I ?_,fun h=>by rw[h]⟩;unfold strOfNums;rw[h]
section
variable {P:X5} {w:x5}
theorem lB {t E:o6} {l:List Int} {K:x4→Prop} (J:P.underlying t=some .string):I P (u6 #[t] E #[bx l]) w K=K (.int .i64 l.length):=I.of fun w' _=>by
 simp[u6,run_underlying J,goInt,kC]
theorem pz {t:o6} {k:o8} {y b:Int} {i:Nat} {l:List Int} {K:x4→Prop} (E:y=(i:Int)) (J:P.underlying t=some .string) (O:Bytes l) (hi:l[i]? =some b):I P (Y2 t (bx l) (.int k y)) w K=K (.int .u8 b):=I.of fun w' _=>by
 subst E;obtain⟨h1,U⟩:=Bn O hi;have e:(0:Int)≤(i:Int):=by omega
 simp only[Y2,asIntOf,Y4,X0,Y6,run_underlying J];rw[if_pos e,c7,h1];simp only[X0,U]
theorem s6 {t:o6} {cx cy:Bool} {a b:List Int} {K:x4→Prop} (h:a.length+b.length≤9223372036854775807):I P (U .add t cx cy (bx a) (bx b)) w K=K (bx (a++b)):=I.of fun w' _=>by
 have:=run_string_add_sum (P:=P) (w:=w') (strOfNums a) (strOfNums b) (by rw[kC,kC];exact h);simp only[U,eqGuard,binOp];simp[this,Bo]
theorem vU {t:o6} {cx cy:Bool} {a b:List Int} {K:x4→Prop} (E:Bytes a) (J:Bytes b):I P (U .eql t cx cy (bx a) (bx b)) w K=K (.bool (decide (a=b))):=I.of fun w' _=>by
 simp[U,eqGuard,binOp,Op.stringOp,vT E J]
theorem Bq {t:o6} {cx cy:Bool} {a b:List Int} {K:x4→Prop} (E:Bytes a) (J:Bytes b):I P (U .neq t cx cy (bx a) (bx b)) w K=K (.bool (decide (a≠b))):=I.of fun w' _=>by
 simp[U,eqGuard,binOp,Op.stringOp,vT E J]
theorem vV {t:o6} {k:o8} {y:Int} {i:Nat} {l:List Int} {K:x4→Prop} (E:y=(i:Int)) (J:P.underlying t=some .string) (hi:i≤l.length):I P (j4 t (bx l) (some (.int k y)) none none) w K=K (bx (l.drop i)):=I.of fun w' _=>by
 have O:=q0 (P:=P) w' (sl:=false) (n:=(strOfNums l).size) (c:=(strOfNums l).size) (low:=some (.int k y)) (high:=none) (mx:=none) (l:=i) (h:=(strOfNums l).size) (m:=(strOfNums l).size) (lp i y E) hY eU (by rw[kC];exact hi) (o7 _) (o7 _);have e:(strOfNums l).extract i (strOfNums l).size=strOfNums (l.drop i):=by rw[Bp,kC,l5]
 simp[j4,Instr.slice,run_underlying J,O,e]
theorem s7 {s t e:o6} {v:x4} {l:List Int} {K:x4→Prop} (E:P.underlying s=some (.slice e)) (he:P.underlying e=some (.int .u8)) (J:P.underlying t=some .string) (h:aG .u8 w v l):I P (convert s t v) w K=K (bx l):=I.of fun w' V=>by
 obtain⟨O,b,o,base,cap,rfl,_,_,W,X⟩:=h.ext V;have O:l.length=l.length*1:=by simpa using O
 by_cases Y:0<l.length
 ·rw[W Y];refine run_convert_bytes_arg w' s e E he b o l.length cap l rfl (fun i hi=>?_) t J;have U:l[i]? =some l[i]:=x3 hi;rw[p8,U];exact X i _ (jD U)
 ·have Z:l=[]:=j5 (by omega);subst Z;cases base with
  |none=>
   rw[run_convert_bytes_nil w' s e E he _ _ t J];rfl
  |some a=>
   rw[run_convert_bytes_string w' s t e _ _ _ E he J];have:=run_bytesToString (P:=P) w' a 0 cap [] (by have:=run_loadCells_list (P:=P) w' a [] (fun j v aa=>by simp at aa);simpa using this);simp only[List.length_nil];rw[this];rfl
theorem s8 {s t e:o6} {u:TypeDesc} {l:List Int} {K:x4→x5→Prop} (V:P.underlying s=some u) (W:P.underlying t=some (.slice e)) (he:P.underlying e=some (.int .u8)) (X:Bytes l) (hm:l.length≤1000000000)
  (Y:∀ v w',Ext w w'→aG .u8 w' v l→(∀ r,(∃ a n c,v= .slice (some a) n c∧a.block=r)→w.heap.size≤r)→K v w'):aa P (convert s t (bx l)) w K:=by
 have Z:=Lib.bytesWorld_at_new w e (strOfNums l);have O:=fun j E=>Lib.bytesWorld_at_old w e (strOfNums l) j E;have ab:=Lib.bytesWorld_size w e (strOfNums l);refine .of (Lib.run_convert_string_bytes w s t e (strOfNums l) V W he) ⟨rfl,⟨rfl,Nat.le_succ _⟩,rfl,by omega,fun r o I _=>?_⟩ (Y _ _ ⟨by omega,fun r o I _=>?_⟩ ?_ ?_)
 ·rw[O r (l6.1 I).1];exact I
 ·rw[O r (l6.1 I).1];exact I
 ·rw[kC];refine⟨by simp,w.heap.size,0,_,_,rfl,?_,?_,fun _=>rfl,fun j v J=>?_⟩
  ·exact grownCap_ge w _ _ _
  ·exact grownCap_le_maxLen w _ _ _ (by simp[maxLen];omega)
  ·have E:j<l.length:=by have:=(u4.1 J).1;simpa using this
   have U:l[j]? =some l[j]:=x3 E;rw[V5,Lib.bytesWorld_cell w e (strOfNums l) j (by rw[kC];exact E)];rw[jD U] at J;rw[←Z2 J,strOfNums_data,p8,r9,U];have:=X l[j] (List.getElem_mem E);simp only[Z0,T4];congr 2;rw[UInt8.toNat_ofNat'];omega
 ·rintro r ⟨a,n,c,h1,rfl⟩;cases h1;exact o7 _
end
end Go.Vc
namespace Go.Proofs.YtgbkinibgjmodaaGreatDoor
open Go Go.Vc Go.RowKit Go.Proofs Go.Proofs.Tryz
set_option maxRecDepth 100000
theorem vW {b:Int} (h:cd b=true):bF b=false:=by
 have h:=of_decide_eq_true h;unfold bF;rw[decide_eq_false_iff_not];omega
theorem vX {b:Int} {p:List Int} (h:cd b=true):lex (b::p)=lex p:=by
 rw[h3,h3 p,List.dropWhile_cons,if_pos h]
theorem Br {b:Int} {p:List Int} (h:cd b=false) (E:bF b=false):lex (b::p)=([],false):=by
 rw[h3,List.dropWhile_cons,if_neg (by simp[h])];simp only[E,Bool.false_eq_true,if_false]
theorem vY {b:Int} {p:List Int} (h:bF b=true):lex (b::p)=match p.dropWhile bF with
  |[]=>([b::p.takeWhile bF],true)
  |c::r=>if cd c then ((b::p.takeWhile bF)::(lex (c::r)).1,(lex (c::r)).2) else ([],false):=by
 have E:cd b=false:=by
  cases I:cd b with
  |false=>rfl
  |true=>rw[vW I] at h;cases h
 rw[h3,List.dropWhile_cons,if_neg (by simp[E])];simp only[h,if_true,List.dropWhile_cons,List.takeWhile_cons]
 all_goals (cases List.dropWhile bF p <;> rfl)
def gd:List Int→List (List Int)→List Int→Bool→List (List Int)×Bool
 |[],out,w,op=>(if op then out++[w] else out,true)
 |b::p,out,w,op=>
  if cd b then gd p (if op then out++[w] else out) [] false
  else if bF b then gd p out (if op then w++[b] else[b]) true
  else (out,false)
theorem pA:∀ (p:List Int) (out:List (List Int)) (w:List Int),gd p out w false=(out++(lex p).1,(lex p).2)∧
  gd p out w true=match p.dropWhile bF with
   |[]=>(out++[w++p.takeWhile bF],true)
   |c::r=>if cd c then (out++[w++p.takeWhile bF]++(lex (c::r)).1,(lex (c::r)).2) else (out,false)
 |[],out,w=>by simp[gd,h3 []]
 |b::p,out,w=>by
  by_cases E:cd b=true
  ·have hw:=vW E;refine⟨?_,?_⟩
   ·rw[gd,if_pos E,(pA p _ _).1,vX E];simp
   ·rw[gd,if_pos E,if_pos rfl,(pA p _ _).1,List.dropWhile_cons,if_neg (by simp[hw])];simp only[E,if_true,vX E,List.takeWhile_cons,hw,Bool.false_eq_true,if_false,U2]
  ·have J:cd b=false:=by cases h:cd b;rfl;exact absurd h E
   by_cases hw:bF b=true
   ·refine⟨?_,?_⟩
    ·rw[gd,if_neg E,if_pos hw,if_neg (by simp),(pA p _ _).2,vY hw];cases p.dropWhile bF with
     |nil=>simp
     |cons c r=>
      simp only;by_cases I:cd c=true
      ·simp[I]
      ·simp[I]
    ·rw[gd,if_neg E,if_pos hw,if_pos rfl,(pA p _ _).2,List.dropWhile_cons,if_pos hw,List.takeWhile_cons,if_pos hw];cases p.dropWhile bF with
     |nil=>simp
     |cons c r=>
      simp only;by_cases I:cd c=true
      ·simp[I]
      ·simp[I]
   ·have O:bF b=false:=by cases h:bF b;rfl;exact absurd h hw
    refine⟨?_,?_⟩
    ·rw[gd,if_neg E,if_neg hw,Br J O];simp
    ·rw[gd,if_neg E,if_neg hw,List.dropWhile_cons,if_neg hw];simp[J]
theorem Bs (p:List Int):gd p [] [] false=lex p:=by rw[(pA p [] []).1];simp
def m4:Nat→Nat→List Int
 |0,_=>[]
 |k+1,n=>(if n<10 then[] else m4 k (n / 10))++[48+((n % 10:Nat):Int)]
def et (n:Nat):List Int:=m4 (n+1) n
theorem vZ:∀ {k m n:Nat},n<k→n<m→m4 k n=m4 m n
 |k+1,m+1,n,h1,E=>by
  unfold m4;by_cases h:n<10
  ·rw[if_pos h,if_pos h]
  ·rw[if_neg h,if_neg h,vZ (k:=k) (m:=m) (n:=n / 10) (by omega) (by omega)]
theorem lC (n:Nat):et n=(if n<10 then[] else et (n / 10))++[48+((n % 10:Nat):Int)]:=by
 unfold et;rw[m4];by_cases h:n<10
 ·rw[if_pos h,if_pos h]
 ·rw[if_neg h,if_neg h,vZ (k:=n) (m:=n / 10+1) (by omega) (by omega)]
theorem v7:∀ (k n:Nat),n<k→ ∀ b∈et n,48≤b∧b≤57
 |k+1,n,I,b,E=>by
  rw[lC] at E;rcases n9.1 E with E|E
  ·by_cases h:n<10
   ·rw[if_pos h] at E;simp at E
   ·rw[if_neg h] at E;exact v7 k (n / 10) (by omega) b E
  ·rw[o9] at E;omega
theorem v8 (n:Nat):∀ b∈et n,48≤b∧b≤57:=v7 (n+1) n (by omega)
def pB (l:List Int):Int:=l.foldl (fun n b=>10*n+(b-48)) 0
theorem Bt (l:List Int) (b:Int):pB (l++[b])=10*pB l+(b-48):=by simp[pB]
theorem s9:∀ (k n:Nat),n<k→pB (et n)=n
 |k+1,n,E=>by
  rw[lC,Bt];by_cases h:n<10
  ·rw[if_pos h];have:pB []=0:=rfl;omega
  ·rw[if_neg h,s9 k (n / 10) (by omega)];omega
theorem Bu {a b:Nat} (h:et a=et b):a=b:=by
 have h1:=s9 (a+1) a (by omega);have E:=s9 (b+1) b (by omega);rw[h,E] at h1;omega
theorem ta:∀ (k n:Nat),n<10 ^ k→1≤k→(et n).length≤k
 |k+1,n,h,_=>by
  rw[lC,o5];by_cases E:n<10
  ·rw[if_pos E];simp
  ·rw[if_neg E];have I:1≤k:=by
    rcases k with _|k
    ·simp at h;omega
    ·omega
   have J:(10:Nat) ^ (k+1)=10*10 ^ k:=by rw[Nat.pow_succ,Nat.mul_comm]
   have:=ta k (n / 10) (by omega) I;simp only[T3];omega
def dq (t:List Int):List Int:=t.flatMap fun v=>et v.toNat++[32]
theorem Bv (t:List Int) (v:Int):dq (t++[v])=dq t++(et v.toNat++[32]):=by simp[dq]
theorem wa {l r:List Int} (E:∀ b∈l,b≠32):(l++32::r).takeWhile (fun b=>decide (b≠32))=l∧(l++32::r).dropWhile (fun b=>decide (b≠32))=32::r:=by
 induction l with
 |nil=>simp
 |cons x l I=>
  have J:=E x (.head _);have:=I fun b O=>E b (.tail _ O);simp only[List.cons_append,List.takeWhile_cons,List.dropWhile_cons];simp only[J,ne_eq,not_false_eq_true,decide_true,if_true];exact⟨by rw[this.1],this.2⟩
theorem wb:∀ {a b:List Int},(∀ x∈a,0≤x)→(∀ x∈b,0≤x)→dq a=dq b→a=b
 |[],[],_,_,_=>rfl
 |[],y::b,_,_,h=>by simp[dq] at h
 |x::a,[],_,_,h=>by simp[dq] at h
 |x::a,y::b,J,O,h=>by
  have e:∀ (z:Int) (l:List Int),dq (z::l)=et z.toNat++32::dq l:=fun z l=>by simp[dq]
  rw[e,e] at h;have d:∀ z:Int,∀ c∈et z.toNat,c≠32:=fun z c V=>by have:=v8 _ c V;omega
  have E:=wa (r:=dq a) (d x);have U:=wa (r:=dq b) (d y);rw[h] at E;have W:et x.toNat=et y.toNat:=E.1.symm.trans U.1;have X:=E.2.symm.trans U.2;have Z:=J x (.head _);have aa:=O y (.head _);have:=Bu W;have Y:x=y:=by omega
  subst Y;rw[wb (fun z I=>J z (.tail _ I)) (fun z I=>O z (.tail _ I)) (List.cons.inj X).2]
theorem wc (t:List Int):Bytes (dq t):=fun b E=>by
 obtain⟨v,_,E⟩:=List.mem_flatMap.1 E;rcases n9.1 E with E|E
 ·have:=v8 _ b E;omega
 ·rw[o9] at E;omega
theorem we {b:Int} {w:x5}:O y0 mA [.int .u8 b] w fun v w'=>v= .bool (cd b)∧Ext w w':=by
 apply mA.enter;refine aV (fun v I=>v= .bool (cd b)∧Ext w I) (fun _ _ h=>h) fun J E=>?_;rw[bM,ag];refine⟨fun h=>E _ _ ⟨by unfold cd;rw[decide_eq_true (.inl h)],Ext.refl _⟩,fun h1=>?_⟩;rw[bM,ag];refine⟨fun h=>E _ _ ⟨by unfold cd;rw[decide_eq_true (.inr (.inl h))],Ext.refl _⟩,fun U=>?_⟩;rw[bM,ag];refine⟨fun h=>E _ _ ⟨by unfold cd;rw[decide_eq_true (.inr (.inr (.inl h)))],Ext.refl _⟩,fun V=>?_⟩;rw[bM];refine E _ _ ⟨?_,Ext.refl _⟩;congr 1;unfold cd;rw[W5,decide_eq_true_eq,decide_eq_true_eq];omega
theorem Bw {b:Int} {w:x5}:O y0 oB [.int .u8 b] w fun v w'=>v= .bool (bF b)∧Ext w w':=by
 apply oB.enter;refine aV (fun v I=>v= .bool (bF b)∧Ext w I) (fun _ _ h=>h) fun J E=>?_;rw[cw,ag];refine⟨fun h=>?_,fun h=>E _ _ ⟨by unfold bF;rw[decide_eq_false (by omega)],Ext.refl _⟩⟩;rw[po];refine E _ _ ⟨?_,Ext.refl _⟩;congr 1;unfold bF;rw[W5,decide_eq_true_eq,decide_eq_true_eq];omega
def jF (w:x5) (g:Nat) (E:x4) (p:List Int) (at_:Nat) (bad:Int):Prop:=Bytes p∧p.length≤100000∧at_≤p.length∧ak w g dv [E,.int .i64 (at_:Int),.int .i64 bad]∧ ∃ I,aq .u8 bi w I E p
theorem jF.ext {w w':x5} {g:Nat} {E:x4} {p:List Int} {at_:Nat} {bad:Int} (h:jF w g E p at_ bad) (I:Ext w w'):jF w' g E p at_ bad:=by
 obtain⟨h1,J,O,U,V,W⟩:=h;exact⟨h1,J,O,U.ext I,V,W.ext I⟩
theorem Bx {v:x4} {l:List Int} {w:x5} (h:aG .u8 w v l) (ad:l.length≤100000):O y0 ox [v] w fun I w'=>Ext w w'∧ ∃ g,aq .u8 bi w' g I l:=by
 have E:=h;obtain⟨ae,b,o,base,cap,rfl,af,hm,U,V⟩:=h;apply ox.enter;rw[qW aX.u,cv];refine⟨fun W=>⟨Ext.refl _,0,?_⟩,fun _=>?_⟩
 ·have:l=[]:=by
   cases base with
   |none=>
        by_cases E:0<l.length
        ·have:=U E;cases this
        ·exact j5 (by omega)
   |some a=>cases W
  subst this;exact aq.nil _ _ _ _
 ·refine hZ (k:=1) (cs:=#[]) aX.u bi.i (by omega) (by kernel_rfl) fun g X ag J Y=>?_;have Z:aq .u8 bi X g (.slice (some ⟨g,0,none⟩) 0 0) []:=aq.of (n:=0) (bR.full (by simpa using Y) rfl (by simp));refine gW aX.u bi.i rfl Z (E.ext J) (by simp;omega) (by simp;omega) fun I aa ah ai ab ac=>?_;exact⟨J.then ac (fun r V he=>by have he:r=g:=he;omega),aa,by simpa using ab⟩
theorem wg {v:x4} {l:List Int} {w:x5} (h:aG .u8 w v l) (W:Bytes l) (I:l.length≤100000):O y0 kh [v] w fun X w'=>Ext w w'∧ ∃ g,X= .pointer (some ⟨g,0,none⟩)∧w.heap.size≤g∧ ∃ E,jF w' g E l 0 (-1):=by
 apply kh.enter;refine (Bx h I).mono ?_;rintro E aa _ ⟨J,Y,U⟩;rw[cR (cs:=#[E,.int .i64 0,.int .i64 (-1)]) (by obtain⟨_,_,_,_,_,rfl,_⟩:=U.ls;kernel_rfl)];refine cc fun g ab ac V Z=>?_;have ad:=J.size;exact⟨J.trans V,g,rfl,by omega,E,W,I,Y1 _,Z,Y,U.ext V⟩
def runN (f:Int→Bool) (p:List Int):Nat:=(p.takeWhile f).length
theorem By (f:Int→Bool) (p:List Int):runN f p≤p.length:=(List.takeWhile_sublist f).length_le
theorem wh {f:Int→Bool} {p:List Int} {i:Nat} {b:Int} (hi:p[i]? =some b) (I:f b=true):i+runN f (p.drop i)=(i+1)+runN f (p.drop (i+1)):=by
 have E:=u4.1 hi;unfold runN;rw[X2 E.1,E.2,List.takeWhile_cons,if_pos I,j9];omega
theorem wi {f:Int→Bool} {p:List Int} {i:Nat} (h:∀ b,p[i]? =some b→f b=false):runN f (p.drop i)=0:=by
 unfold runN;cases E:p[i]? with
 |none=>
  rw[List.drop_of_length_le (List.getElem?_eq_none_iff.1 E)];rfl
 |some b=>
  have I:=u4.1 E;rw[X2 I.1,I.2,List.takeWhile_cons,if_neg (by simp[h b E])];rfl
theorem Bz {w:x5} {g at_:Nat} {ac:x4} {p:List Int} {bad:Int} (h:jF w g ac p at_ bad):O y0 oA [.pointer (some ⟨g,0,none⟩)] w fun v w'=>v= .int .i64 ((at_+runN cd (p.drop at_):Nat):Int)∧Ext w w':=by
 obtain⟨ap,aq,ad,E,av,U⟩:=h;apply oA.enter;rw[az,ah dv.p rfl,al (by kernel_rfl) (E.cell (o:=0+1) rfl)];refine⟨fun v V=>Ext w V∧ ∃ i:Nat,v= .int .i64 (i:Int)∧i≤p.length∧i+runN cd (p.drop i)=at_+runN cd (p.drop at_),fun v _=>p.length-(bQ v).toNat,⟨Ext.refl _,at_,rfl,ad,rfl⟩,?_⟩;rintro _ V ⟨J,i,rfl,hi,he⟩;refine aV (fun v W=>Ext w W∧ ∃ c:Bool,v= .bool c∧(c=true↔ ∃ b,p[i]? =some b∧cd b=true)) ?_ ?_
 ·rintro _ W ⟨X,c,rfl,Y⟩;rw[cv];refine⟨fun ae=>?_,fun Z=>?_⟩
  ·obtain⟨b,I,af⟩:=Y.1 ae;have ai:=(u4.1 I).1;rw[aL,wrap_i64 (by omega) (by omega)];exact⟨⟨X,i+1,rfl,ai,by rw[←he,wh I af]⟩,by simp only[bQ];omega⟩
  ·have aj:=wi (f:=cd) (p:=p) (i:=i) fun b E=>by
    cases ak:cd b with
    |false=>rfl
    |true=>rw[Y.2 ⟨b,E,ak⟩] at Z;cases Z
   exact⟨by rw[←he,aj,Nat.add_zero],X⟩
 ·intro aw aa;have ab:=E.ext J;rw[az,ah dv.p rfl,al (by kernel_rfl) (ab.cell (o:=0+0) rfl),aQ aX.u (U.ext J).ls,au,ag];refine⟨fun ax=>?_,fun ay=>aa _ _ ⟨J,false,rfl,⟨fun h=>(by cases h),fun⟨b,E,_⟩=>by have:=(u4.1 E).1;omega⟩⟩⟩;have am:i<p.length:=by omega
  have I:p[i]? =some p[i]:=x3 am;rw[az,ah dv.p rfl,al (by kernel_rfl) (ab.cell (o:=0+0) rfl),bw aX.u bi.i (by kernel_rfl) (U.ext J).ls I];refine we.mono ?_;rintro _ aA _ ⟨rfl,ao⟩;exact aa _ _ ⟨J.trans ao,_,rfl,⟨fun h=>⟨_,I,h⟩,fun⟨b,E,h⟩=>by rw[I] at E;cases E;exact h⟩⟩
inductive BA where
 |word (from_ to:Nat)
 |none
 |text (at_:Nat)
def eY (p:List Int) (at_:Nat):Nat:=at_+runN cd (p.drop at_)
def gA (p:List Int) (a:Nat):Nat:=a+runN bF (p.drop a)
open Classical in
noncomputable def m7 (p:List Int) (at_:Nat):BA:=
 if gA p (eY p at_)<p.length∧(∀ c,p[gA p (eY p at_)]? =some c→cd c=false) then .text (gA p (eY p at_)) else if eY p at_=gA p (eY p at_) then .none else .word (eY p at_) (gA p (eY p at_))
def pC (w:x5) (g:Nat) (E:x4) (p:List Int) (at_:Nat) (v:x4) (w':x5):Prop:=
 match m7 p at_ with
 | .word a b=>v= .tuple #[bx ((p.take b).drop a),.int .i64 (a:Int),.int .i64 0]∧am (fun r=>r=g) w w'∧jF w' g E p b (-1)
 | .none=>∃ n:Nat,v= .tuple #[bx [],.int .i64 (n:Int),.int .i64 2]∧Ext w w'
 | .text b=>v= .tuple #[bx [],.int .i64 (b:Int),.int .i64 11]∧am (fun r=>r=g) w w'∧jF w' g E p at_ (b:Int)
theorem fD {S E:Nat→Prop} {a b c:x5} (h:am S a b) (k:am E b c) (U:∀ r,r<a.heap.size→E r→S r):am S a c:=
 ⟨Y5 h.size k.size,fun r o I J O=>k.bz r o (h.bz r o I J O) J fun hu=>O (U r (l6.1 I).1 hu)⟩
theorem bZ {w:x5} {g I:Nat} {k:o8} {e J:o6} {v:x4} {l:List Int} {cs:List x4} (h:aq k e w g v l) (O:ak w I J cs) (V:e≠J) {r:Nat} (U:leads v r):r≠I:=by
 obtain⟨rfl,_⟩:=b1 h U;obtain⟨_,⟨rfl,_⟩|⟨_,_,_,E,_⟩⟩:=h
 ·obtain⟨a,n,c,h,_⟩:=U;cases h
 ·rintro rfl;unfold ak at O E;rw[O] at E;injection E with h1;injection h1 with X W;exact V W.symm
theorem BB {s t:o6} {J O:o8} {b i j:Nat} {z v:x4} {l:List Int} {w:x5} {K:x4→Prop} (U:y0.underlying s=some (.slice t)) (hi:aJ y0 t 1 b z)
  (h:aG .u8 w v l) (V:i≤j) (W:j≤l.length) (X:∀ E,aG .u8 w E ((l.take j).drop i)→K E):I y0 (j4 s v (some (.int J (i:Int))) (some (.int O (j:Int))) none) w K:=by
 refine re U hi h (lp i _ rfl) (lq j _ rfl) V W fun E h'=>X E (aG.of (n:=j-i) ?_);have Y:((ints .u8 l).drop (i*1)).take ((j-i)*1)=ints .u8 ((l.take j).drop i):=by
  rw[T0,T0,ints,ints,List.map_drop,List.map_take,List.drop_take]
 rw[Y] at h';exact h'
set_option maxHeartbeats 1000000 in
theorem BC {w:x5} {g at_:Nat} {ac:x4} {p:List Int} (h:jF w g ac p at_ (-1)):O y0 iD [.pointer (some ⟨g,0,none⟩)] w (pC w g ac p at_):=by
 obtain⟨aw,ax,aR,E,ay,ae⟩:=id h;apply iD.enter;rw[b8 lf.u,c9,aU,az,ah dv.p rfl,al (by kernel_rfl) (E.cell (o:=0+2) rfl),cw,ag];refine⟨fun h=>by omega,fun _=>?_⟩;refine (Bz h).mono ?_;rintro _ aS _ ⟨rfl,aT⟩;obtain⟨a,aA⟩:∃ a,a=at_+runN cd (p.drop at_):=⟨_,rfl⟩;rw[←aA];have aW:a≤p.length:=by have:=By cd (p.drop at_);rw[List.length_drop] at this;omega
 refine⟨fun v af=>Ext aS af∧ ∃ i:Nat,v= .int .i64 (i:Int)∧a≤i∧i≤p.length∧i+runN bF (p.drop i)=a+runN bF (p.drop a),fun v _=>p.length-(bQ v).toNat,⟨Ext.refl _,a,rfl,o7 _,aW,rfl⟩,?_⟩;rintro _ af ⟨aB,i,rfl,aY,hi,he⟩;have ai:=aT.trans aB;have aC:=E.ext ai;have aD:=ae.ext ai;refine aV (fun v X=>Ext af X∧ ∃ c:Bool,v= .bool c∧(c=true↔ ∃ b,p[i]? =some b∧bF b=true)) ?_ ?_
 rotate_left
 ·intro aZ U;rw[az,ah dv.p rfl,al (by kernel_rfl) (aC.cell (o:=0+0) rfl),aQ aX.u aD.ls,au,ag];refine⟨fun a2=>?_,fun a6=>U _ _ ⟨Ext.refl _,false,rfl,⟨fun h=>(by cases h),fun⟨b,E,_⟩=>by have:=(u4.1 E).1;omega⟩⟩⟩;have Y:i<p.length:=by omega
  have I:p[i]? =some p[i]:=x3 Y;rw[az,ah dv.p rfl,al (by kernel_rfl) (aC.cell (o:=0+0) rfl),bw aX.u bi.i (by kernel_rfl) aD.ls I];refine Bw.mono ?_;rintro _ X _ ⟨rfl,Z⟩;exact U _ _ ⟨Z,_,rfl,⟨fun h=>⟨_,I,h⟩,fun⟨b,E,h⟩=>by rw[I] at E;cases E;exact h⟩⟩
 rintro _ X ⟨Z,c,rfl,V⟩;have aj:=ai.trans Z;have aE:=E.ext aj;have aF:=ae.ext aj;rw[cv];refine⟨fun ak=>?_,fun aG=>?_⟩
 ·obtain⟨b,I,a7⟩:=V.1 ak;have a8:=(u4.1 I).1;rw[aL,wrap_i64 (by omega) (by omega)];exact⟨⟨aB.trans Z,i+1,rfl,by omega,a8,by rw[←he,wh I a7]⟩,by simp only[bQ];omega⟩
 have be:=wi (f:=bF) (p:=p) (i:=i) fun b E=>by
  cases am:bF b with
  |false=>rfl
  |true=>rw[V.2 ⟨b,E,am⟩] at aG;cases aG
 have ba:i=a+runN bF (p.drop a):=by omega
 refine aV (fun v ao=>Ext X ao∧ ∃ c:Bool,v= .bool c∧(c=true↔i<p.length∧ ∀ c,p[i]? =some c→cd c=false)) ?_ ?_
 rotate_left
 ·intro aZ U;rw[az,ah dv.p rfl,al (by kernel_rfl) (aE.cell (o:=0+0) rfl),aQ aX.u aF.ls,au,ag];refine⟨fun a2=>?_,fun a6=>U _ _ ⟨Ext.refl _,false,rfl,⟨fun h=>(by cases h),fun h=>by omega⟩⟩⟩;have Y:i<p.length:=by omega
  have I:p[i]? =some p[i]:=x3 Y;rw[az,ah dv.p rfl,al (by kernel_rfl) (aE.cell (o:=0+0) rfl),bw aX.u bi.i (by kernel_rfl) aF.ls I];refine we.mono ?_;rintro _ ao _ ⟨rfl,ap⟩;rw[b4];refine U _ _ ⟨ap,_,rfl,⟨fun h=>⟨Y,fun c V=>?_⟩,fun h=>by rw[h.2 _ I];rfl⟩⟩;rw[I] at V;cases V;cases am:cd p[i] with
  |false=>rfl
  |true=>rw[am] at h;cases h
 rintro _ ao ⟨ap,bf,rfl,aH⟩;have W:=aj.trans ap;have aa:=E.ext W;have ab:=ae.ext W;have aI:∀ r,leads ac r→r≠g:=fun r bb=>bZ ab aa (by decide) bb;have aq:m7 p at_=open Classical in if i<p.length∧(∀ c,p[i]? =some c→cd c=false) then .text i else if a=i then .none else .word a i:=by
  unfold m7;rw[show eY p at_=a from aA.symm,show gA p a=i from ba.symm]
 rw[cv];refine⟨fun ak=>?_,fun aJ=>?_⟩
 ·rw[az,ah dv.p rfl];refine bH (g:=g) (o:=2) J.i rfl rfl aa (by simp) fun bg aK bh bc=>?_;unfold pC;rw[aq,if_pos (aH.1 ak)];exact⟨rfl,(W.ad _).trans aK,aw,ax,aR,bc,ay,br ab aK aI⟩
 ·have aM:¬(i<p.length∧ ∀ c,p[i]? =some c→cd c=false):=fun h=>by rw[aH.2 h] at aJ;cases aJ
  rw[bM,ag];refine⟨fun bj=>?_,fun bk=>?_⟩
  ·intro bl av _ _;rw[az,ah dv.p rfl,al (by kernel_rfl) ((aa.ext av).cell (o:=0+0) rfl),aQ aX.u (ab.ext av).ls];unfold pC;rw[aq,if_neg aM,if_pos (by omega)];exact⟨p.length,rfl,W.trans av⟩
  ·rw[az,ah dv.p rfl];refine bH (g:=g) (o:=1) J.i rfl rfl aa (by simp) fun bm aN bn aO=>?_;have aP:=br ab aN aI;rw[az,ah dv.p rfl,al (by kernel_rfl) (aO.cell (o:=0+0) rfl)];refine BB (i:=a) (j:=i) aX.u bi.i aP.ls aY hi fun bo bd=>?_;rw[s7 aX.u bi.u a1.u bd];unfold pC;rw[aq,if_neg aM,if_neg (by omega)];exact⟨rfl,(W.ad _).trans aN,aw,ax,hi,aO,ay,aP⟩
abbrev bt:av:=fun _=>False
abbrev dU (n:Nat):av:=fun r=>n≤r
theorem BD {a b:List Int} {Z bv:x4} {w:x5} (I:aG .i64 w Z a) (aa:aG .i64 w bv b):
  O y0 od [Z,bv] w fun v w'=>v= .bool (decide (a=b))∧Ext w w':=by
 apply od.enter;rw[aQ ab.u I,aQ ab.u aa];simp only[bC,ag];refine⟨fun V=>⟨?_,Ext.refl _⟩,fun ac=>?_⟩
 ·rw[decide_eq_false];rintro rfl;exact V rfl
 ·have ac:a.length=b.length:=by omega
  rw[aQ ab.u I];refine ba.range a.length (fun i _ W=>Ext w W∧a.take i=b.take i) I.le ⟨Ext.refl _,rfl⟩ ?_ ?_
  ·rintro i t4 W k ad ⟨E,X⟩ ae;simp only[au,ag,aS];refine⟨fun _ ah af _ _=>?_,fun h=>by omega⟩;have E:=E.trans af;obtain⟨x,Y⟩:∃ x,a[i]? =some x:=⟨_,x3 ad⟩;obtain⟨y,U⟩:∃ y,b[i]? =some y:=⟨_,x3 (by omega)⟩;rw[bw ab.u J.i (by kernel_rfl) (I.ext E) Y,bw ab.u J.i (by kernel_rfl) (aa.ext E) U];simp only[bC,ag,aL];refine⟨fun V=>⟨?_,E⟩,fun ai=>ae _ _ ⟨E,sQ X Y U (by omega)⟩⟩;rw[decide_eq_false];rintro rfl;rw[Y] at U;cases U;exact V rfl
  ·rintro _ W k ⟨E,X⟩;simp only[au,ag];refine⟨fun h=>by omega,fun _=>⟨?_,E⟩⟩;rw[decide_eq_true];rwa [l5,ac,l5] at X
def ha (rest:List (List Int)) (i:Nat):List (List Int):=(W3 i).flatMap fun(v:Nat)=>rest.map fun t=>(v:Int)::t
theorem BE (rest:List (List Int)) (i:Nat):ha rest (i+1)=ha rest i++rest.map fun t=>(i:Int)::t:=by
 simp[ha,List.range_succ]
theorem wj (rest:List (List Int)) (i:Nat):(ha rest i).length=i*rest.length:=by
 simp only[ha,List.length_flatMap,o3];rw[List.map_const',List.length_range,List.sum_replicate_nat]
theorem wk:∀ (s:List Int) {sv:x4} {w:x5},aG .i64 w sv s→bV s→
  O y0 k1 [sv] w fun v w'=>Ext w w'∧dx (dU w.heap.size) bt w' [v] (bK s)
 |[],sv,w,h,Z=>by
  apply k1.enter;rw[aQ ab.u h];simp only[bM,List.length_nil,Int.natCast_zero,decide_true,bm];refine lw (α:=List Int) (a:=[]) (cs:=[.slice none 0 0]) (A:=bt) cz.u ab.i (by decide) rfl iI fun v w' al E _=>⟨al,aA.mono E (fun r _ h=>?_) fun _ _ h=>h⟩;exact h.elim False.elim id
 |k::s,sv,w,h,Z=>by
  have aM:=prod_bound Z;have aa:bV s:=Z.drop 1;have aN:=Z.2 k (.head _);have am:=iK aa.2;have aO:=prod_bound aa;obtain⟨kn,rfl⟩:∃ kn:Nat,k=kn:=⟨k.toNat,by omega⟩;have aP:kn*(bK s).length≤1073741824:=by
   have e:((kn*(bK s).length:Nat):Int)=aH ((kn:Int)::s):=by
    rw[Int.natCast_mul,am,aH,Int.toNat_of_nonneg (by omega)]
   omega
  apply k1.enter;rw[aQ ab.u h];simp only[bM,ag];refine⟨fun ao=>by simp at ao;omega,fun _=>?_⟩;refine Bg (i:=1) rfl ab.u J.i h (by simp) fun ap h'=>?_;refine (wk s h' aa).mono ?_;rintro aR U _ ⟨ac,W⟩;have aS:=kw W;refine ba.range kn (fun i out X=>Ext U X∧dx (dU U.heap.size) bt X [out] (ha (bK s) i)) (by omega) ⟨Ext.refl _,iI⟩ ?_ ?_
  ·rintro i out aq av ai ⟨V,E⟩ aw;have ax:=dc W V;rw[eV (y:=0) (i:=0) rfl ab.u J.i (by kernel_rfl) (h.ext (ac.trans V)) (by rfl)];simp only[au,ag];refine⟨fun _=>?_,fun h=>by omega⟩;rw[iJ cz.u ax];refine ba.range (bK s).length (fun j out X=>Ext U X∧dx (dU U.heap.size) bt X [out] (ha (bK s) i++((bK s).take j).map fun t=>(i:Int)::t)) (by omega) ⟨V,by simpa using E⟩ ?_ ?_
   ·rintro j out I ay az ⟨Y,E⟩ aB;simp only[au,ag];refine⟨fun _=>?_,fun h=>by omega⟩;obtain⟨x,ad⟩:∃ x,(bK s)[j]? =some x:=⟨_,x3 az⟩;have aT:x.length≤100:=by
     have:=AV ad;have:=aa.1;omega
    refine vz rfl rfl cz.u ab.i (by kernel_rfl) (dc W Y) ad fun u hu=>?_;refine dT ab.u J.i rfl fun a aU aV aW ae aC=>?_;refine gW ab.u J.i rfl aC (kz (dc hu ae)) (by simp;omega) (by simp;omega) fun b aX aD aY af aE=>?_;have aZ:=ae.size;have aj:Ext I aD:=ae.then aE (by rintro r W rfl;omega);have a1:=aj.size;refine lw (α:=List Int) (a:=(i:Int)::x) (cs:=[b]) (A:=dU I.heap.size) (R:=bt) cz.u ab.i (by decide) (q4 (mX af (R:=bt))) (aA.mono (mX af) (fun r _ h=>by subst h;show I.heap.size≤r;omega) fun _ _ h=>h) fun c a2 ah _ aF=>?_;have ak:=aj.trans ah;have a6:=ah.size;refine mW (α:=List Int) (a:=(i:Int)::x) (A:=dU I.heap.size) cz.u ab.i rfl (dc (kw E) ak) aF (dc (aA.mono (mX af) (fun r _ h=>by subst h;show I.heap.size≤r;omega) fun _ _ h=>h) ah) (fun r _ h h'=>?_) ?_ ?_ fun ap a7 aI aJ=>?_
    ·rcases h' with h'|h'
     ·have:=h.2;have:I.heap.size≤r:=h';omega
     ·exact h'
    ·have aK:(ha (bK s) i++((bK s).take j).map fun t=>(i:Int)::t).length+1≤kn*(bK s).length:=by
      simp only[o5,wj,o3,l7];have:(i+1)*(bK s).length≤kn*(bK s).length:=X6 _ ai;rw[V1] at this;omega
     omega
    ·have aK:(ha (bK s) i++((bK s).take j).map fun t=>(i:Int)::t).length+1≤kn*(bK s).length:=by
      simp only[o5,wj,o3,l7];have:(i+1)*(bK s).length≤kn*(bK s).length:=X6 _ ai;rw[V1] at this;omega
     omega
    ·simp only[aL];have a8:=Y.size;refine aB _ _ ⟨(Y.trans ak).then aJ (fun r W h=>?_),?_⟩
     ·have:=h.1;have:U.heap.size≤r:=this;omega
     ·have e:ha (bK s) i++((bK s).take (j+1)).map (fun t=>(i:Int)::t)=(ha (bK s) i++((bK s).take j).map fun t=>(i:Int)::t)++[(i:Int)::x]:=by
       rw[o4,ad];simp
      rw[e];refine aA.mono aI (fun r _ h=>?_) fun _ _ h=>h;show U.heap.size≤r;rcases h with h|h|h
      ·exact h.1
      ·have:I.heap.size≤r:=h;omega
      ·omega
   ·rintro out I ay ⟨Y,E⟩;simp only[au,ag,aL];refine⟨fun h=>by omega,fun _=>aw _ _ ⟨Y,?_⟩⟩;rw[BE];simpa using E
  ·rintro out aq av ⟨V,E⟩;rw[eV (y:=0) (i:=0) rfl ab.u J.i (by kernel_rfl) (h.ext (ac.trans V)) (by rfl)];simp only[au,ag];refine⟨fun h=>by omega,fun _=>⟨ac.trans V,?_⟩⟩;have bb:=ac.size;have e:bK ((kn:Int)::s)=ha (bK s) kn:=by simp[bK,ha]
   rw[e];exact aA.mono E (fun r _ h=>by have:U.heap.size≤r:=h;show w.heap.size≤r;omega) fun _ _ h=>h
end Go.Proofs.YtgbkinibgjmodaaGreatDoor
namespace Go.Proofs.YtgbkinibgjmodaaGreatDoor
open Go Go.Vc Go.RowKit Go.Proofs Go.Proofs.Tryz
set_option maxRecDepth 100000
def h5 (a c:Nat):Nat:=(BitVec.ofNat 64 a &&& ~~~BitVec.ofNat 64 c).toNat
theorem BF (a c i:Nat):(h5 a c).testBit i=(decide (i<64)&&(a.testBit i&& !c.testBit i)):=by
 unfold h5;rw[BitVec.testBit_toNat,BitVec.getLsbD_and,BitVec.getLsbD_not,BitVec.getLsbD_ofNat,BitVec.getLsbD_ofNat];by_cases h:i<64 <;> simp[h]
theorem BG {a n:Nat} (h:∀ i,n≤i→a.testBit i=false):a<2 ^ n:=Nat.lt_pow_two_of_testBit a h
end Go.Proofs.YtgbkinibgjmodaaGreatDoor
namespace Go.Proofs.YtgbkinibgjmodaaGreatDoor
open Go Go.Vc Go.RowKit Go.Proofs Go.Proofs.Tryz
set_option maxRecDepth 100000
section
variable {P:X5} {w:x5} {t:o6} {cx cy:Bool} {a b:Nat} {K:x4→Prop}
theorem kD (a:Nat):W9 64 (a:Int)=BitVec.ofNat 64 a:=BitVec.ofInt_natCast _ _
theorem wm (x:BitVec 64):V2.wrap (x.toNat:Int)=(x.toNat:Int):=by
 have:=x.isLt;rw[wrap_u64 (by omega) (by omega)]
theorem u64_and (E:a<2 ^ 64) (J:b<2 ^ 64):I P (U .and t cx cy (.int .u64 a) (.int .u64 b)) w K=K (.int .u64 ((a &&& b:Nat):Int)):=I.of fun w' _=>by
 have e:(W9 64 (a:Int) &&& W9 64 (b:Int)).toNat=a &&& b:=by
  rw[kD,kD,BitVec.toNat_and,BitVec.toNat_ofNat,BitVec.toNat_ofNat,Nat.mod_eq_of_lt E,Nat.mod_eq_of_lt J]
 have hw:V2.wrap ((a &&& b:Nat):Int)=((a &&& b:Nat):Int):=by rw[←e];exact wm _
 have O:(W9 V2.bits (a:Int) &&& W9 V2.bits (b:Int)).toNat=a &&& b:=e;simp only[U,eqGuard,binOp,Op.intBits,O,hw];rfl
theorem BH:I P (U .andNot t cx cy (.int .u64 a) (.int .u64 b)) w K=K (.int .u64 (h5 a b:Int)):=I.of fun w' _=>by
 have e:(W9 64 (a:Int) &&& ~~~W9 64 (b:Int)).toNat=h5 a b:=by rw[kD,kD];rfl
 have hw:V2.wrap (h5 a b:Int)=(h5 a b:Int):=wm _;have E:(W9 V2.bits (a:Int) &&& ~~~W9 V2.bits (b:Int)).toNat=h5 a b:=e;simp only[U,eqGuard,binOp,Op.intBits,E,hw];rfl
theorem tb {k:o8} {n:Nat} (E:n<64):I P (U .shr t cx cy (.int .u64 (a:Int)) (.int k (n:Int))) w K=K (.int .u64 ((a / 2 ^ n:Nat):Int)):=I.of fun w' _=>by
 have e:(a:Int).fdiv (2 ^ min n V2.bits)=((a / 2 ^ n:Nat):Int):=by
  have:min n V2.bits=n:=Nat.min_eq_left (by show n≤64;omega);rw[this,Int.fdiv_eq_ediv_of_nonneg _ (by exact Int.le_of_lt (Int.pow_pos (by omega)))];simp
 simp only[U,eqGuard,binOp,Op.shift,c7,e];simp[show ¬(n:Int)<0 by omega]
theorem wn {k:o8} {n:Nat} (E:n<64):I P (U .shl t cx cy (.int .u64 1) (.int k (n:Int))) w K=K (.int .u64 ((2 ^ n:Nat):Int)):=by
 rw[vj (by omega)];have e:min ((n:Int).toNat) V2.bits=n:=Nat.min_eq_left (by show n≤64;omega);have J:2 ^ n<2 ^ 64:=Nat.pow_lt_pow_right (by omega) E;rw[e,Int.one_mul,show ((2:Int) ^ n)=((2 ^ n:Nat):Int) by simp];generalize 2 ^ n=q at J ⊢;rw[wrap_u64 (by omega) (by omega)]
end
def h6 (b n:Nat):x4:=.agg #[.int .u64 (b:Int),.int .i64 (n:Int)]
def pD (b n:Nat):Prop:=n≤32∧b<2 ^ n
theorem BI (s i:Nat):(2 ^ s-1).testBit i=decide (i<s):=Nat.testBit_two_pow_sub_one s i
theorem wo {b n:Nat} {v:Int} {w:x5}:O y0 mg [h6 b n,.int .i64 v] w fun r w'=>r= .bool (decide (0≤v∧v<n))∧Ext w w':=by
 apply mg.enter;refine cc fun g J U E I=>?_;simp only[aB,cw,ag];refine⟨fun h=>?_,fun h=>⟨?_,E⟩⟩
 ·rw[ah bk.p rfl,al (by kernel_rfl) (I.cell (o:=0+1) rfl)];simp only[au];exact⟨by simp[h],E⟩
 ·rw[decide_eq_false];omega
theorem tc {b n:Nat} {w:x5}:O y0 jr [h6 b n] w fun r w'=>r= .int .i64 n∧Ext w w':=by
 apply jr.enter;refine cc fun g J U E I=>?_;rw[ah bk.p rfl,al (by kernel_rfl) (I.cell (o:=0+1) rfl)];exact⟨rfl,E⟩
theorem BJ {n:Int} {w:x5}:O y0 n7 [.int .i64 n] w fun r w'=>Ext w w'∧r=(if 1≤n∧n≤32 then .tuple #[h6 (2 ^ n.toNat-1) n.toNat,.int .i64 0] else .tuple #[h6 0 0,.int .i64 1]):=by
 apply n7.enter;refine bU bk.i fun g W ab J U=>?_;refine aV (fun v X=>v= .bool (decide (¬(1≤n∧n≤32)))∧W=X) ?_ ?_
 ·rintro _ _ ⟨rfl,rfl⟩;simp only[ag];refine⟨fun h=>?_,fun h=>?_⟩
  ·rw[cR (cs:=#[.int .u64 0,.int .i64 0]) (by kernel_rfl)];refine b9 (vs:=[.int .u64 0,.int .i64 0]) bk.i rfl rfl (by intro u hu;simp at hu;rcases hu with rfl|rfl <;> rfl) U fun Y E Z I=>?_;rw[eB bk.p bk.i rfl I.range,if_neg h];exact⟨J.then E (by rintro r aa rfl;omega),rfl⟩
  ·have h:1≤n∧n≤32:=X4.1 h;obtain⟨m,rfl⟩:∃ m:Nat,n=m:=⟨n.toNat,by omega⟩;rw[wn (by omega)];have ac:0<2 ^ m:=Nat.two_pow_pos m;have ad:2 ^ m≤2 ^ 32:=Nat.pow_le_pow_right (by omega) (by omega);simp only[dw];rw[wrap_u64 (by omega) (by omega),show (((2 ^ m:Nat):Int)-1)=((2 ^ m-1:Nat):Int) by omega];rw[cR (cs:=#[.int .u64 ((2 ^ m-1:Nat):Int),.int .i64 m]) (by kernel_rfl)];refine b9 (vs:=[.int .u64 ((2 ^ m-1:Nat):Int),.int .i64 m]) bk.i rfl rfl (by intro u hu;simp at hu;rcases hu with rfl|rfl <;> rfl) U fun Y E Z I=>?_;rw[eB bk.p bk.i rfl I.range,if_pos h];exact⟨J.then E (by rintro r aa rfl;omega),rfl⟩
 ·intro ae V;simp only[au,bT,ag];refine⟨fun h=>V _ _ ⟨?_,rfl⟩,fun h=>V _ _ ⟨?_,rfl⟩⟩
  ·rw[decide_eq_true];omega
  ·congr 1;simp;omega
theorem BK {b n:Nat} {v:Int} {w:x5} (af:pD b n):O y0 n8 [h6 b n,.int .i64 v] w fun r w'=>r=h6 (if 0≤v∧v<n then h5 b (2 ^ v.toNat) else b) n∧Ext w w':=by
 apply n8.enter;refine cc fun g aw ax W X=>?_;refine bU bk.i fun ai ay az Y Z=>?_;have aA:=W.size;have aB:=X.lt;refine dG (fun I=>∃ J,ak I g bk [.int .u64 ((J:Nat):Int),.int .i64 (n:Int)]∧ak I ai bk [.int .u64 0,.int .i64 0]∧Ext w I∧J=(if 0≤v∧v<n then h5 b (2 ^ v.toNat) else b)) ?_ ?_
 ·rintro I ⟨J,aj,am,ao,rfl⟩;rw[bN bk.p bk.i rfl aj.range];refine b9 (vs:=[_,_]) bk.i rfl rfl (by intro u hu;simp at hu;rcases hu with rfl|rfl <;> rfl) am fun aC ap aD aq=>?_;rw[eB bk.p bk.i rfl aq.range];exact⟨rfl,ao.then ap (by rintro r au rfl;omega)⟩
 ·intro aE aa;have U:=X.ext Y;rw[bN bk.p bk.i rfl U.range];refine wo.mono ?_;rintro _ aF _ ⟨rfl,E⟩;have ab:=(W.trans Y).trans E;simp only[ag,aS];refine⟨fun h aG V _ _=>?_,fun h=>aa _ ⟨b,U.ext E,Z.ext E,ab,by rw[if_neg h]⟩⟩;have ac:=(U.ext E).ext V;rw[ah bk.p rfl,al (by kernel_rfl) (ac.cell (o:=0+0) rfl)];obtain⟨s,rfl⟩:∃ s:Nat,v=s:=⟨v.toNat,by omega⟩;have aH:=af.1;rw[wn (by omega),BH,ah bk.p rfl];refine bH bG.i rfl rfl ac (by simp[h6,x4.cells]) fun aI ae aJ av=>?_;refine aa _ ⟨_,av,((Z.ext E).ext V).ad ae (by omega),(ab.trans V).then ae (by rintro r au rfl;omega),?_⟩;rw[if_pos h,c7]
end Go.Proofs.YtgbkinibgjmodaaGreatDoor
namespace Go.Proofs.YtgbkinibgjmodaaGreatDoor
open Go Go.Vc Go.RowKit Go.Proofs Go.Proofs.Tryz
set_option maxRecDepth 100000
abbrev dN (s:List Int):Prop:=∀ x∈s,1≤x∧x≤32
theorem dN.tail {k:Int} {s:List Int} (h:dN (k::s)):dN s:=fun x E=>h x (.tail _ E)
theorem jG {s:List Int} (h:dN s):1≤aH s:=(pt s h).1
theorem m8:∀ (s t:List Int) (m:Int),cr s t m=(cr s t 0).map fun n=>n+m*aH s
 |[],[],m=>by simp[cr,aH]
 |k::s,v::t,m=>by
  unfold cr;split
  ·rw[m8 s t (m*k+v),m8 s t (0*k+v)];simp only[Option.map_map,aH];congr 1;funext n;simp only[Function.comp];rw[Int.add_mul,Int.add_mul,←Int.mul_assoc];simp;omega
  ·rfl
 |[],_::_,_=>rfl
 |_::_,[],_=>rfl
theorem td {L j:Nat} {rest:List (List Int)} (O:rest.length=L):∀ {kn v:Nat},v<kn→ ∀ {x:List Int},rest[j]? =some x→
  ((W3 kn).flatMap fun(v:Nat)=>rest.map fun t=>(v:Int)::t)[v*L+j]? =some ((v:Int)::x)
 |0,v,h,_,_=>by omega
 |kn+1,v,h,x,I=>by
  have U:=(u4.1 I).1;have J:((W3 kn).flatMap fun(v:Nat)=>rest.map fun t=>(v:Int)::t).length=kn*L:=by
   simp only[List.length_flatMap,o3,O];rw[List.map_const',List.length_range,List.sum_replicate_nat]
  rw[List.range_succ,List.flatMap_append];by_cases E:v<kn
  ·have:(v+1)*L≤kn*L:=X6 _ E;rw[V1] at this;rw[Y0 (by rw[J];omega)];exact td O E I
  ·have E:v=kn:=by omega
   subst E;rw[Y3 (by rw[J];omega),J,show v*L+j-v*L=j by omega];simp[I]
theorem te:∀ {s:List Int},dN s→ ∀ {i:Nat} {t:List Int},(bK s)[i]? =some t→cr s t 0=some (i:Int)
 |[],_,i,t,h=>by
  cases i with
  |zero=>simp[bK] at h;subst h;rfl
  |succ i=>simp[bK] at h
 |k::s,E,i,t,h=>by
  have Y:=E k (.head _);have I:=iK E.tail;have Z:=jG E.tail;obtain⟨kn,rfl⟩:∃ kn:Nat,k=kn:=⟨k.toNat,by omega⟩;have hi:=(u4.1 h).1;rw[iK E,aH,Int.toNat_mul (by omega) (by omega),←I,c7] at hi;have V:0<(bK s).length:=by omega
  have J:i / (bK s).length<kn:=Nat.div_lt_of_lt_mul (by rw[Nat.mul_comm];exact hi);have W:i % (bK s).length<(bK s).length:=Nat.mod_lt _ V;obtain⟨x,O⟩:∃ x,(bK s)[i % (bK s).length]? =some x:=⟨_,x3 W⟩;have U:=td (kn:=kn) rfl J O;rw[Nat.mul_comm,Nat.div_add_mod] at U;have h':((W3 ((kn:Int).toNat)).flatMap fun(v:Nat)=>(bK s).map fun t=>(v:Int)::t)[i]? =some t:=h;rw[c7,U] at h';cases h';unfold cr;rw[if_pos ⟨Int.natCast_nonneg _,Int.ofNat_lt.2 J⟩,m8,te E.tail O];simp only[Z0,Z9,Int.zero_mul,Int.zero_add];have X:aH s=((bK s).length:Int):=by rw[I];omega
  rw[X,←Int.natCast_mul,←Int.natCast_add];congr 1;rw[Nat.mul_comm,Nat.add_comm,Nat.div_add_mod]
theorem rf:∀ {s:List Int},dN s→ ∀ {t:List Int} {n:Int},cr s t 0=some n→(bK s)[n.toNat]? =some t
 |[],_,[],n,h=>by simp[cr] at h;subst h;rfl
 |k::s,I,v::t,n,h=>by
  have W:=I k (.head _);have O:=iK I.tail;have X:=jG I.tail;obtain⟨kn,rfl⟩:∃ kn:Nat,k=kn:=⟨k.toNat,by omega⟩;unfold cr at h;split at h
  ·rename_i Y;rw[m8] at h;cases J:cr s t 0 with
   |none=>rw[J] at h;cases h
   |some q=>
    rw[J] at h;simp only[Z0,Z9,Int.zero_mul,Int.zero_add] at h;have U:=ly I.tail J;simp only[Int.zero_mul,Int.zero_add,Int.one_mul] at U;obtain⟨E,rfl⟩:∃ E:Nat,v=E:=⟨v.toNat,by omega⟩;have V:=td (kn:=kn) (v:=E) rfl (by omega) (rf I.tail J);have e:n.toNat=E*(bK s).length+q.toNat:=by
     rw[←h,O];have:((E*(aH s).toNat:Nat):Int)=(E:Int)*aH s:=by rw[Int.natCast_mul,Int.toNat_of_nonneg (by omega)]
     omega
    rw[e];show ((W3 ((kn:Int).toNat)).flatMap fun(v:Nat)=>(bK s).map fun t=>(v:Int)::t)[_]? =_;rw[c7];exact V
  ·cases h
 |[],_,_::_,_,h=>by cases h
 |_::_,_,[],_,h=>by cases h
theorem wp:∀ (s:List Int),dN s→ ∀ (n c:Int),ct s (n+c*aH s)=ct s n
 |[],_,_,_=>rfl
 |k::s,E,n,c=>by
  have I:=jG E.tail;simp only[ct,aH];rw[←Int.mul_assoc,wp s E.tail,Int.add_mul_ediv_right _ _ (by omega),Int.add_mul_emod_self_right]
theorem rg:∀ {s:List Int},dN s→ ∀ {n:Int},0≤n→n<aH s→cr s (ct s n) 0=some n
 |[],_,n,I,h1=>by simp[aH] at h1;simp[ct,cr];omega
 |k::s,E,n,I,h1=>by
  have U:=E k (.head _);have V:=jG E.tail;simp only[ct,aH] at h1 ⊢;have J:n / aH s<k:=Int.ediv_lt_of_lt_mul (by omega) h1;have O:0≤n / aH s:=Int.ediv_nonneg I (by omega);have hm:n / aH s % k=n / aH s:=Int.emod_eq_of_lt O J;rw[hm];unfold cr;rw[if_pos ⟨O,J⟩,m8];have e:ct s n=ct s (n % aH s):=by
   have:=wp s E.tail (n % aH s) (n / aH s);rw[←this];congr 1;have:=Int.emod_add_mul_ediv n (aH s);rw[Int.mul_comm (n / aH s)];omega
  rw[e,rg E.tail (Int.emod_nonneg _ (by omega)) (Int.emod_lt_of_pos _ (by omega))];simp only[Z0,Z9,Int.zero_mul,Int.zero_add];have:=Int.emod_add_mul_ediv n (aH s);rw[Int.mul_comm (n / aH s)];omega
theorem rh {s:List Int} (E:dN s) {i:Nat} (h:(i:Int)<aH s):(bK s)[i]? =some (ct s i):=by
 have:=rf E (rg E (n:=(i:Int)) (by omega) h);simpa using this
end Go.Proofs.YtgbkinibgjmodaaGreatDoor
namespace Go.Proofs.YtgbkinibgjmodaaGreatDoor
open Go Go.Vc Go.RowKit Go.Proofs Go.Proofs.Tryz
set_option maxRecDepth 100000
def cH (s cs t:List Int):Int:=match cr s t 0 with
 |some n=>cs.getD n.toNat 0
 |none=>0
def upto {α:Type} (l:List α) (d:α) (i:Nat):List α:=l.take i++p9 (l.length-i) d
theorem pE {α:Type} (l:List α) (d:α) (i:Nat):(upto l d i).length=l.length:=by simp[upto];omega
theorem pF {α:Type} (l:List α) (d:α):upto l d 0=p9 l.length d:=by simp[upto]
theorem pG {α:Type} (l:List α) (d:α):upto l d l.length=l:=by simp[upto]
theorem pH {α:Type} {l:List α} {d x:α} {i:Nat} (h:l[i]? =some x):(upto l d i).set i x=upto l d (i+1):=by
 have hi:=(u4.1 h).1;unfold upto;rw[T2 _ _ (by simp;omega),o4,h];have e:i-(l.take i).length=0:=by simp;omega
 obtain⟨m,hm⟩:∃ m,l.length-i=m+1:=⟨l.length-i-1,by omega⟩;rw[e,hm,show l.length-(i+1)=m by omega];simp[List.replicate_succ]
theorem BL {α:Type} {l:List α} {i:Nat} {x:α} (h:l[i]? =some x):l.set i x=l:=by
 apply W0;intro j;rw[X8];split
 ·rename_i E;subst E;rw[if_pos (u4.1 h).1,h]
 ·rfl
end Go.Proofs.YtgbkinibgjmodaaGreatDoor
namespace Go.Proofs.YtgbkinibgjmodaaGreatDoor
open Go Go.Vc Go.RowKit Go.Proofs Go.Proofs.Tryz
set_option maxRecDepth 100000
def tf:List Int→Int
 |[]=>0
 |x::l=>l.foldl min x
def wq (P:Int→Prop) (m:Int):Prop:=P m∧ ∀ x,P x→m≤x
def cM (s t:List Int):Prop:=∃ n,cr s t 0=some n
theorem BM (k v:Int) (s t:List Int):cr (k::s) (v::t) 0=if 0≤v∧v<k then (cr s t 0).map (fun n=>n+(0*k+v)*aH s) else none:=by
 conv=>lhs;unfold cr
 rw[m8]
theorem wr {k v:Int} {s t:List Int}:cM (k::s) (v::t)↔(0≤v∧v<k)∧cM s t:=by
 unfold cM;rw[BM];constructor
 ·rintro⟨n,h⟩;split at h
  ·rename_i E;cases I:cr s t 0 with
   |none=>rw[I] at h;cases h
   |some q=>exact⟨E,q,rfl⟩
  ·cases h
 ·rintro⟨E,q,I⟩;rw[if_pos E,I];exact⟨_,rfl⟩
theorem ws {t:List Int}:cM [] t↔t=[]:=by
 cases t with
 |nil=>exact⟨fun _=>rfl,fun _=>⟨0,rfl⟩⟩
 |cons v t=>
  constructor
  ·rintro⟨_,h⟩;cases h
  ·intro h;cases h
theorem ri {s t:List Int} (h:cM s t):s.length=t.length:=by
 obtain⟨n,h⟩:=h;rcases Nat.decEq s.length t.length with E|E
 ·rw[sU s t 0 E] at h;cases h
 ·exact E
theorem wu {s t:List Int} (E:dN s) {n:Int} (h:cr s t 0=some n):ct s n=t:=by
 have J:=ly E h;have h1:=rf E h;simp only[Int.zero_mul,Int.zero_add,Int.one_mul] at J;have I:=rh E (i:=n.toNat) (by omega);rw[h1] at I;have e:((n.toNat:Nat):Int)=n:=by omega
 rw[e] at I;exact (Z2 I).symm
theorem rj {s cs:List Int} (E:dN s) (I:cs.length=(aH s).toNat):cs=(W3 (aH s).toNat).map fun(q:Nat)=>cH s cs (ct s q):=by
 apply List.ext_getElem
 ·simp[I]
 ·intro i h1 J;rw[List.getElem_map,List.getElem_range];have O:=jG E;have hi:(i:Int)<aH s:=by omega
  unfold cH;rw[rg E (by omega) hi];simp only[c7];rw[p8,x3 h1];rfl
theorem tg {s:List Int} (E:dN s) {q:Nat} (I:q<(aH s).toNat):cM s (ct s q):=⟨_,rg E (by omega) (by have:=jG E;omega)⟩
theorem BN {s cs E:List Int} (I:dN s) (J:cs.length=(aH s).toNat) (O:E.length=(aH s).toNat) (h:∀ t,cM s t→cH s cs t=cH s E t):cs=E:=by
 rw[rj I J,rj I O];apply List.map_congr_left;intro q U;exact h _ (tg I (by simpa using U))
theorem BO {l:List Int} (h:l≠[]):wq (fun c=>c∈l) (tf l):=by
 obtain⟨x,r,rfl⟩:∃ v r,l=v::r:=by cases l with
  |nil=>exact absurd rfl h
  |cons v r=>exact⟨v,r,rfl⟩
 clear h;show wq (fun c=>c∈x::r) (r.foldl min x);induction r generalizing x with
 |nil=>exact⟨.head _,fun y J=>by simp at J;simp[J]⟩
 |cons y r O=>
  rw[List.foldl_cons];obtain⟨h1,I⟩:=O (min x y);refine⟨?_,fun z E=>?_⟩
  ·rcases U6.1 h1 with h1|h1
   ·rw[h1];rcases Int.le_total x y with h|h
    ·rw[Int.min_eq_left h];exact .head _
    ·rw[Int.min_eq_right h];exact .tail _ (.head _)
   ·exact .tail _ (.tail _ h1)
  ·rcases U6.1 E with rfl|E
   ·have:=I _ (.head _);omega
   ·rcases U6.1 E with rfl|E
    ·have:=I _ (.head _);omega
    ·exact I _ (.tail _ E)
end Go.Proofs.YtgbkinibgjmodaaGreatDoor
namespace Go.Proofs.YtgbkinibgjmodaaGreatDoor
open Go Go.Vc Go.RowKit Go.Proofs Go.Proofs.Tryz
set_option maxRecDepth 100000
def m9 (m:List Int) (i j:Nat):Prop:=∀ (p q:Nat) (x y:Int),p<q→q≤i→q≠j→m[p]? =some x→m[q]? =some y→x≤y
def pI (m:List Int) (i:Nat):Prop:=∀ (p q:Nat) (x y:Int),p<q→q<i→m[p]? =some x→m[q]? =some y→x≤y
theorem BP {m:List Int} {i:Nat} (h:pI m i):m9 m i i:=fun p q x y h1 J O E I=>h p q x y h1 (by omega) E I
theorem BQ {m:List Int} {i:Nat} (h:m9 m i 0):pI m (i+1):=fun p q x y h1 J E I=>h p q x y h1 (by omega) (by omega) E I
theorem BR {m:List Int} {i j:Nat} {a b:Int} (h:m9 m i j) (X:0<j) (J:m[j-1]? =some a) (U:m[j]? =some b) (V:a≤b):pI m (i+1):=by
 intro p q x y h1 Y E I;by_cases O:q=j
 ·subst O;rw[U] at I;cases I;by_cases W:p=q-1
  ·subst W;rw[J] at E;cases E;exact V
  ·have:=h p (q-1) x a (by omega) (by omega) (by omega) E J;omega
 ·exact h p q x y h1 (by omega) O E I
theorem BS {m:List Int} {i j:Nat} {a b:Int} (h:m9 m i j) (ab:0<j) (hi:j≤i) (U:m[j-1]? =some a) (V:m[j]? =some b) (ac:b<a):m9 ((m.set j a).set (j-1) b) i (j-1):=by
 intro p q x y h1 O W E I;have X:=(u4.1 V).1;have Y:∀ (r:Nat),((m.set j a).set (j-1) b)[r]? =if r=j-1 then some b else if r=j then some a else m[r]?:=fun r=>by
  by_cases h:r=j-1
  ·subst h;rw[List.getElem?_set_self (by simp;omega),if_pos rfl]
  ·rw[List.getElem?_set_ne (Ne.symm h),if_neg h];by_cases h':r=j
   ·subst h';rw[List.getElem?_set_self X,if_pos rfl]
   ·rw[List.getElem?_set_ne (Ne.symm h'),if_neg h']
 rw[Y] at E I;rw[if_neg W] at I;by_cases J:q=j
 ·rw[if_pos J] at I;cases I;split at E
  ·cases E;omega
  ·split at E
   ·omega
   ·exact h p (j-1) x a (by omega) (by omega) (by omega) E U
 ·rw[if_neg J] at I;split at E
  ·cases E;have:=h j q b y;by_cases Z:j<q
   ·exact this Z O J V I
   ·omega
  ·split at E
   ·rename_i aa;subst aa;cases E;exact h (p-1) q a y (by omega) O J U I
   ·exact h p q x y h1 O J E I
theorem swap_perm {m:List Int} {i j:Nat} {a b:Int} (O:i<j) (I:m[i]? =some a) (E:m[j]? =some b):((m.set j a).set i b).Perm m:=by
 induction m generalizing i j with
 |nil=>simp at I
 |cons x m J=>
  cases j with
  |zero=>omega
  |succ j=>
   cases i with
   |zero=>
    simp at I E ⊢;subst I;obtain⟨U,E⟩:=u4.1 E;rw[show m=m.take j++m[j]::m.drop (j+1) by simp];rw[T2 _ _ (by simp;omega)];have e:j-(m.take j).length=0:=by simp;omega
    rw[e,E];simp only[List.set_cons_zero];refine (List.Perm.cons b (List.perm_middle)).trans ?_;refine (List.Perm.swap x b _).trans ?_;exact List.Perm.cons x List.perm_middle.symm
   |succ i=>
    simp at I E ⊢;exact J (by omega) I E
theorem BT {m:List Int} (h:pI m m.length):m.Pairwise (·≤ ·):=by
 rw[W8];intro i j hi E I;exact h i j _ _ I E (x3 hi) (x3 E)
end Go.Proofs.YtgbkinibgjmodaaGreatDoor
namespace Go.Proofs.YtgbkinibgjmodaaGreatDoor
open Go Go.Vc Go.RowKit Go.Proofs Go.Proofs.Tryz
set_option maxRecDepth 100000
def Good (o:List Int) (n:Nat):Prop:=o.length=n∧ ∀ (i:Nat) (p:Int),o[i]? =some p→(0≤p∧p<n)∧ ∀ j,j<i→o[j]? ≠some p
theorem Good.inj {o:List Int} {n i j:Nat} {p:Int} (h:Good o n) (hi:o[i]? =some p) (E:o[j]? =some p):i=j:=by
 rcases Nat.lt_trichotomy i j with h1|h1|h1
 ·exact absurd hi ((h.2 j p E).2 i h1)
 ·exact h1
 ·exact absurd E ((h.2 i p hi).2 j h1)
def wv (m:List Int):Prop:=∀ i:Nat,i<m.length→m[i]? =some (i:Int)
theorem wx {o m:List Int} {n:Nat} (h:Good o n) (E:m.Perm o) (V:m.Pairwise (·≤ ·)):wv m:=by
 have W:o.Nodup:=W8.2 fun i j hi X ac he=>by
  have:=h.inj (i:=i) (j:=j) (p:=o[j]) (by rw[x3 hi,he]) (x3 X);omega
 have Y:m.Nodup:=E.nodup_iff.2 W;have ad:m.length=n:=by rw[E.length_eq,h.1]
 have O:∀ x∈m,0≤x∧x<(n:Int):=fun x Z=>by
  obtain⟨i,hi,he⟩:=List.getElem_of_mem (E.mem_iff.1 Z);exact (h.2 i x (by rw[x3 hi,he])).1
 have U:∀ (i:Nat) (hi:i+1<m.length),m[i]<m[i+1]:=fun i hi=>by
  have h1:=W8.1 V i (i+1) (by omega) hi (by omega);have I:=W8.1 Y i (i+1) (by omega) hi (by omega);omega
 have aa:∀ (i:Nat) (hi:i<m.length),(i:Int)≤m[i]:=by
  intro i;induction i with
  |zero=>intro hi;exact (O _ (List.getElem_mem hi)).1
  |succ i J=>
   intro hi;have h1:=J (by omega);have I:=U i hi;omega
 have ab:∀ (d i:Nat) (hi:i<m.length),i+d+1=m.length→m[i]≤(i:Int):=by
  intro d;induction d with
  |zero=>
   intro i hi he;have:=(O _ (List.getElem_mem hi)).2;omega
  |succ d J=>
   intro i hi he;have h1:=J (i+1) (by omega) (by omega);have I:=U i (by omega);omega
 intro i hi;rw[x3 hi];have h1:=aa i hi;have I:=ab (m.length-i-1) i hi (by omega);congr 1;omega
theorem BU {o m:List Int} (h:wv m) (I:m.Perm o):Good o m.length:=by
 have W:m.Nodup:=W8.2 fun i j hi E Y he=>by
  have h1:=h i hi;have J:=h j E;rw[x3 hi] at h1;rw[x3 E] at J;have h1:=Z2 h1;have J:=Z2 J;omega
 have X:o.Nodup:=I.nodup_iff.1 W;refine⟨I.length_eq.symm,fun i p hi=>⟨?_,fun j E O=>?_⟩⟩
 ·obtain⟨k,U,he⟩:=List.getElem_of_mem (I.mem_iff.2 (u5 hi));have h1:=h k U;rw[x3 U,he] at h1;cases h1;omega
 ·have V:i<o.length:=(u4.1 hi).1;have:=W8.1 X j i (by omega) V E;rw[x3 V] at hi;rw[x3 (show j<o.length by omega)] at O;exact this ((Z2 O).trans (Z2 hi).symm)
theorem Good.wy {o:List Int} {n p:Nat} (h:Good o n) (I:p<n):∃ j:Nat,o[j]? =some (p:Int):=by
 let le:Int→Int→Bool:=fun a b=>decide (a≤b);have h1:(o.mergeSort le).Perm o:=List.mergeSort_perm o le;have E:(o.mergeSort le).Pairwise (·≤ ·):=by
  refine (List.pairwise_mergeSort (le:=le) (fun a b c h1 E=>?_) (fun a b=>?_) o).imp fun h=>by simpa[le] using h
  ·simp[le] at*;omega
  ·simp[le];omega
 have J:=wx h h1 E p (by rw[h1.length_eq,h.1];exact I);obtain⟨j,O,he⟩:=List.getElem_of_mem (h1.mem_iff.1 (u5 J));exact⟨j,by rw[x3 O,he]⟩
def jH (o x:List Int):List Int:=(W3 o.length).map fun(p:Nat)=>x.getD (o.idxOf (p:Int)) 0
theorem wz (o x:List Int):(jH o x).length=o.length:=by simp[jH]
theorem wA {o x:List Int} {n j:Nat} {p:Int} (h:Good o n) (U:x.length=n) (E:o[j]? =some p):(jH o x)[p.toNat]? =x[j]?:=by
 have h1:=(h.2 j p E).1;have V:j<o.length:=(u4.1 E).1;have hm:p∈o:=u5 E;have I:=List.idxOf_lt_length_of_mem hm;have J:o.idxOf p=j:=h.inj (by rw[x3 I,List.getElem_idxOf I]) E;have O:((p.toNat:Nat):Int)=p:=by omega
 have W:=h.1;unfold jH;rw[r9,List.getElem?_range (by omega)];simp only[Z0,O,J];rw[p8,x3 (show j<x.length by omega)];rfl
theorem wB {o x y:List Int} {n:Nat} (h:Good o n) (J:x.length=n) (V:y.length=n) (O:∀ (j:Nat) (p:Int),o[j]? =some p→y[p.toNat]? =x[j]?):y=jH o x:=by
 refine W0 fun p=>?_;have W:=h.1;by_cases U:p<n
 ·obtain⟨j,E⟩:=h.wy U;have h1:=O j p E;have I:=wA h J E;rw[c7] at h1 I;rw[h1,I]
 ·rw[Z7 (by omega),Z7 (by rw[wz];omega)]
theorem lD:∀ {s t:List Int},cM s t↔s.length=t.length∧ ∀ (i:Nat) (a v:Int),s[i]? =some a→t[i]? =some v→0≤v∧v<a
 |[],t=>by
  rw[ws];exact⟨fun h=>⟨by rw[h],fun i a v h _=>by simp at h⟩,fun h=>j5 h.1.symm⟩
 |k::s,[]=>⟨fun h=>absurd (ri h) (by simp),fun h=>absurd h.1 (by simp)⟩
 |k::s,v::t=>by
  rw[wr,lD (s:=s) (t:=t)];refine⟨fun⟨h1,I,J⟩=>⟨by simp[I],fun i a u E hu=>?_⟩,fun⟨h1,I⟩=>⟨I 0 k v rfl rfl,by simpa using h1,fun i a u E hu=>I (i+1) a u (by simpa using E) (by simpa using hu)⟩⟩;cases i with
  |zero=>simp at E hu;subst E;subst hu;exact h1
  |succ i=>exact J i a u (by simpa using E) (by simpa using hu)
def dB (s o:List Int):List Int:=o.map fun p=>s.getD p.toNat 0
theorem rk (s o:List Int):(dB s o).length=o.length:=by simp[dB]
theorem wC {s o:List Int} {n j:Nat} {p:Int} (h:Good o n) (I:s.length=n) (E:o[j]? =some p):(dB s o)[j]? =s[p.toNat]?:=by
 have h1:=(h.2 j p E).1;unfold dB;rw[r9,E,Z0,p8,x3 (show p.toNat<s.length by omega)];rfl
theorem BV {s o:List Int} {n:Nat} (h:Good o n) (O:s.length=n) {x:Int} (E:x∈dB s o):x∈s:=by
 obtain⟨p,I,rfl⟩:=l9.1 E;obtain⟨j,J,he⟩:=List.getElem_of_mem I;have h1:=(h.2 j p (by rw[x3 J,he])).1;rw[p8,x3 (show p.toNat<s.length by omega)];exact List.getElem_mem _
theorem bV.BW {s o:List Int} {n:Nat} (E:bV s) (h:Good o n) (I:s.length=n):bV (dB s o):=
 ⟨by rw[rk,h.1,←I];exact E.1,fun x J=>E.2 x (BV h I J)⟩
theorem BX {s o x:List Int} {n:Nat} (h:Good o n) (E:s.length=n) (V:cM (dB s o) x):cM s (jH o x):=by
 obtain⟨h1,W⟩:=lD.1 V;rw[rk,h.1] at h1;refine lD.2 ⟨by rw[wz,h.1,E],fun p a v I X=>?_⟩;have Y:p<n:=by have:=(u4.1 I).1;omega
 obtain⟨j,J⟩:=h.wy Y;have O:=wC h E J;have U:=wA h h1.symm J;rw[c7] at O U;exact W j a v (by rw[O,I]) (by rw[←U,X])
def lE (s cs o:List Int):List Int:=(W3 (aH (dB s o)).toNat).map fun(q:Nat)=>cH s cs (jH o (ct (dB s o) q))
theorem wD (s cs o:List Int):(lE s cs o).length=(aH (dB s o)).toNat:=by simp[lE]
theorem th {f:Int→Bool} {x:Int} {l:List Int}:runN f (x::l)=if f x=true then runN f l+1 else 0:=by
 unfold runN;rw[List.takeWhile_cons];by_cases h:f x=true
 ·rw[if_pos h,if_pos h,j9]
 ·rw[if_neg h,if_neg h];rfl
theorem ti (f:Int→Bool):∀ l:List Int,l.dropWhile f=l.drop (runN f l)
 |[]=>rfl
 |x::l=>by
  rw[List.dropWhile_cons,th];by_cases h:f x=true
  ·rw[if_pos h,if_pos h,ti f l];rfl
  ·rw[if_neg h,if_neg h];rfl
theorem wE (f:Int→Bool):∀ l:List Int,l.takeWhile f=l.take (runN f l)
 |[]=>rfl
 |x::l=>by
  rw[List.takeWhile_cons,th];by_cases h:f x=true
  ·rw[if_pos h,if_pos h,List.take_succ_cons,wE f l]
  ·rw[if_neg h,if_neg h];rfl
theorem wF {f:Int→Bool}:∀ {l:List Int} {b:Int} {q:List Int},l.dropWhile f=b::q→f b=false
 |x::l,b,q,h=>by
  rw[List.dropWhile_cons] at h;by_cases E:f x=true
  ·rw[if_pos E] at h;exact wF h
  ·rw[if_neg E] at h;have:=(List.cons.inj h).1;subst this;cases I:f x
   ·rfl
   ·exact absurd I E
theorem tj {p:List Int} {a:Nat} {b:Int} {q:List Int} (h:p.drop a=b::q):p[a]? =some b:=by
 have:=List.getElem?_drop (xs:=p) (i:=a) (j:=0);rw[h] at this;simpa using this.symm
theorem BY (p:List Int) (at_:Nat):match m7 p at_ with
  | .word a b=>lex (p.drop at_)=(((p.take b).drop a)::(lex (p.drop b)).1,(lex (p.drop b)).2)
  | .none=>lex (p.drop at_)=([],true)
  | .text _=>lex (p.drop at_)=([],false):=by
 have O:(p.drop at_).dropWhile cd=p.drop (eY p at_):=by rw[ti,List.drop_drop];rfl
 have U:(p.drop (eY p at_)).dropWhile bF=p.drop (gA p (eY p at_)):=by rw[ti,List.drop_drop];rfl
 have W:(p.drop (eY p at_)).takeWhile bF=(p.take (gA p (eY p at_))).drop (eY p at_):=by
  rw[wE,List.drop_take];congr 1;unfold gA;omega
 have J:runN bF (p.drop (eY p at_))=gA p (eY p at_)-eY p at_:=by unfold gA;omega
 have ah:eY p at_≤gA p (eY p at_):=by unfold gA;omega
 unfold m7;generalize eY p at_=a at*;generalize gA p a=b at*;by_cases h1:b<p.length∧(∀ c,p[b]? =some c→cd c=false)
 ·rw[if_pos h1];simp only;rw[h3,O];cases E:p.drop a with
  |nil=>
   have:=List.drop_eq_nil_iff.1 E;omega
  |cons x q=>
   simp only;rw[E] at U W J;by_cases I:bF x=true
   ·rw[if_pos I,U];cases V:p.drop b with
    |nil=>have:=List.drop_eq_nil_iff.1 V;omega
    |cons c r=>
     simp only;rw[h1.2 c (tj V)];rfl
   ·rw[if_neg I]
 ·rw[if_neg h1];by_cases X:a=b
  ·rw[if_pos X];simp only;subst X;rw[h3,O];cases E:p.drop a with
   |nil=>rfl
   |cons x q=>
    exfalso;have Y:=tj E;have ac:=(u4.1 Y).1;rw[E] at J;rw[E] at O;have ad:=wF O;refine h1 ⟨ac,fun c Z=>?_⟩;rw[Y] at Z;cases Z;exact ad
  ·rw[if_neg X];simp only;rw[h3 (p.drop at_),O];cases E:p.drop a with
   |nil=>
    rw[E] at J;have:runN bF []=0:=rfl;omega
   |cons x q=>
    simp only;rw[E] at U W J;have I:bF x=true:=by
     rw[th] at J;by_cases I:bF x=true
     ·exact I
     ·rw[if_neg I] at J;omega
    rw[if_pos I,U,W];cases V:p.drop b with
    |nil=>simp only;rw[h3 []];rfl
    |cons c r=>
     simp only;have aa:=tj V;have ae:=(u4.1 aa).1;have af:cd c=true:=by
      cases ag:cd c with
      |true=>rfl
      |false=>exact absurd ⟨ae,fun d ab=>by rw[aa] at ab;cases ab;exact ag⟩ h1
     rw[if_pos af]
def fE (w:x5) (g:Nat) (R:Nat→Prop) (toks:List (List Int)) (clean:Bool):Prop:=∃ E p at_,jF w g E p at_ (-1)∧(∀ r,leads E r→R r)∧lex (p.drop at_)=(toks,clean)
theorem fE.ad {S:Nat→Prop} {w w':x5} {g:Nat} {R:Nat→Prop} {toks:List (List Int)} {clean:Bool} (h:fE w g R toks clean) (E:am S w w') (J:¬S g) (O:∀ r,R r→¬S r):fE w' g R toks clean:=by
 obtain⟨U,p,a,⟨h1,V,W,X,Y,Z⟩,I,aa⟩:=h;exact⟨U,p,a,⟨h1,V,W,X.ad E J,Y,br Z E fun r ab=>O r (I r ab)⟩,I,aa⟩
theorem fE.words {w:x5} {g:Nat} {R:Nat→Prop} {toks:List (List Int)} {clean:Bool} (h:fE w g R toks clean):toks.length≤100000∧ ∀ t∈toks,Bytes t∧t≠[]∧t.length≤100000:=by
 obtain⟨V,p,a,⟨W,X,Y,_⟩,_,I⟩:=h;have Z:(p.drop a).length≤100000:=by rw[List.length_drop];omega
 have E:=pv _ (p.drop a) (o7 _);rw[I] at E;refine⟨by show toks.length≤_;have E:toks.length≤_:=E;omega,fun t O=>?_⟩;have J:=q9 _ (p.drop a) (o7 _) t (by rw[I];exact O);refine⟨fun b U=>?_,J.1,by omega⟩;have:=of_decide_eq_true (J.2.1 b U);omega
def BZ (w:x5) (g:Nat) (R:Nat→Prop) (toks:List (List Int)) (clean:Bool) (v:x4) (w':x5):Prop:=am (fun r=>r=g) w w'∧match toks with
 |t::l=>fE w' g R l clean∧ ∃ n:Int,v= .tuple #[bx t,.int .i64 n,.int .i64 0]
 |[]=>∃ n:Int,v= .tuple #[bx [],.int .i64 n,.int .i64 (if clean then 2 else 11)]
theorem pJ {w:x5} {g:Nat} {R:Nat→Prop} {toks:List (List Int)} {clean:Bool} (h:fE w g R toks clean):O y0 iD [.pointer (some ⟨g,0,none⟩)] w (BZ w g R toks clean):=by
 obtain⟨X,p,a,h1,Y,U⟩:=h;refine (BC h1).mono ?_;intro v w' _ hw;have E:=BY p a;unfold pC at hw;cases V:m7 p a with
 |word x y=>
  rw[V] at hw E;simp only at hw E;rw[U] at E;obtain⟨rfl,W,Z⟩:=hw;obtain⟨I,J⟩:=Prod.mk.inj E;subst I J;exact⟨W,⟨X,p,y,Z,Y,rfl⟩,_,rfl⟩
 |none=>
  rw[V] at hw E;simp only at hw E;rw[U] at E;obtain⟨I,J⟩:=Prod.mk.inj E;subst I J;obtain⟨n,rfl,aa⟩:=hw;exact⟨aa.ad _,_,rfl⟩
 |text b=>
  rw[V] at hw E;simp only at hw E;rw[U] at E;obtain⟨I,J⟩:=Prod.mk.inj E;subst I J;obtain⟨rfl,W,_⟩:=hw;exact⟨W,_,rfl⟩
def h7 (w:List Int):x4:=match eX w with
 |some n=>.tuple #[.int .i64 n,.int .i64 0]
 |none=>.tuple #[.int .i64 0,.int .i64 4]
theorem wG {l:List Int} {i:Nat} {b:Int} (hi:l[i]? =some b):(l.take (i+1)).all eW=((l.take i).all eW&&eW b):=by
 rw[o4,hi,List.all_append];simp
theorem wH {l:List Int} {i:Nat} {b:Int} (hi:l[i]? =some b):(l.take (i+1)).foldl dZ 0=dZ ((l.take i).foldl dZ 0) b:=by
 rw[o4,hi,List.foldl_append];rfl
theorem wI {l:List Int} (E:l≠[]) (h:l.all eW=true):h4 l=some (l.foldl dZ 0):=by
 unfold h4;cases l with
 |nil=>exact absurd rfl E
 |cons x l=>simp only[h,if_true]
theorem wJ {l:List Int} {i:Nat} {b:Int} (hi:l[i]? =some b) (E:eW b=false):h4 l=none:=by
 unfold h4;cases l with
 |nil=>simp at hi
 |cons x l=>
  simp only;rw[if_neg];intro h;have:=List.all_eq_true.1 h b (u5 hi);rw[E] at this;cases this
def na (w l:List Int) (s:Int):Prop:=(s=1∨s= -1)∧eX w=(h4 l).map fun n=>s*n
theorem wK {l:List Int}:na (45::l) l (-1):=⟨.inr rfl,by simp only[eX];congr 1;funext n;omega⟩
theorem wL {w:List Int} (h:∀ b,w[0]? =some b→b≠45):na w w 1:=⟨.inl rfl,by
 have e:eX w=h4 w:=by
  unfold eX;cases w with
  |nil=>rfl
  |cons x l=>
   have:=h x rfl;split
   ·rename_i l' he;exact absurd (List.cons.inj he).1 this
   ·rfl
 rw[e];cases h4 w with
 |none=>rfl
 |some n=>simp⟩
theorem rl {w l:List Int} {s:Int} (h:na w l s) (E:h4 l=none):h7 w= .tuple #[.int .i64 0,.int .i64 4]:=by
 unfold h7;rw[h.2,E];rfl
theorem wM {w l:List Int} {s n:Int} (h:na w l s) (E:h4 l=some n):h7 w= .tuple #[.int .i64 (s*n),.int .i64 0]:=by
 unfold h7;rw[h.2,E];rfl
set_option maxHeartbeats 1000000 in
theorem B1 {l:List Int} {w:x5} (Z:Bytes l) (aj:l.length≤100000):O y0 oy [bx l] w fun v w'=>v=h7 l∧Ext w w':=by
 apply oy.enter;rw[Bl];refine iH (fun ax ay ak=>Ext w ak∧ ∃ (m:List Int) (s:Int),ax=bx m∧ay= .int .i64 s∧Bytes m∧m.length≤100000∧na l m s) ?_ ?_
 ·rintro _ _ ak ⟨ae,m,s,rfl,rfl,ah,aJ,aa⟩;rw[vU ah (fun b E=>by cases E),ag];refine⟨fun I=>⟨by rw[rl aa (by rw[I];rfl)],ae⟩,fun I=>?_⟩;refine s8 a1.u aX.u bi.u ah (by omega) fun bv ab al am _=>?_;rw[aQ aX.u am];refine l4.range m.length (fun i _ _ c ac=>Ext ab ac∧c= .int .i64 ((m.take i).foldl dZ 0)∧(m.take i).all eW=true) (by omega) ⟨Ext.refl _,rfl,rfl⟩ ?_ ?_
  ·rintro i az t3 _ ac aA hi ⟨J,rfl,U⟩ aB;obtain⟨b,W⟩:∃ b,m[i]? =some b:=⟨_,x3 hi⟩;have aK:=ah b (u5 W);rw[au,ag];refine⟨fun _=>?_,fun h=>by omega⟩;refine Bm (fun _ _ c ad=>Ext ab ad∧c= .int .i64 ((m.take (i+1)).foldl dZ 0)∧(m.take (i+1)).all eW=true) ?_ ?_
   ·rintro aM aN c ad aC;rw[aL];exact aB _ _ _ _ aC
   intro aD V;rw[bw aX.u bi.i (by kernel_rfl) (am.ext J) W];refine aV (fun v ad=>ac=ad∧v= .bool (!eW b)) ?_ ?_
   rotate_left
   ·intro aE X;rw[au,ag];refine⟨fun h=>X _ _ ⟨rfl,by unfold eW;rw[decide_eq_false (by omega)];rfl⟩,fun h=>?_⟩;rw[bT];refine X _ _ ⟨rfl,?_⟩;unfold eW;congr 1;by_cases ao:57<b
    ·rw[decide_eq_true ao,decide_eq_false (by omega)];rfl
    ·rw[decide_eq_false ao,decide_eq_true (by omega)];rfl
   rintro _ _ ⟨rfl,rfl⟩;cases ai:eW b with
   |false=>
    rw[Y8,bm];exact⟨by rw[rl aa (wJ W ai)],(ae.trans al).trans J⟩
   |true=>
    rw[Y7,aU];have aO:=of_decide_eq_true ai;have Y:=ra (l:=m.take i) (n:=0) U ⟨Int.le_refl _,by decide⟩;rw[wH W,wG W,U,ai] at V;generalize (m.take i).foldl dZ 0=n at*;have Y:0≤n∧n≤4611686018427387904:=Y;rw[dw,wrap_u8 (by omega) (by omega),fC bi.u af.u,wrap_i64 (x:=b-48) (by omega) (by omega),dw,wrap_i64 (by omega) (by omega),qV (by decide),Int.tdiv_eq_ediv_of_nonneg (by omega)];rw[wrap_i64 (by omega) (by omega),bT,ag];refine⟨fun aF=>V _ _ _ _ ⟨J,?_,rfl⟩,fun aF=>?_⟩
    ·congr 1;unfold dZ ap;omega
    ·rw[fZ,wrap_i64 (by omega) (by omega),aL,wrap_i64 (by omega) (by omega)];refine V _ _ _ _ ⟨J,?_,rfl⟩;congr 1;unfold dZ ap;omega
  ·rintro az t3 _ ac aA ⟨J,rfl,U⟩;rw[l5] at U ⊢;rw[au,ag];refine⟨fun h=>by omega,fun _=>?_⟩;have Y:=ra (l:=m) (n:=0) U ⟨Int.le_refl _,by decide⟩;have Y:0≤m.foldl dZ 0∧m.foldl dZ 0≤4611686018427387904:=Y;rw[fZ];have hw:X3.wrap (s*m.foldl dZ 0)=s*m.foldl dZ 0:=by
    rcases aa.1 with rfl|rfl <;> exact wrap_i64 (by omega) (by omega)
   rw[hw];exact⟨by rw[wM aa (wI I U)],(ae.trans al).trans J⟩
 ·intro aD V;refine aV (fun v ab=>w=ab∧ ∃ c:Bool,v= .bool c∧(c=true↔l[0]? =some 45)) ?_ ?_
  ·rintro _ _ ⟨rfl,c,rfl,aq⟩;rw[cv];refine⟨fun aG=>?_,fun av=>?_⟩
   ·intro aP aH _ _;have aw:=aq.1 aG;cases l with
    |nil=>simp at aw
    |cons x r=>
     have aI:x=45:=by simpa using aw
     subst aI;rw[vV (y:=1) (i:=1) rfl a1.u (by simp)];exact V _ _ _ ⟨aH,r,-1,rfl,rfl,fun b E=>Z b (.tail _ E),by simp at aj;omega,wK⟩
   ·refine V _ _ _ ⟨Ext.refl _,l,1,rfl,rfl,Z,aj,wL fun b E he=>?_⟩;subst he;rw[aq.2 E] at av;cases av
  ·intro aE X;rw[Bq Z (fun b E=>by cases E),ag];refine⟨fun I=>?_,fun I=>X _ _ ⟨rfl,false,rfl,⟨fun h=>(by cases h),fun h=>by rw[X4.1 I] at h;simp at h⟩⟩⟩;cases l with
   |nil=>exact absurd rfl I
   |cons x r=>
    rw[pz (y:=0) (i:=0) (b:=x) rfl a1.u Z rfl,bM];exact X _ _ ⟨rfl,_,rfl,by simp⟩
theorem rm {s s':ay} {w:List Int} (h:dd s=some (w,s')):s.toks=w::s'.toks∧s'={s with toks:=s'.toks}:=by
 unfold dd at h;cases E:s.toks with
 |nil=>rw[E] at h;cases h
 |cons x l=>
  rw[E] at h;simp only[Z9,V8] at h;obtain⟨rfl,rfl⟩:=h;exact⟨rfl,rfl⟩
theorem fO {lo hi n:Int} {s s':ay} (h:a8 lo hi s=some (n,s')):(lo≤n∧n≤hi)∧(∃ w,s.toks=w::s'.toks∧eX w=some n)∧s'={s with toks:=s'.toks}:=by
 unfold a8 at h;cases hw:dd s with
 |none=>rw[hw] at h;cases h
 |some q=>
  obtain⟨w,O⟩:=q;rw[hw] at h;simp only at h;obtain⟨h1,I⟩:=rm hw;cases E:eX w with
  |none=>rw[E] at h;cases h
  |some m=>
   rw[E] at h;simp only at h;split at h
   ·rename_i J;simp only[Z9,V8] at h;obtain⟨rfl,rfl⟩:=h;exact⟨J,⟨w,h1,E⟩,I⟩
   ·cases h
def gf (k:Nat) (s s':ay):Prop:=s.toks.length=s'.toks.length+k∧s'={s with toks:=s'.toks}
theorem gf.refl (s:ay):gf 0 s s:=⟨rfl,rfl⟩
theorem gf.trans {a b:Nat} {r s t:ay} (h:gf a r s) (k:gf b s t):gf (a+b) r t:=⟨by have:=h.1;have:=k.1;omega,by rw[k.2,h.2]⟩
theorem c0 {lo hi n:Int} {s s':ay} (h:a8 lo hi s=some (n,s')):gf 1 s s':=by
 obtain⟨_,⟨w,h1,_⟩,E⟩:=fO h;exact⟨by rw[h1];simp,E⟩
theorem gf.eqs {k:Nat} {s s':ay} (h:gf k s s'):s'.told=s.told∧s'.big=s.big∧s'.shared=s.shared:=by rw[h.2];exact⟨rfl,rfl,rfl⟩
theorem h8 {α:Type} {f:List α→ay→Option (α×ay)} (E:List α→ay→Prop) (O:∀ acc s a s',E acc s→f acc s=some (a,s')→E (acc++[a]) s'):
  ∀ (n:Nat) (acc:List α) (s:ay) (l:List α) (s':ay),E acc s→ck f n acc s=some (l,s')→E l s'∧l.length=acc.length+n
 |0,acc,s,l,s',I,h=>by
  simp only[ck,Z9,V8] at h;obtain⟨rfl,rfl⟩:=h;exact⟨I,by omega⟩
 |n+1,acc,s,l,s',I,h=>by
  simp only[ck] at h;cases J:f acc s with
  |none=>rw[J] at h;cases h
  |some q=>
   obtain⟨a,U⟩:=q;rw[J] at h;have:=h8 E O n _ _ _ _ (O _ _ _ _ I J) h;exact⟨this.1,by rw[this.2];simp;omega⟩
theorem tk {n:Int} {k:Nat} {s s':ay} {l:List Int} (h:ea n k s=some (l,s')):gf l.length s s'∧l.length=k∧l.Nodup∧ ∀ v∈l,0≤v∧v<n:=by
 have:=h8 (fun acc t=>gf acc.length s t∧acc.Nodup∧ ∀ v∈acc,0≤v∧v<n) (fun acc t a X ⟨h1,O,U⟩ h=>by
  cases I:a8 0 (n-1) t with
  |none=>rw[I] at h;cases h
  |some q=>
   obtain⟨v,Y⟩:=q;rw[I] at h;simp only at h;split at h
   ·cases h
   ·rename_i V;simp only[Z9,V8] at h;obtain⟨rfl,rfl⟩:=h;have Z:=(fO I).1;refine⟨by rw[o5];exact h1.trans (c0 I),List.nodup_append.2 ⟨O,by simp,fun x E y J he=>?_⟩,fun x E=>?_⟩
    ·rw[o9] at J;subst J;subst he;exact V E
    ·rcases n9.1 E with E|E
     ·exact U x E
     ·rw[o9.1 E];omega) k [] s l s' ⟨gf.refl s,List.nodup_nil,fun v W=>by cases W⟩ h
 exact⟨this.1.1,by simpa using this.2,this.1.2.1,this.1.2.2⟩
theorem tl:∀ {ks acc:List Int} {s s':ay} {t:List Int},gz ks acc s=some (t,s')→ ∃ u,t=acc++u∧cM ks u∧gf u.length s s'
 |[],acc,s,s',t,h=>by
  simp only[gz,Z9,V8] at h;obtain⟨rfl,rfl⟩:=h;exact⟨[],by simp,ws.2 rfl,gf.refl s⟩
 |k::ks,acc,s,s',t,h=>by
  simp only[gz] at h;cases E:a8 0 (k-1) s with
  |none=>rw[E] at h;cases h
  |some q=>
   obtain⟨v,J⟩:=q;rw[E] at h;obtain⟨u,rfl,hu,I⟩:=tl h;have O:=(fO E).1;exact⟨v::u,by simp,wr.2 ⟨by omega,hu⟩,by rw[j9,Nat.add_comm];exact (c0 E).trans I⟩
def kE (sizes:List Int) (l:List (List Int×Int)):Prop:=(l.map (·.1)).Nodup∧ ∀ p∈l,cM sizes p.1∧0≤p.2
theorem nb {sizes:List Int} {acc:List (List Int×Int)} {s s':ay} {a:List Int×Int} (h:de sizes acc s=some (a,s')):a.1∉acc.map (·.1)∧cM sizes a.1∧0≤a.2∧gf (a.1.length+1) s s':=by
 unfold de at h;cases I:gz sizes [] s with
 |none=>rw[I] at h;cases h
 |some q=>
  obtain⟨t,J⟩:=q;rw[I] at h;simp only at h;obtain⟨u,hu,O,U⟩:=tl I;rw[List.nil_append] at hu;subst hu;cases E:a8 0 ap J with
  |none=>rw[E] at h;cases h
  |some q=>
   obtain⟨c,W⟩:=q;rw[E] at h;simp only at h;split at h
   ·cases h
   ·rename_i V;simp only[Z9,V8] at h;obtain⟨rfl,rfl⟩:=h;exact⟨V,O,(fO E).1.1,U.trans (c0 E)⟩
structure wN (s s':ay):Prop where
 toks:s'.toks.length<s.toks.length
 big:s.big=true→s'.big=true
theorem B2 {N:Nat} {sizes:List Int} {s s':ay} {l:List (List Int×Int)} (Z:∀ q∈s.shared,kE q.1 q.2∧q.2.length≤N) (aj:s.toks.length≤N) (h:df sizes s=some (l,s')):
  kE sizes l∧l.length≤N∧s'.shared=s.shared∧wN s s':=by
 unfold df at h;cases U:a8 (-ap) ap s with
 |none=>rw[U] at h;cases h
 |some q=>
  obtain⟨n,I⟩:=q;rw[U] at h;simp only at h;have h1:=c0 U;obtain⟨ak,aa,V⟩:=h1.eqs;split at h
  ·cases W:I.shared[(-n-1).toNat]? with
   |none=>rw[W] at h;cases h
   |some q=>
    obtain⟨z,l'⟩:=q;rw[W] at h;simp only at h;split at h
    ·rename_i ad;simp only[Z9,V8] at h;obtain⟨rfl,rfl⟩:=h;subst ad;have hm:=u5 W;rw[V] at hm;exact⟨(Z _ hm).1,(Z _ hm).2,V,by have:=h1.1;omega,fun J=>by rw[aa];exact J⟩
    ·cases h
  ·have:=h8 (fun acc t=>kE sizes acc∧t.shared=s.shared∧t.toks.length+acc.length≤I.toks.length∧(s.big=true→t.big=true)) (fun acc t a al ⟨O,X,ae,Y⟩ g=>by
    obtain⟨af,ag,ah,ab⟩:=nb g;obtain⟨f1,f2,f3⟩:=ab.eqs;refine⟨⟨?_,fun p E=>?_⟩,by rw[f3,X],by have:=ab.1;simp only[o5,T3];omega,fun J=>by rw[f2];exact Y J⟩
    ·rw[j0];exact List.nodup_append.2 ⟨O.1,by simp,fun x ai y ac he=>by
      simp only[List.map_cons,List.map_nil,o9] at ac;subst ac;subst he;exact af ai⟩
    ·rcases n9.1 E with E|E
     ·exact O.2 p E
     ·rw[o9.1 E];exact⟨ag,ah⟩) n.toNat [] (aY (decide (16384<min (I.told+n) ap)) {I with told:=min (I.told+n) ap}) l s' ⟨⟨by simp,fun p E=>by cases E⟩,V,by simp[aY],fun J=>by simp[aY,aa,J]⟩ h
   obtain⟨⟨O,X,ae,Y⟩,_⟩:=this;have:=h1.1;exact⟨O,by omega,X,⟨by omega,Y⟩⟩
structure rn (all:List Int) (N:Nat) (f:ca):Prop where
 scope:f.scope.Nodup∧ ∀ v∈f.scope,0≤v∧v<all.length
 sizes:f.sizes=f.scope.map fun v=>all.getD v.toNat 0
 other:0≤f.other
 lines:kE f.sizes f.lines
 len:f.lines.length≤N
theorem B3 {N:Nat} {all:List Int} {s s':ay} {f:ca} (Z:∀ q∈s.shared,kE q.1 q.2∧q.2.length≤N) (az:s.toks.length≤N) (h:cC all s=some (f,s')):
  rn all N f∧(∀ q∈s'.shared,kE q.1 q.2∧q.2.length≤N)∧wN s s'∧(s'.big=false→f.scope.length≤6∧cS f.sizes=false):=by
 unfold cC at h;cases aa:a8 (-ap) ap s with
 |none=>rw[aa] at h;cases h
 |some q=>
 obtain⟨a,ak⟩:=q;rw[aa] at h;simp only at h;have t0:=c0 aa;obtain⟨aA,al,am⟩:=t0.eqs;cases h1:ea all.length a.natAbs ak with
 |none=>rw[h1] at h;cases h
 |some q=>
 obtain⟨sc,U⟩:=q;rw[h1] at h;simp only at h;obtain⟨ac,aB,ao,aq⟩:=tk h1;obtain⟨aC,au,av⟩:=ac.eqs;generalize aw:sc.map (fun v=>all.getD v.toNat 0)=sizes at h;cases W:a8 0 ap (aY (decide (6<a.natAbs)||cS sizes) U) with
 |none=>rw[W] at h;cases h
 |some q=>
 obtain⟨other,J⟩:=q;rw[W] at h;simp only at h;have ad:=c0 W;obtain⟨aD,X,V⟩:=ad.eqs;have V:J.shared=s.shared:=by rw[V];show U.shared=_;rw[av,am]
 have aE:J.toks.length<s.toks.length:=by
  have:=t0.1;have:=ac.1;have Y:=ad.1;have:(aY (decide (6<a.natAbs)||cS sizes) U).toks.length=U.toks.length:=rfl;omega
 cases Y:df sizes J with
 |none=>rw[Y] at h;cases h
 |some q=>
 obtain⟨lines,I⟩:=q;rw[Y] at h;simp only[Z9,V8] at h;obtain⟨rfl,rfl⟩:=h;obtain⟨ae,af,ag,ah⟩:=B2 (N:=N) (by rw[V];exact Z) (by omega) Y;have ax:=ah.big;have aF:=ah.toks;have ai:J.big=true→ ∀ ab:ay,ab=(if a<0 then {I with shared:=I.shared++[(sizes,lines)]} else I)→ab.big=true:=fun O ab he=>by
  rw[he];split <;> exact ax O
 have X:J.big=(s.big||(decide (6<a.natAbs)||cS sizes)):=by
  rw[X];show (U.big||_)=_;rw[au,al]
 refine⟨⟨⟨ao,aq⟩,aw.symm,(fO W).1.1,ae,af⟩,fun q E=>?_,⟨?_,fun O=>ai (by rw[X,O];rfl) _ rfl⟩,fun O=>?_⟩
 ·split at E
  ·rcases n9.1 E with E|E
   ·rw[show I.shared=s.shared by rw[ag,V]] at E;exact Z q E
   ·rw[o9.1 E];exact⟨ae,af⟩
  ·rw[show I.shared=s.shared by rw[ag,V]] at E;exact Z q E
 ·have:(if a<0 then {I with shared:=I.shared++[(sizes,lines)]} else I).toks=I.toks:=by split <;> rfl
  rw[this];omega
 ·have aj:J.big=false:=by
   cases E:J.big with
   |false=>rfl
   |true=>rw[ai E _ rfl] at O;cases O
  rw[X,U4,U4,decide_eq_false_iff_not] at aj;show sc.length≤6∧_;exact⟨by omega,aj.2.2⟩
structure eh (N:Nat) (f:bW):Prop where
 name:f.name.length≤64
 k:1≤f.k∧f.k≤2147483648
 sizes:1≤f.sizes.length∧f.sizes.length≤64∧ ∀ z∈f.sizes,1≤z∧z≤32
 iN:f.funs.length≤256
 funs:∀ x∈f.funs,rn f.sizes N x∧x.scope.length≤6∧cS x.sizes=false
theorem pK {b:Bool} {s:ay} (h:(aY b s).big=false):s.big=false∧b=false:=by
 have h:(s.big||b)=false:=h;exact U4.1 h
theorem B4 {a b:ay} (h:a.big=true→b.big=true) (E:b.big=false):a.big=false:=by
 cases I:a.big with
 |false=>rfl
 |true=>rw[h I] at E;cases E
set_option maxHeartbeats 800000 in
theorem wO {s s':ay} {f:bW} (az:s.shared=[]) (h:fN s=some (f,s')) (E:s'.big=false):eh s.toks.length f∧f.name∈s.toks:=by
 unfold fN at h;cases ae:dd s with
 |none=>rw[ae] at h;cases h
 |some q=>
 obtain⟨name,s0⟩:=q;rw[ae] at h;simp only at h;obtain⟨aq,aA⟩:=rm ae;cases h1:a8 1 ap (aY (decide (64<name.length)) s0) with
 |none=>rw[h1] at h;cases h
 |some q=>
 obtain⟨n,Y⟩:=q;rw[h1] at h;simp only at h;have O:=c0 h1;cases af:a8 1 ap (aY (decide (64<n)) Y) with
 |none=>rw[af] at h;cases h
 |some q=>
 obtain⟨most,aB⟩:=q;rw[af] at h;simp only at h;have ag:=c0 af;cases ah:a8 0 ap aB with
 |none=>rw[ah] at h;cases h
 |some q=>
 obtain⟨Z,aa⟩:=q;rw[ah] at h;simp only at h;have t3:=c0 ah;cases ab:a8 1 ap (aY (decide (256<Z)) aa) with
 |none=>rw[ab] at h;cases h
 |some q=>
 obtain⟨k,V⟩:=q;rw[ab] at h;simp only at h;have t4:=c0 ab;cases ai:ck (eK most) n.toNat [] (aY (decide (2147483648<k)) V) with
 |none=>rw[ai] at h;cases h
 |some q=>
 obtain⟨sizes,ac⟩:=q;rw[ai] at h;simp only at h;cases aj:ck (fun _ s=>cC sizes s) Z.toNat [] ac with
 |none=>rw[aj] at h;cases h
 |some q=>
 obtain⟨funs,aC⟩:=q;rw[aj] at h;simp only[Z9,V8] at h;obtain⟨rfl,rfl⟩:=h;have aD:=h8 (fun(acc:List Int) t=>t.shared=[]∧t.toks.length≤s.toks.length∧(t.big=false→V.big=false∧k≤2147483648∧ ∀ z∈acc,1≤z∧z≤32)) (fun acc t a aE ⟨ak,au,al⟩ g=>by
  unfold eK at g;cases U:a8 1 most t with
  |none=>rw[U] at g;cases g
  |some q=>
   obtain⟨z,O⟩:=q;rw[U] at g;simp only[Z9,V8] at g;obtain⟨rfl,rfl⟩:=g;have av:=c0 U;obtain⟨a2,aF,aG⟩:=av.eqs;have a6:=(fO U).1;refine⟨by show O.shared=[];rw[aG,ak],by show O.toks.length≤_;have:=av.1;omega,fun E=>?_⟩;obtain⟨I,W⟩:=pK E;rw[aF] at I;obtain⟨am,ao,aH⟩:=al I;refine⟨am,ao,fun y X=>?_⟩;rcases n9.1 X with X|X
   ·exact aH y X
   ·rw[o9.1 X];have:=of_decide_eq_false W;omega) n.toNat [] (aY (decide (2147483648<k)) V) sizes ac ⟨by
     show V.shared=[];rw[t4.eqs.2.2];show aa.shared=[];rw[t3.eqs.2.2,ag.eqs.2.2];show Y.shared=[];rw[O.eqs.2.2];show s0.shared=[];rw[aA];exact az,by
     show V.toks.length≤_;have aI:=O.1;have aJ:=ag.1;have a3:=t3.1;have a4:=t4.1;have I:(aY (decide (64<name.length)) s0).toks=s0.toks:=rfl;have W:(aY (decide (64<n)) Y).toks=Y.toks:=rfl;have ad:(aY (decide (256<Z)) aa).toks=aa.toks:=rfl;rw[I] at aI;rw[W] at aJ;rw[ad] at a4;rw[aq,j9];omega,fun E=>by
     obtain⟨I,W⟩:=pK E;have:=of_decide_eq_false W;exact⟨I,by omega,fun z aK=>by cases aK⟩⟩ ai
 obtain⟨⟨aL,aM,aN⟩,aO⟩:=aD;have aP:=h8 (fun(acc:List ca) t=>(∀ q∈t.shared,kE q.1 q.2∧q.2.length≤s.toks.length)∧t.toks.length≤s.toks.length∧(t.big=false→ac.big=false∧ ∀ x∈acc,rn sizes s.toks.length x∧x.scope.length≤6∧cS x.sizes=false)) (fun acc t a aE ⟨ak,au,al⟩ g=>by
  obtain⟨aQ,aR,aw,aS⟩:=B3 ak au g;refine⟨aR,by have:=aw.toks;omega,fun E=>?_⟩;obtain⟨am,ao⟩:=al (B4 aw.big E);refine⟨am,fun x J=>?_⟩;rcases n9.1 J with J|J
  ·exact ao x J
  ·rw[o9.1 J];exact⟨aQ,aS E⟩) Z.toNat [] ac funs aC ⟨(by rw[aL];intro q U;cases U),aM,fun E=>⟨E,fun x J=>by cases J⟩⟩ aj
 obtain⟨⟨_,_,d3⟩,d4⟩:=aP;obtain⟨aT,d5⟩:=d3 E;obtain⟨ad,aU,aV⟩:=aN aT;rw[t4.eqs.2.1] at ad;obtain⟨ax,aW⟩:=pK ad;rw[t3.eqs.2.1,ag.eqs.2.1] at ax;obtain⟨I,aX⟩:=pK ax;rw[O.eqs.2.1] at I;obtain⟨_,aZ⟩:=pK I;have:=of_decide_eq_false aW;have:=of_decide_eq_false aX;have:=of_decide_eq_false aZ;have a7:=(fO h1).1;have a1:=(fO ab).1;simp only[List.length_nil,V5] at aO d4;exact⟨⟨by show name.length≤64;omega,⟨a1.1,aU⟩,⟨by show 1≤sizes.length;omega,by show sizes.length≤64;omega,aV⟩,by show funs.length≤256;omega,d5⟩,by rw[aq];exact .head _⟩
def hs (x:ca) (k:Int) (t:List Int):Int:=min (match x.lines.find? (fun p=>decide (p.1=t)) with
 |some p=>p.2
 |none=>x.other) k
def be (l:List Int):List Int:=((W3 64).map fun(v:Nat)=>(v:Int)).filter fun v=>decide (v∈l)
def cb (sizes scope:List Int):List Int:=scope.map fun v=>sizes.getD v.toNat 0
def nc (scope E t:List Int):List Int:=scope.map fun v=>t.getD (E.idxOf v) 0
abbrev cg:Type:=List Int×List Int
def fP (sizes:List Int) (k:Int) (x:ca):cg:=(be x.scope,(bK (cb sizes (be x.scope))).map fun t=>hs x k (nc x.scope (be x.scope) t))
def dh (k:Int) (a b:List Int):List Int:=List.zipWith (fun x y=>min (x+y) k) a b
def gg (k:Int) (acc:List cg) (g:cg):List cg:=if g.1∈acc.map (·.1) then acc.map fun h=>if h.1=g.1 then (h.1,dh k h.2 g.2) else h else acc++[g]
def hb:List Int→Int
 |[]=>0
 |x::l=>x*64 ^ l.length+hb l
def cD (l:List Int):Int:=l.length*64 ^ 6+hb l
def fF (g:cg):List cg→List cg
 |[]=>[g]
 |h::l=>if cD h.1<cD g.1 then h::fF g l else g::h::l
def eC (g:cg):Bool:=g.2.any fun c=>decide (0<c)
def eu (f:bW):List cg:=(f.funs.map (fP f.sizes f.k)).foldl (gg f.k) []
def eD (f:bW):List cg:=((eu f).filter eC).foldl (fun l g=>fF g l) []
structure bS where
 k:Int
 sizes:List Int
 zero:Int
 unary:List (List Int)
 funs:List cg
deriving DecidableEq
def dr (f:bW):bS:=(eD f).foldl (fun n g=>match g.1 with
 |[]=>{n with zero:=g.2.getD 0 0}
 |[v]=>{n with unary:=n.unary.set v.toNat g.2}
 |_=>{n with funs:=n.funs++[g]}) ⟨f.k,f.sizes,0,f.sizes.map fun z=>p9 z.toNat 0,[]⟩
abbrev gB:Type:=Rd (List Int)×Rd (List (List Int×Int))
def bu (g gs:Nat) (A:av):av:=fun r=>r=g∨r=gs∨A r
def eE (gs:Nat) (e big E I told:Int) (sv:x4):List x4:=[.pointer (some ⟨gs,0,none⟩),.int .i64 e,.int .i64 big,.int .i64 E,.int .i64 I,.int .i64 told,sv]
def ce (g gs:Nat) (A:av) (B:av):av:=fun r=>¬bu g gs A r∧B r
def iO (w:x5) (g gs:Nat) (A:av) (B:av):Prop:=g≠gs∧¬A g∧¬A gs∧(∀ r,bu g gs A r→r<w.heap.size)∧ ∀ r,B r→r<w.heap.size
def cI (w:x5) (g gs:Nat) (A:av) (B:av) (s:ay) (clean:Bool):Prop:=iO w g gs A B∧fE w gs (ce g gs A B) s.toks clean∧(0≤s.told∧s.told≤ap∧s.shared.length+s.toks.length≤100000)∧
 ∃ big E I told sv,ak w g bn (eE gs 0 big E I told sv)∧((s.big=true↔big≠0)∧(s.big=false→told=s.told))∧dx A (ce g gs A B) w [sv] (show List gB from s.shared)
def dH (w:x5) (g gs:Nat) (A:av) (B:av):Prop:=iO w g gs A B∧ ∃ (e big E I told:Int) (sv:x4) (l:List gB),ak w g bn (eE gs e big E I told sv)∧(e≠0∧l.length≤100000)∧dx A (ce g gs A B) w [sv] l
theorem iO.ad {S:Nat→Prop} {w w':x5} {g gs:Nat} {A:av} {B:av} (h:iO w g gs A B) (I:am S w w'):iO w' g gs A B:=by
 obtain⟨h1,J,O,U,V⟩:=h;exact⟨h1,J,O,fun r E=>Nat.lt_of_lt_of_le (U r E) I.size,fun r E=>Nat.lt_of_lt_of_le (V r E) I.size⟩
theorem wP {g gs:Nat} {A:av} {B:av} {S:Nat→Prop} (E:∀ r,A r→¬S r) (I:∀ r,ce g gs A B r→¬S r):∀ r,A r∨ce g gs A B r→¬S r:=fun r h=>h.elim (E r) (I r)
theorem cI.ad {S:Nat→Prop} {w w':x5} {g gs:Nat} {A:av} {B:av} {s:ay} {clean:Bool} (h:cI w g gs A B s clean) (E:am S w w') (I:∀ r,bu g gs A r→¬S r) (J:∀ r,ce g gs A B r→¬S r):cI w' g gs A B s clean:=by
 obtain⟨h1,O,U,big,V,W,told,sv,X,Y,Z⟩:=h;exact⟨h1.ad E,O.ad E (I gs (.inr (.inl rfl))) J,U,big,V,W,told,sv,X.ad E (I g (.inl rfl)),Y,aA.ad Z E fun r _ h=>wP (fun r aa=>I r (.inr (.inr aa))) J r h⟩
theorem dH.ad {S:Nat→Prop} {w w':x5} {g gs:Nat} {A:av} {B:av} (h:dH w g gs A B) (E:am S w w') (I:∀ r,bu g gs A r→¬S r) (J:∀ r,ce g gs A B r→¬S r):dH w' g gs A B:=by
 obtain⟨h1,e,big,O,U,told,sv,l,V,W,X⟩:=h;exact⟨h1.ad E,e,big,O,U,told,sv,l,V.ad E (I g (.inl rfl)),W,aA.ad X E fun r _ h=>wP (fun r Y=>I r (.inr (.inr Y))) J r h⟩
theorem cI.ext {w w':x5} {g gs:Nat} {A:av} {B:av} {s:ay} {clean:Bool} (h:cI w g gs A B s clean) (E:Ext w w'):cI w' g gs A B s clean:=h.ad (E.ad fun _=>False) (fun _ _ h=>h) (fun _ _ h=>h)
theorem dH.ext {w w':x5} {g gs:Nat} {A:av} {B:av} (h:dH w g gs A B) (E:Ext w w'):dH w' g gs A B:=h.ad (E.ad fun _=>False) (fun _ _ h=>h) (fun _ _ h=>h)
def eL (w:x5) (g gs:Nat) (A:av) (B:av) (clean:Bool) (s':Option ay) (w':x5):Prop:=am (bu g gs A) w w'∧match s' with
 |some s'=>cI w' g gs A B s' clean
 |none=>dH w' g gs A B
theorem tm {w:x5} {g gs:Nat} {e big E I told:Int} {sv:x4} (J:ak w g bn (eE gs e big E I told sv)):O y0 ef [.pointer (some ⟨g,0,none⟩)] w fun v w'=>v= .bool (decide (e=0))∧Ext w w':=by
 apply ef.enter;rw[az,ah bn.p rfl,ah cP.p rfl,al (by kernel_rfl) (J.cell (o:=0+1+0) rfl),bM];exact⟨rfl,Ext.refl _⟩
theorem ne {w:x5} {g gs:Nat} {A:av} {B:av} {s:ay} {clean:Bool} (h:cI w g gs A B s clean):O y0 ef [.pointer (some ⟨g,0,none⟩)] w fun v w'=>v= .bool true∧Ext w w':=by
 obtain⟨_,_,_,big,I,J,told,sv,E,_⟩:=h;exact (tm E).mono fun _ _ _ h=>h
theorem lF {w:x5} {g gs:Nat} {A:av} {B:av} (h:dH w g gs A B):O y0 ef [.pointer (some ⟨g,0,none⟩)] w fun v w'=>v= .bool false∧Ext w w':=by
 obtain⟨_,e,big,U,V,told,sv,l,E,I,_⟩:=h;refine (tm E).mono ?_;rintro _ W _ ⟨rfl,J⟩;exact⟨by rw[decide_eq_false I.1],J⟩
theorem rp {g gs:Nat} {A B:av} {r:Nat} (h:A r∨ce g gs A B r) (E:¬A g):r≠g:=by
 rintro rfl;rcases h with h|h
 ·exact E h
 ·exact h.1 (.inl rfl)
theorem rq {w:x5} {g gs:Nat} {A:av} {B:av} {big W E told e at_:Int} {sv:x4} {l:List gB} (X:iO w g gs A B) (Y:ak w g bn (eE gs 0 big W E told sv)) (Z:dx A (ce g gs A B) w [sv] l) (he:e≠0) (aa:l.length≤100000):
  O y0 fh [.pointer (some ⟨g,0,none⟩),.int .i64 e,.int .i64 at_] w fun _ w'=>am (fun r=>r=g) w w'∧dH w' g gs A B:=by
 apply fh.enter;rw[az,ah bn.p rfl,ah cP.p rfl,al (by kernel_rfl) (Y.cell (o:=0+1+0) rfl),bM,ag];refine⟨fun _=>?_,fun h=>absurd rfl h⟩;rw[az,ah bn.p rfl,ah cP.p rfl];refine bH (g:=g) (o:=1) bJ.i rfl rfl Y (by simp[eE]) fun ab ac aj I=>?_;have I:ak ab g bn (eE gs e big W E told sv):=I;rw[az,ah bn.p rfl,ah cP.p rfl];refine bH (g:=g) (o:=3) J.i rfl rfl I (by simp[eE]) fun ae af ao U=>?_;have U:ak ae g bn (eE gs e big at_ E told sv):=U;have V:=ac.trans af;exact⟨V,X.ad V,e,big,at_,E,told,sv,l,U,⟨he,aa⟩,aA.ad Z V fun r _ h ai=>rp h X.2.1 ai⟩
theorem rr {w:x5} {g gs:Nat} {A:av} {B:av} {s:ay} {clean:Bool} {e at_:Int} (h:cI w g gs A B s clean) (he:e≠0):O y0 fh [.pointer (some ⟨g,0,none⟩),.int .i64 e,.int .i64 at_] w fun _ w'=>am (fun r=>r=g) w w'∧dH w' g gs A B:=by
 obtain⟨E,_,I,big,V,W,told,sv,J,_,U⟩:=h;exact rq E J U he (by have:=I.2.2;show s.shared.length≤_;omega)
theorem B5 {w:x5} {g gs:Nat} {A:av} {B:av} {e at_:Int} (h:dH w g gs A B):O y0 fh [.pointer (some ⟨g,0,none⟩),.int .i64 e,.int .i64 at_] w fun _ w'=>Ext w w':=by
 obtain⟨_,I,big,J,U,told,sv,l,h1,E,_⟩:=h;apply fh.enter;rw[az,ah bn.p rfl,ah cP.p rfl,al (by kernel_rfl) (h1.cell (o:=0+1+0) rfl),bM,ag];exact⟨fun h=>absurd h E.1,fun _=>Ext.refl _⟩
theorem rt {w:x5} {g gs:Nat} {A:av} {B:av} {s:ay} {clean b:Bool} {at_:Int} (h:cI w g gs A B s clean):O y0 fz [.pointer (some ⟨g,0,none⟩),.bool b,.int .i64 at_] w fun _ w'=>am (fun r=>r=g) w w'∧cI w' g gs A B (aY b s) clean:=by
 obtain⟨I,ab,ac,big,U,ae,told,sv,V,af,ai⟩:=id h;apply fz.enter;refine aV (fun v X=>w=X∧v= .bool (b&&decide (big=0))) ?_ ?_
 rotate_left
 ·intro aB Y;cases b with
  |false=>rw[aU];exact Y _ _ ⟨rfl,rfl⟩
  |true=>
   rw[bm,az,ah bn.p rfl,ah cP.p rfl,al (by kernel_rfl) (V.cell (o:=0+1+1) rfl),bM,ag];refine⟨fun E=>?_,fun E=>Y _ _ ⟨rfl,by rw[decide_eq_false E];rfl⟩⟩;rw[az,ah bn.p rfl,ah cP.p rfl,al (by kernel_rfl) (V.cell (o:=0+1+0) rfl),bM];exact Y _ _ ⟨rfl,by rw[decide_eq_true E];rfl⟩
 rintro _ _ ⟨rfl,rfl⟩;rw[cv];refine⟨fun aj=>?_,fun ao=>?_⟩
 ·obtain⟨rfl,E⟩:=Bool.and_eq_true_iff.1 aj;rw[az,ah bn.p rfl,ah cP.p rfl];refine bH (g:=g) (o:=2) bJ.i rfl rfl V (by simp[eE]) fun X ap aC Z=>?_;have Z:ak X g bn (eE gs 0 5 U ae told sv):=Z;rw[az,ah bn.p rfl,ah cP.p rfl];refine bH (g:=g) (o:=4) J.i rfl rfl Z (by simp[eE]) fun aq au aD aa=>?_;have aa:ak aq g bn (eE gs 0 5 U at_ told sv):=aa;have W:=ap.trans au;exact⟨W,I.ad W,ab.ad W (fun he=>I.1 he.symm) (fun r aw he=>aw.1 (.inl he)),ac,5,U,at_,told,sv,aa,⟨⟨fun _=>by omega,fun _=>by simp[aY]⟩,fun h=>by simp[aY] at h⟩,aA.ad ai W fun r _ h ax=>rp h I.2.1 ax⟩
 ·refine⟨am.refl _ _,I,ab,ac,big,U,ae,told,sv,V,⟨?_,fun h=>af.2 (by
   have h:(s.big||b)=false:=h;exact (U4.1 h).1)⟩,ai⟩
  show (s.big||b)=true↔big≠0;cases b with
  |false=>rw[Bool.or_false];exact af.1
  |true=>
   have E:big≠0:=of_decide_eq_false (by simpa using ao);simp[E]
theorem wQ {w:x5} {g gs:Nat} {A:av} {B:av} {b:Bool} {at_:Int} (h:dH w g gs A B):O y0 fz [.pointer (some ⟨g,0,none⟩),.bool b,.int .i64 at_] w fun _ w'=>Ext w w':=by
 obtain⟨_,V,big,W,X,told,sv,l,h1,I,_⟩:=h;apply fz.enter;refine aV (fun v J=>w=J∧v= .bool false) ?_ ?_
 ·rintro _ _ ⟨rfl,rfl⟩;rw[aU];exact Ext.refl _
 intro Y E;cases b with
 |false=>rw[aU];exact E _ _ ⟨rfl,rfl⟩
 |true=>
  rw[bm,az,ah bn.p rfl,ah cP.p rfl,al (by kernel_rfl) (h1.cell (o:=0+1+1) rfl),bM,ag];refine⟨fun U=>?_,fun U=>E _ _ ⟨rfl,rfl⟩⟩;rw[az,ah bn.p rfl,ah cP.p rfl,al (by kernel_rfl) (h1.cell (o:=0+1+0) rfl),bM];exact E _ _ ⟨rfl,by rw[decide_eq_false I.1]⟩
theorem cI.scan {w w':x5} {g gs:Nat} {A:av} {B:av} {s:ay} {clean:Bool} {l:List (List Int)} (h:cI w g gs A B s clean) (E:am (fun r=>r=gs) w w') (O:fE w' gs (ce g gs A B) l clean) (Z:l.length≤s.toks.length):cI w' g gs A B {s with toks:=l} clean:=by
 obtain⟨h1,_,I,big,U,V,told,sv,W,X,Y⟩:=h;refine⟨h1.ad E,O,⟨I.1,I.2.1,by have:=I.2.2;show s.shared.length+l.length≤100000;omega⟩,big,U,V,told,sv,W.ad E h1.1,X,aA.ad Y E fun r _ h J=>?_⟩;have J:r=gs:=J;subst J;rcases h with h|h
 ·exact h1.2.2.1 h
 ·exact h.1 (.inr (.inl rfl))
theorem wR {w:x5} {g gs:Nat} {A:av} {B:av} {s:ay} {clean:Bool} (h:cI w g gs A B s clean):O y0 ki [.pointer (some ⟨g,0,none⟩)] w fun v w'=>eL w g gs A B clean ((dd s).map (·.2)) w'∧ ∃ (t:List Int) (n:Int),v= .tuple #[bx t,.int .i64 n]∧Bytes t∧t.length≤100000∧ ∀ q,dd s=some q→t=q.1:=by
 apply ki.enter;refine (ne h).mono ?_;rintro _ aI _ ⟨rfl,af⟩;rw[b4,Y7,aU];have h1:=h.ext af;obtain⟨_,ai,_,big,ao,ap,told,sv,X,_⟩:=id h1;have aq:=ai.words.2;rw[az,ah bn.p rfl,al (by kernel_rfl) (X.cell (o:=0+0) rfl)];refine (pJ ai).mono ?_;rintro v J _ ⟨U,W⟩;have aj:am (bu g gs A) w J:=(af.ad _).trans (U.mono fun r _ h=>.inr (.inl h));cases I:s.toks with
 |cons t l=>
  rw[I] at W;obtain⟨au,n,rfl⟩:=W;have aw:=h1.scan U au (by rw[I];simp);have Y:dd s=some (t,{s with toks:=l}):=by unfold dd;rw[I]
  have ak:=aq t (by rw[I];exact .head _);rw[aC (v:=bx t) rfl,aC (v:=.int .i64 n) rfl,aC (v:=.int .i64 0) rfl];refine aV (fun v Z=>J=Z∧v= .int .i64 0) ?_ ?_
  ·rintro _ _ ⟨rfl,rfl⟩;refine dG (fun V=>J=V) ?_ ?_
   ·rintro _ rfl;rw[Y];exact⟨⟨aj,aw⟩,t,n,rfl,ak.1,ak.2.2,fun q aa=>by cases aa;rfl⟩
   ·intro ab E;rw[bC,ag];exact⟨fun h=>absurd rfl h,fun _=>E _ rfl⟩
  ·intro ab E;rw[bM,ag];exact⟨fun h=>by omega,fun _=>E _ _ ⟨rfl,rfl⟩⟩
 |nil=>
  rw[I] at W;obtain⟨n,rfl⟩:=W;have Y:dd s=none:=by unfold dd;rw[I]
  obtain⟨ac,_,ax,big,ao,ap,told,sv,X,aJ,aB⟩:=id h1;have aD:=X.ad U ac.1;have aE:=aA.ad aB U fun r _ h ae=>by
   have ae:r=gs:=ae;subst ae;rcases h with h|h
   ·exact ac.2.2.1 h
   ·exact h.1 (.inr (.inl rfl))
  rw[aC (v:=bx []) rfl,aC (v:=.int .i64 n) rfl,aC (v:=.int .i64 (if clean then 2 else 11)) rfl];refine aV (fun v Z=>J=Z∧ ∃ e:Int,v= .int .i64 e∧e≠0) ?_ ?_
  ·rintro _ _ ⟨rfl,e,rfl,he⟩;refine dG (fun V=>am (fun r=>r=g) J V∧dH V g gs A B) ?_ ?_
   ·rintro V ⟨aF,aG⟩;rw[Y];exact⟨⟨aj.trans (aF.mono fun r _ h=>.inl h),aG⟩,[],n,rfl,fun b aH=>(by cases aH),by simp,fun q aa=>by cases aa⟩
   ·intro ab E;rw[bC,ag];refine⟨fun _=>?_,fun h=>absurd he h⟩;exact (rq (ac.ad U) aD aE he (by have:=ax.2.2;show s.shared.length≤_;omega)).mono fun _ w' _ h=>E _ h
  ·intro ab E;rw[bM,ag];cases clean with
   |true=>exact⟨fun _=>E _ _ ⟨rfl,4,rfl,by omega⟩,fun h=>absurd rfl h⟩
   |false=>exact⟨fun h=>by simp at h,fun _=>E _ _ ⟨rfl,11,rfl,by omega⟩⟩
theorem B6 {w:x5} {g gs:Nat} {A:av} {B:av} (h:dH w g gs A B):O y0 ki [.pointer (some ⟨g,0,none⟩)] w fun v w'=>Ext w w'∧v= .tuple #[bx [],.int .i64 0]:=by
 apply ki.enter;refine (lF h).mono ?_;rintro _ I _ ⟨rfl,E⟩;rw[b4,Y8,bm];exact⟨E,rfl⟩
theorem tn {w:x5} {g gs:Nat} {A:av} {B:av} {s:ay} {clean:Bool} {lo hi:Int} (h:cI w g gs A B s clean):O y0 ez [.pointer (some ⟨g,0,none⟩),.int .i64 lo,.int .i64 hi] w fun v w'=>eL w g gs A B clean ((a8 lo hi s).map (·.2)) w'∧ ∃ n at_:Int,v= .tuple #[.int .i64 n,.int .i64 at_]∧(∀ q,a8 lo hi s=some q→n=q.1)∧(a8 lo hi s=none→n=0):=by
 apply ez.enter;refine (wR h).mono ?_;rintro _ W _ ⟨⟨X,I⟩,t,n,rfl,af,ah,hw⟩;rw[aC (v:=bx t) rfl,aC (v:=.int .i64 n) rfl];cases J:dd s with
 |none=>
  have E:a8 lo hi s=none:=by unfold a8;rw[J]
  rw[J] at I;have I:dH W g gs A B:=I;refine (lF I).mono ?_;rintro _ ai _ ⟨rfl,U⟩;rw[b4,Y8,bm,E];exact⟨⟨X.trans (U.ad _),I.ext U⟩,0,n,rfl,fun q h=>(by cases h),fun _=>rfl⟩
 |some q=>
  obtain⟨ap,Y⟩:=q;have:=hw _ J;subst this;rw[J] at I;have I:cI W g gs A B Y clean:=I;refine (ne I).mono ?_;rintro _ ai _ ⟨rfl,U⟩;rw[b4,Y7,aU];refine (B1 af ah).mono ?_;rintro _ Z _ ⟨rfl,aa⟩;have ab:=(I.ext U).ext aa;have ac:am (bu g gs A) w Z:=(X.trans (U.ad _)).trans (aa.ad _);obtain⟨m,e,aj,hm⟩:∃ m e:Int,h7 t= .tuple #[.int .i64 m,.int .i64 e]∧((eX t=some m∧e=0)∨(eX t=none∧e=4)):=by
   unfold h7;cases aq:eX t with
   |none=>exact⟨0,4,rfl,.inr ⟨rfl,rfl⟩⟩
   |some m=>exact⟨m,0,rfl,.inl ⟨rfl,rfl⟩⟩
  rw[aj,aC (v:=.int .i64 m) rfl,aC (v:=.int .i64 e) rfl];refine aV (fun v ak=>Z=ak∧v= .bool (a8 lo hi s).isNone) ?_ ?_
  ·rintro _ _ ⟨rfl,rfl⟩;cases E:a8 lo hi s with
   |none=>
    rw[Y9,bm];refine (rr ab (by omega)).mono ?_;rintro _ aw _ ⟨al,ao⟩;exact⟨⟨ac.trans (al.mono fun r _ h=>.inl h),ao⟩,0,n,rfl,fun q h=>(by cases h),fun _=>rfl⟩
   |some q=>
    rw[c9,aU];unfold a8 at E;rw[J] at E;simp only at E;rcases hm with⟨hm,_⟩|⟨hm,_⟩
    ·rw[hm] at E;simp only at E;split at E
     ·cases E;exact⟨⟨ac,ab⟩,m,n,rfl,fun q h=>(by cases h;rfl),fun h=>(by cases h)⟩
     ·cases E
    ·rw[hm] at E;cases E
  ·intro ax V;have E:a8 lo hi s=match eX t with
     |none=>none
     |some n=>if lo≤n∧n≤hi then some (n,Y) else none:=by
    unfold a8;rw[J];simp only;cases eX t <;> rfl
   rw[bC,ag];rcases hm with⟨hm,rfl⟩|⟨hm,rfl⟩
   ·rw[hm] at E;simp only at E;refine⟨fun h=>absurd rfl h,fun _=>?_⟩;rw[au,ag];refine⟨fun h=>V _ _ ⟨rfl,by rw[E,if_neg (by omega)];rfl⟩,fun h=>?_⟩;rw[bT];refine V _ _ ⟨rfl,?_⟩;rw[E];by_cases ae:hi<m
    ·rw[decide_eq_true ae,if_neg (by omega)];rfl
    ·rw[decide_eq_false ae,if_pos (by omega)];rfl
   ·rw[hm] at E;exact⟨fun _=>V _ _ ⟨rfl,by rw[E];rfl⟩,fun h=>absurd (by omega:(4:Int)≠0) h⟩
theorem B7 {w:x5} {g gs:Nat} {A:av} {B:av} {lo hi:Int} (h:dH w g gs A B):O y0 ez [.pointer (some ⟨g,0,none⟩),.int .i64 lo,.int .i64 hi] w fun v w'=>Ext w w'∧v= .tuple #[.int .i64 0,.int .i64 0]:=by
 apply ez.enter;refine (B6 h).mono ?_;rintro _ J _ ⟨E,rfl⟩;rw[aC (v:=bx []) rfl,aC (v:=.int .i64 0) rfl];refine (lF (h.ext E)).mono ?_;rintro _ U _ ⟨rfl,I⟩;rw[b4,Y8,bm];exact⟨E.trans I,rfl⟩
theorem B8 {sv:x4} {l:List Int} {x:Int} {w:x5} (h:aG .i64 w sv l):O y0 oY [sv,.int .i64 x] w fun v w'=>Ext w w'∧ ∃ r:Int,v= .int .i64 r∧(0≤r↔x∈l):=by
 apply oY.enter;rw[aQ ae.u h];refine ba.range l.length (fun i _ J=>Ext w J∧x∉l.take i) h.le ⟨Ext.refl _,by simp⟩ ?_ ?_
 ·rintro i _ J k hi ⟨E,I⟩ V;rw[au,ag];refine⟨fun _=>?_,fun h=>by omega⟩;obtain⟨y,U⟩:∃ y,l[i]? =some y:=⟨_,x3 hi⟩;rw[bw ae.u af.i (by kernel_rfl) (h.ext E) U,bM,ag];refine⟨fun he=>⟨E,i,rfl,⟨fun _=>he▸u5 U,fun _=>by omega⟩⟩,fun he=>?_⟩;rw[aL];refine V _ _ ⟨E,fun hm=>?_⟩;rw[o4,U] at hm;rcases n9.1 hm with hm|hm
  ·exact I hm
  ·simp at hm;exact he hm
 ·rintro _ J k ⟨E,I⟩;rw[l5] at I;rw[au,ag];exact⟨fun h=>by omega,fun _=>⟨E,-1,rfl,⟨fun h=>by omega,fun h=>absurd h I⟩⟩⟩
theorem B9 {sv:x4} {l:List Int} {x:Int} {w:x5} (h:aG .i64 w sv l):O y0 oL [sv,.int .i64 x] w fun v w'=>v= .bool (decide (x∈l))∧Ext w w':=by
 apply oL.enter;refine (B8 h).mono ?_;rintro _ J _ ⟨E,r,rfl,I⟩;rw[cw];exact⟨by congr 1;rw[W5,decide_eq_true_eq,decide_eq_true_eq];exact I,E⟩
theorem ru:∀ {l:List Int},(∀ z∈l,1≤z)→ ∀ i,aH ((l.take i).map fun k=>min k 4097)≤aH (l.map fun k=>min k 4097)∧1≤aH ((l.take i).map fun k=>min k 4097)
 |[],_,i=>by simp[aH]
 |z::l,h,0=>by
  have E:=ru (l:=l) (fun x I=>h x (.tail _ I)) l.length;rw[l5] at E;have J:=h z (.head _);simp only[List.take_zero,List.map_nil,List.map_cons,aH];have:=Int.mul_le_mul_of_nonneg_left E.2 (show 0≤min z 4097 by omega);omega
 |z::l,h,i+1=>by
  have E:=ru (l:=l) (fun x I=>h x (.tail _ I)) i;have J:=h z (.head _);simp only[List.take_succ_cons,List.map_cons,aH];have h1:=Int.mul_le_mul_of_nonneg_left E.1 (show 0≤min z 4097 by omega);have O:=Int.mul_le_mul_of_nonneg_left E.2 (show 0≤min z 4097 by omega);exact⟨h1,by omega⟩
theorem wS (l:List Int) (x:Int):aH (l++[x])=aH l*x:=by
 induction l with
 |nil=>simp[aH]
 |cons a l E=>rw[List.cons_append,aH,E,aH,Int.mul_assoc]
theorem wT {sv:x4} {l:List Int} {w:x5} (h:aG .i64 w sv l) (h1:∀ z∈l,1≤z):O y0 mz [sv] w fun v w'=>v= .bool (cS l)∧Ext w w':=by
 apply mz.enter;rw[aQ ae.u h];refine jj.range l.length (fun i _ n I=>Ext w I∧n= .int .i64 (aH ((l.take i).map fun k=>min k 4097))∧aH ((l.take i).map fun k=>min k 4097)≤4096) h.le ⟨Ext.refl _,by simp[aH],by simp[aH]⟩ ?_ ?_
 ·rintro i _ _ I V hi ⟨E,rfl,J⟩ W;rw[au,ag];refine⟨fun _=>?_,fun h=>by omega⟩;obtain⟨z,U⟩:∃ z,l[i]? =some z:=⟨_,x3 hi⟩;have Y:=h1 z (u5 U);have Z:=ru h1 i;have aa:=ru h1 (i+1);have e:aH ((l.take (i+1)).map fun k=>min k 4097)=aH ((l.take i).map fun k=>min k 4097)*min z 4097:=by
   rw[o4,U,c8,j0,List.map_cons,List.map_nil,wS]
  rw[bw ae.u af.i (by kernel_rfl) (h.ext E) U,jA,fZ,←e];have ab:aH ((l.take (i+1)).map fun k=>min k 4097)≤4096*4097:=by
   rw[e];have ac:=Int.mul_le_mul_of_nonneg_right J (show 0≤min z 4097 by omega);have ad:=Int.mul_le_mul_of_nonneg_left (show min z 4097≤4097 by omega) (show (0:Int)≤4096 by omega);omega
  rw[wrap_i64 (by omega) (by omega),bT,ag];refine⟨fun X=>⟨?_,E⟩,fun X=>?_⟩
  ·unfold cS;rw[decide_eq_true];omega
  ·rw[aL];exact W _ _ _ ⟨E,rfl,by omega⟩
 ·rintro _ _ I V ⟨E,rfl,J⟩;rw[l5] at J;rw[au,ag];refine⟨fun h=>by omega,fun _=>⟨?_,E⟩⟩;unfold cS;rw[decide_eq_false];omega
def h9 (n:Int) (acc:List Int) (s:ay):Option (Int×ay):=match a8 0 (n-1) s with
 |none=>none
 |some (v,s)=>if v∈acc then none else some (v,s)
theorem nf {α:Type} {f:List α→ay→Option (α×ay)} {n:Nat} {acc:List α} {s:ay} (h:f acc s=none):ck f (n+1) acc s=none:=by
 simp only[ck,h]
theorem rv {α:Type} {f:List α→ay→Option (α×ay)} {n:Nat} {acc:List α} {s s':ay} {a:α} (h:f acc s=some (a,s')):ck f (n+1) acc s=ck f n (acc++[a]) s':=by
 simp only[ck,h]
theorem cI.pL {w:x5} {g gs:Nat} {A:av} {B:av} {s:ay} {clean:Bool} (h:cI w g gs A B s clean):(∀ r,bu g gs A r→r<w.heap.size)∧(∀ r,B r→r<w.heap.size):=⟨h.1.2.2.2.1,h.1.2.2.2.2⟩
set_option maxHeartbeats 1600000 in
theorem Ca {w:x5} {g gs k:Nat} {A B:av} {s:ay} {clean:Bool} {m:Int} (h:cI w g gs A B s clean) (bz:k≤4611686018427387904) (hm:0≤m∧m≤1000000):
  O y0 k5 [.pointer (some ⟨g,0,none⟩),.int .i64 (k:Int),.int .i64 m] w fun v w'=>eL w g gs A B clean ((ea m k s).map (·.2)) w'∧
   ∃ E l,aq .i64 af w' E v l∧(∀ r,leads v r→w.heap.size≤r)∧l.length≤100001∧ ∀ q,ea m k s=some q→l=q.1:=by
 obtain⟨aI,aX⟩:=h.pL;have aY:=h.2.1.words.1;apply k5.enter;refine⟨fun out az ah=>∃ i:Nat,az= .int .i64 (i:Int)∧i≤k∧am (bu g gs A) w ah∧ ∃ E l,aq .i64 af ah E out l∧w.heap.size≤E∧l.length≤100001∧
  ((∃ st,cI ah g gs A B st clean∧ck (h9 m) (k-i) l st=ea m k s∧l.length+st.toks.length≤100000)∨(dH ah g gs A B∧ea m k s=none)),fun _ az _=>k-(bQ az).toNat,
  ⟨0,rfl,Y1 _,am.refl _ _,w.heap.size,[],aq.nil _ _ _ _,o7 _,by simp,.inl ⟨s,h,rfl,by simpa using aY⟩⟩,?_⟩
 rintro out _ ah ⟨i,rfl,aZ,aJ,E,l,aK,bA,bB,aM⟩;have bC:=aJ.size;have aA:∀ r,leads out r→w.heap.size≤r:=fun r Y=>by have:=b1 aK Y;omega
 refine aV (fun v W=>Ext ah W∧((v= .bool true∧i<k∧ ∃ st,cI W g gs A B st clean∧ck (h9 m) (k-i) l st=ea m k s∧l.length+st.toks.length≤100000)∨
  (v= .bool false∧((∃ st,cI W g gs A B st clean∧ea m k s=some (l,st))∨(dH W g gs A B∧ea m k s=none))))) ?_ ?_
 rotate_left
 ·intro bD ak;rw[au,ag];refine⟨fun bE=>?_,fun bF=>?_⟩
  ·rcases aM with⟨st,Z,X,aB⟩|⟨ab,aD⟩
   ·refine (ne Z).mono ?_;rintro _ W _ ⟨rfl,aa⟩;exact ak _ _ ⟨aa,.inl ⟨rfl,by omega,st,Z.ext aa,X,aB⟩⟩
   ·refine (lF ab).mono ?_;rintro _ W _ ⟨rfl,aa⟩;exact ak _ _ ⟨aa,.inr ⟨rfl,.inr ⟨ab.ext aa,aD⟩⟩⟩
  ·have a1:k-i=0:=by omega
   rcases aM with⟨st,Z,X,aB⟩|a2
   ·rw[a1] at X;exact ak _ _ ⟨Ext.refl _,.inr ⟨rfl,.inl ⟨st,Z,X.symm⟩⟩⟩
   ·exact ak _ _ ⟨Ext.refl _,.inr ⟨rfl,.inr a2⟩⟩
 rintro _ W ⟨aa,a6⟩;have aE:am (bu g gs A) w W:=aJ.trans (aa.ad _);have al:=aK.ext aa;rcases a6 with⟨rfl,aZ,st,Z,X,aB⟩|⟨rfl,a7⟩
 rotate_left
 ·rw[aU];rcases a7 with⟨st,Z,ai⟩|⟨ab,ai⟩
  ·rw[ai];exact⟨⟨aE,Z⟩,E,l,al,aA,by omega,fun q J=>by cases J;rfl⟩
  ·rw[ai];exact⟨⟨aE,ab⟩,E,l,al,aA,by omega,fun q J=>by cases J⟩
 rw[bm,dw,wrap_i64 (by omega) (by omega)];have ba:k-i=(k-(i+1))+1:=by omega
 rw[ba] at X;refine (tn Z).mono ?_;rintro _ ao _ ⟨⟨ap,aw⟩,n,at_,rfl,bb,bG⟩;rw[aC (v:=.int .i64 n) rfl,aC (v:=.int .i64 at_) rfl];have aN:∀ r,leads out r→¬bu g gs A r:=fun r Y bc=>by have:=aI r bc;have:=aA r Y;omega
 have bH:∀ r,g=r→bu g gs A r:=fun r h=>.inl h.symm;refine dG (fun I=>am (bu g gs A) W I∧((∃ V,cI I g gs A B V clean∧ck (h9 m) (k-(i+1)) (l++[n]) V=ea m k s∧l.length+1+V.toks.length≤100000)∨(dH I g gs A B∧ea m k s=none))∧l.length+1≤100001) ?_ ?_
 ·rintro I ⟨aO,bd,aP⟩;have be:=br al aO aN;have aQ:=aE.trans aO;have bI:=aQ.size;refine dT ae.u af.i rfl fun a bJ aR bK ac bf=>?_;refine gW ae.u af.i rfl (be.ext ac) bf.ls (by simp;omega) (by simp;omega) fun bg bh bi bL bj aF=>?_;have bM:=ac.size;rw[aL,wrap_i64 (by omega) (by omega)];have bk:am (bu g gs A) w bi:=fD (aQ.trans (ac.ad _)) aF fun r Y he=>by have he:r=E:=he;omega
  have aS:∀ r,bu g gs A r→¬(fun r=>r=E) r:=fun r Y he=>by have:=aI r Y;have he:r=E:=he;omega
  have aT:∀ r,ce g gs A B r→¬(fun r=>r=E) r:=fun r Y he=>by have:=aX r Y.2;have he:r=E:=he;omega
  refine⟨⟨i+1,rfl,by omega,bk,bh,l++[n],bj,by omega,by simp;omega,?_⟩,by simp only[bQ];omega⟩;rcases bd with⟨V,ax,bl,bN⟩|⟨bn,aD⟩
  ·exact .inl ⟨V,(ax.ext ac).ad aF aS aT,bl,by simp;omega⟩
  ·exact .inr ⟨(bn.ext ac).ad aF aS aT,aD⟩
 ·intro bO aG;cases J:a8 0 (m-1) st with
  |none=>
   rw[J] at aw;have ab:dH ao g gs A B:=aw;have aj:h9 m l st=none:=by unfold h9;rw[J]
   have ai:ea m k s=none:=by rw[←X];exact nf aj
   refine aV (fun v I=>Ext ao I∧v= .bool false) ?_ ?_
   rotate_left
   ·intro fk aH;refine (lF ab).mono ?_;rintro _ I _ ⟨rfl,U⟩;rw[aU];exact aH _ _ ⟨U,rfl⟩
   rintro _ I ⟨U,rfl⟩;rw[aU];exact aG _ ⟨ap.trans (U.ad _),.inr ⟨ab.ext U,ai⟩,by omega⟩
  |some q=>
   obtain⟨bg,V⟩:=q;have bo:=bb _ J;subst bo;rw[J] at aw;have aW:cI ao g gs A B V clean:=aw;have bp:=c0 J;have aP:l.length+1+V.toks.length≤100000:=by have:=bp.1;omega
   refine aV (fun v I=>Ext ao I∧v= .bool (decide (n∈l))) ?_ ?_
   rotate_left
   ·intro fk aH;refine (ne aW).mono ?_;rintro _ I _ ⟨rfl,U⟩;rw[bm];refine (B9 ((br al ap aN).ext U).ls).mono ?_;rintro _ aR _ ⟨rfl,ac⟩;exact aH _ _ ⟨U.trans ac,rfl⟩
   rintro _ I ⟨U,rfl⟩;have ax:=aW.ext U;rw[ag];refine⟨fun bq=>?_,fun bt=>?_⟩
   ·have aj:h9 m l st=none:=by unfold h9;rw[J];simp only;rw[if_pos bq]
    refine (rr ax (by omega)).mono ?_;rintro _ aR _ ⟨bw,bx⟩;exact aG _ ⟨(ap.trans (U.ad _)).trans (bw.mono fun r _ h=>.inl h),.inr ⟨bx,by rw[←X];exact nf aj⟩,by omega⟩
   ·have aj:h9 m l st=some (n,V):=by unfold h9;rw[J];simp only;rw[if_neg bt]
    exact aG _ ⟨ap.trans (U.ad _),.inl ⟨V,ax,by rw[←X];exact (rv aj).symm,aP⟩,by omega⟩
theorem Cb {a b k:Int} {w:x5} (E:0≤a∧a≤4294967296) (I:0≤b∧b≤4294967296):O y0 oa [.int .i64 a,.int .i64 b,.int .i64 k] w fun v w'=>v= .int .i64 (min (a+b) k)∧Ext w w':=by
 apply oa.enter;simp only[aL,bT,ag];rw[wrap_i64 (by omega) (by omega)];exact⟨fun h=>⟨by rw[Int.min_eq_right (by omega)],Ext.refl _⟩,fun h=>⟨by rw[Int.min_eq_left (by omega)],Ext.refl _⟩⟩
def pM (a b k:Int):x4:=if cF a k∧cF b k then .tuple #[.int .i64 (min (a+b) k),.int .i64 0] else .tuple #[.int .i64 0,.int .i64 3]
theorem wU {a b k:Int} {w:x5}:O y0 jt [.int .i64 a,.int .i64 b,.int .i64 k] w fun v w'=>v=pM a b k∧Ext w w':=by
 apply jt.enter;refine aV (fun v E=>Ext w E∧v= .bool (decide (¬(cF a k∧cF b k)))) ?_ ?_
 ·rintro _ E ⟨I,rfl⟩;simp only[ag,aL,jA];refine⟨fun h=>⟨by unfold pM;rw[if_neg h],I⟩,fun h=>?_⟩;have h:=X4.1 h;obtain⟨⟨h1,X⟩,Y,Z⟩:=id h;have:=h1.2;rw[wrap_i64 (by omega) (by omega)];exact⟨by unfold pM;rw[if_pos h],I⟩
 ·intro aa J;refine lx.mono ?_;rintro _ ab _ ⟨rfl,U⟩;simp only[b4,cv];refine⟨fun h=>J _ _ ⟨U,?_⟩,fun h=>?_⟩
  ·have:¬cF a k:=by simpa using h
   rw[decide_eq_true];exact fun h=>this h.1
  ·have V:cF a k:=by simpa using h
   refine lx.mono ?_;rintro _ ac _ ⟨rfl,W⟩;simp only[b4];exact J _ _ ⟨U.trans W,by simp[V]⟩
theorem Cc {sv:x4} {l:List Int} {w:x5} (h:aG .i64 w sv l) (U:l≠[]):
  O y0 pa [sv] w fun v w'=>v= .int .i64 (tf l)∧Ext w w':=by
 obtain⟨x,l,rfl⟩:∃ x r,l=x::r:=by cases l with
  |nil=>exact absurd rfl U
  |cons x r=>exact⟨x,r,rfl⟩
 have V:=h.le;apply pa.enter;refine dG (fun W=>w=W) ?_ ?_
 ·rintro _ rfl;rw[eV (y:=0) (i:=0) rfl ae.u af.i (by kernel_rfl) h (by rfl)];refine⟨fun m i I=>Ext w I∧ ∃ k:Nat,i= .int .i64 (k+1:Nat)∧k≤l.length∧m= .int .i64 ((l.take k).foldl min x),fun _ i _=>l.length+1-(bQ i).toNat,⟨Ext.refl _,0,rfl,Y1 _,rfl⟩,?_⟩;rintro _ _ I ⟨E,k,rfl,Y,rfl⟩;rw[aQ ae.u (h.ext E)];simp only[j9,au,ag] at V ⊢;refine⟨fun Z=>?_,fun aa=>⟨?_,E⟩⟩
  ·obtain⟨y,J⟩:∃ y,l[k]? =some y:=⟨_,x3 (by omega)⟩;rw[bw ae.u af.i (by kernel_rfl) (h.ext E) (show (x::l)[k+1]? =some y from J),jA];simp only[aL];rw[wrap_i64 (by omega) (by omega)];refine⟨⟨E,k+1,by congr 1,by omega,?_⟩,?_⟩
   ·rw[o4,J,List.foldl_append];rfl
   ·simp only[bQ];omega
  ·have:k=l.length:=by omega
   subst this;rw[l5];rfl
 ·intro ab X;rw[aQ ae.u h];simp only[au,ag];exact⟨fun h=>by simp at h;omega,fun _=>X _ rfl⟩
theorem wV {w:x5} {g E:Nat} {sv:x4} {ao:List Int} {k:Int} {cs:List Int} (h:cG w g E sv ao k cs):O y0 hS [.pointer (some ⟨g,0,none⟩)] w fun v w'=>v= .int .i64 k∧Ext w w':=by
 obtain⟨⟨aO,gs,I,hm,J⟩,_⟩:=h;apply hS.enter;rw[b8 bB.u];simp only[c9,aU];rw[az,ah bq.p rfl,al (by kernel_rfl) (I.cell (o:=0+1) rfl)];exact⟨rfl,Ext.refl _⟩
theorem kF {w:x5} {g I:Nat} {sv:x4} {ao:List Int} {k:Int} {cs:List Int} (h:cG w g I sv ao k cs):
  O y0 hj [.pointer (some ⟨g,0,none⟩)] w fun v w'=>Ext w w'∧ ∃ E,w.heap.size≤E∧aq .i64 af w' E v cs:=by
 obtain⟨⟨aO,gs,J,hm,U⟩,⟨_,_,V⟩,W,X⟩:=h;apply hj.enter;rw[b8 bB.u];simp only[c9,aU];rw[az,ah bq.p rfl,al (by kernel_rfl) (J.cell (o:=0+2) rfl)];exact sW U.ls (by omega)
theorem ng {w:x5} {g J:Nat} {sv:x4} {ao:List Int} {k:Int} {cs:List Int} (h:cG w g J sv ao k cs):
  O y0 hT [.pointer (some ⟨g,0,none⟩)] w fun v w'=>v= .agg #[sv]∧Ext w w':=by
 obtain⟨⟨aO,gs,U,hm,Z⟩,_⟩:=h;have V:=hm.ls.cells;apply hT.enter;refine bU aK.i fun aa ab ac I W=>?_;rw[b8 bB.u];simp only[c9,aU];rw[az,ah bq.p rfl,bN (cs:=[sv]) aK.p aK.i rfl (lz (U.ext I) (by
  intro j v E
  match j,E with
  |0,E=>exact E))]
 refine b9 (vs:=[sv]) aK.i rfl rfl (by intro u hu;simp at hu;subst hu;exact V.2) W fun ad X ae Y=>?_;rw[eB aK.p aK.i rfl Y.range];exact⟨rfl,I.then X (by rintro r af rfl;omega)⟩
theorem wW {w:x5} {sv:x4} {ao:List Int} (h:aG .i64 w sv ao) (W:ao.length≤1000):O y0 jv [.agg #[sv]] w fun v w'=>Ext w w'∧ ∃ E,w.heap.size≤E∧aq .i64 J w' E v ao:=by
 apply jv.enter;refine cc fun g X Y I U=>?_;rw[ah aK.p rfl,al (by kernel_rfl) (U.cell (o:=0+0) rfl)];refine (jE (h.ext I) (by omega)).mono ?_;rintro v Z _ ⟨V,E,aa,hm⟩;have ab:=I.size;exact⟨I.trans V,E,by omega,hm⟩
theorem wX {w:x5} {sv:x4} {ao:List Int} (h:aG .i64 w sv ao):O y0 mO [.agg #[sv]] w fun v w'=>v= .int .i64 ao.length∧Ext w w':=by
 apply mO.enter;refine cc fun g J U E I=>?_;rw[ah aK.p rfl,al (by kernel_rfl) (I.cell (o:=0+0) rfl),aQ ab.u (h.ext E)];exact⟨rfl,E⟩
def fQ (ao:List Int) (i:Int):Int:=if 0≤i then ao.getD i.toNat 0 else 0
theorem pN {w:x5} {sv:x4} {ao:List Int} {i:Int} (h:aG .i64 w sv ao):O y0 jy [.agg #[sv],.int .i64 i] w fun v w'=>v= .int .i64 (fQ ao i)∧Ext w w':=by
 apply jy.enter;refine cc fun g W Z E I=>?_;refine aV (fun v X=>v= .bool (decide (i<0∨(ao.length:Int)≤i))∧W=X) ?_ ?_
 ·rintro _ _ ⟨rfl,rfl⟩;simp only[ag];refine⟨fun h=>⟨?_,E⟩,fun Y=>?_⟩
  ·unfold fQ;split
   ·rw[p8,Z7 (by omega)];rfl
   ·rfl
  ·rw[ah aK.p rfl,al (by kernel_rfl) (I.cell (o:=0+0) rfl)];obtain⟨n,rfl⟩:∃ n:Nat,i=n:=⟨i.toNat,by omega⟩;have U:n<ao.length:=by omega
   rw[bw ab.u J.i (by kernel_rfl) (h.ext E) (x3 U)];refine⟨?_,E⟩;unfold fQ;rw[if_pos (by omega),p8,c7,x3 U];rfl
 ·intro aa V;simp only[au,ag];refine⟨fun h=>V _ _ ⟨by rw[decide_eq_true];omega,rfl⟩,fun Y=>?_⟩;rw[ah aK.p rfl,al (by kernel_rfl) (I.cell (o:=0+0) rfl),aQ ab.u (h.ext E)];simp only[cw];exact V _ _ ⟨by congr 1;simp;omega,rfl⟩
theorem tp {g B0:Nat} {sv:x4} {ao:List Int} (W:bV ao):
  nL y0 gr [.pointer (some ⟨g,0,none⟩)] (aH ao).toNat (fun k vs w=>∃ I O,vs=[.int .i64 (k:Int),I]∧B0≤O∧aq .i64 J w O I (ct ao k))
   (fun w=>ak w g aK [sv]∧aG .i64 w sv ao∧B0≤w.heap.size):=by
 refine⟨gr.enters,fun l ae aD w aa _ af ⟨ab,ac,ah⟩ ai=>?_⟩;have aE:=prod_bound W;apply gr.enter;rw[bN aK.p aK.i rfl ab.range];refine (mY ac W).free.mono ?_;rintro _ aF ⟨aj,rfl,U⟩;refine bd.range (aH ao).toNat (fun i E=>ae i E∧ak E g aK [sv]∧aG .i64 E sv ao∧B0≤E.heap.size) (by omega) ⟨aa 0 _ _ U aj.b ai,ab.ext U,ac.ext U,Y5 ah U.size⟩ ?_ ?_
 ·rintro i E k hi ⟨X,Y,Z,ad⟩ al;simp only[au,ag];refine⟨fun _=>?_,fun h=>by omega⟩;rw[bN aK.p aK.i rfl Y.range];refine (A2 Z W (by omega) (by omega)).free.mono ?_;rintro _ am ⟨ap,V,I,O,rfl,av,aw⟩;rw[aC (v:=I) rfl,aC (v:=.int .i64 0) rfl];refine⟨rfl,(af i _ am hi ⟨Y.ext V,Z.ext V,Y5 ad V.size⟩ ⟨I,O,rfl,Y5 ad av,aw⟩ (aa _ _ _ V ap.b X)).mono ?_⟩;rintro _ aI (⟨rfl,⟨ax,ay,az⟩,aA⟩|⟨rfl,aB⟩)
  ·simp only[b4,Y7,aU,aL];exact al _ ⟨aA.1,ax,ay,az⟩
  ·simp only[b4,Y8,bm];exact .inr ⟨i,hi,aB⟩
 ·rintro E k ⟨X,Y,Z,_⟩;simp only[au,ag];exact⟨fun h=>by omega,fun _=>.inl X⟩
theorem tq {sv:x4} {w:x5}:O y0 ke [.agg #[sv]] w fun r w'=>Ext w w'∧ ∃ g,r= .func (.func gr) #[] #[.pointer (some ⟨g,0,none⟩)]∧w.heap.size≤g∧ak w' g aK [sv]:=by
 apply ke.enter;refine cc fun g J U E I=>?_;rw[pq];exact⟨E,g,rfl,by omega,I⟩
end Go.Proofs.YtgbkinibgjmodaaGreatDoor
namespace Go.Vc
open Go Go.RowKit
set_option maxRecDepth 100000
section
variable {P:X5} {w:x5}
theorem aa.da {α:Type} {s:Sem α} {K:α→x5→Prop} (h:aa P s w fun v w'=>cO w w'→K v w'):aa P s w K:=by
 obtain⟨v,w',h1,E,I⟩:=h;exact⟨v,w',h1,E,I E⟩
structure Keys (P:X5) (k:o6) (G:x4→Prop):Prop where
 check:∀ (w:x5) (em:Bool) {v:x4},G v→(Instr.checkKey em 10000 k v).run P w= .ok () w
 find:∀ (w:x5) {x:x4},G x→ ∀ es:List MapEntry,(∀ e∈es,G e.key)→
  ((Instr.findKey k x es).run P w= .ok none w∧ ∀ e∈es,e.key≠x)∨ ∃ j e,(Instr.findKey k x es).run P w= .ok (some (j,e.val)) w∧es[j]? =some e∧e.key=x
 stays:∀ (w:x5) {v:x4},G v→(Instr.keyThatStays v v).run P w= .ok v w
theorem Keys.law {k:o6} (K:WideMaps.KeyLaw P k):Keys P k fun v=>∃ l,keyOf P k v=some l:=
 ⟨fun w E _ ⟨_,h⟩=>K.check w E h,fun w _ ⟨_,h⟩ I J=>K.find w h I J,fun w _ ⟨_,h⟩=>K.stays w h⟩
theorem Keys.int {k:o6} {E:o8} (I:P.underlying k=some (.int E)):Keys P k fun v=>∃ n,v= .int E n:=by
 have key:∀ n,MapKept.IsKey (.int E) (.int E n):=fun n=>rfl;refine⟨fun w O v ⟨n,h⟩=>?_,fun w x ⟨n,h⟩ U V=>?_,fun w v ⟨n,h⟩=>?_⟩
 ·subst h;exact MapKept.run_checkKey I (key n) O 9999
 ·subst h;rcases MapKept.findNow_spec (key n) U 0 (fun e he=>by obtain⟨m,h⟩:=V e he;rw[h];exact key m) with⟨h1,J⟩|⟨j,e,h1,J,W⟩
  ·exact .inl ⟨MapKept.run_findKey I h1,J⟩
  ·exact .inr ⟨j,e,by have:=MapKept.run_findKey (P:=P) (w:=w) I h1;simpa using this,J,W⟩
 ·subst h;exact MapKept.run_keyThatStays (d:=.int E) (key n)
def e9 (e:MapEntry):x4×x4:=(e.key,e.val)
def cu (w:x5) (m:Nat) (d:List (x4×x4)):Prop:=∃ E I,w.heap[m]? =some (.map E I)∧MapKept.Stamped E I∧E.toList.map e9=d
theorem cu.ext {w':x5} {m:Nat} {d:List (x4×x4)} (h:cu w m d) (E:Ext w w'):cu w' m d:=by
 obtain⟨I,c,h1,J⟩:=h;exact⟨I,c,E.bz m _ h1 rfl,J⟩
theorem cu.ad {S:Nat→Prop} {w':x5} {m:Nat} {d:List (x4×x4)} (h:cu w m d) (E:am S w w') (I:¬S m):cu w' m d:=by
 obtain⟨J,c,h1,O⟩:=h;exact⟨J,c,E.bz m _ h1 rfl I,O⟩
theorem cu.lt {m:Nat} {d:List (x4×x4)} (h:cu w m d):m<w.heap.size:=by
 obtain⟨E,c,h1,I⟩:=h;exact (l6.1 h1).1
theorem cu.nodup {m:Nat} {d:List (x4×x4)} (h:cu w m d):(d.map (·.1)).Nodup:=by
 obtain⟨I,c,_,⟨_,_,E⟩,rfl⟩:=h;rw[List.map_map];exact E
theorem ia {α:Type} {l:List α} (h:l.Nodup) {i j:Nat} {x:α} (hi:l[i]? =some x) (U:l[j]? =some x):i=j:=by
 have E:=u4.1 hi;have I:=u4.1 U;have O:=W8.1 h;rcases Nat.lt_trichotomy i j with J|rfl|J
 ·exact absurd (E.2.trans I.2.symm) (O i j E.1 I.1 J)
 ·rfl
 ·exact absurd (I.2.trans E.2.symm) (O j i I.1 E.1 J)
theorem kG {α β:Type} (f:α→β):∀ (l:List α) (i:Nat),(l.map f).eraseIdx i=(l.eraseIdx i).map f
 |[],_=>by simp
 |_::_,0=>rfl
 |x::l,i+1=>by simp[kG f l i]
theorem cu.uniq {m:Nat} {d:List (x4×x4)} (h:cu w m d) {i j:Nat} {p q:x4×x4} (hi:d[i]? =some p) (E:d[j]? =some q) (he:p.1=q.1):i=j:=by
 have I:=h.nodup;have h1:(d.map (·.1))[i]? =some p.1:=by rw[r9,hi];rfl
 have J:(d.map (·.1))[j]? =some p.1:=by rw[r9,E,he];rfl
 exact ia I h1 J
theorem rx {m:Nat} {X:Array MapEntry} {c:Nat} (U:w.heap[m]? =some (.map X c)) (E:Array MapEntry) (I:Nat):
  am (fun r=>r=m) w {w with heap:=w.heap.setIfInBounds m (.map E I)}∧cO w {w with heap:=w.heap.setIfInBounds m (.map E I)}∧({w with heap:=w.heap.setIfInBounds m (.map E I)}:x5).heap[m]? =some (.map E I):=by
 have O:=MapKept.heap_set (o':=.map E I) U;refine⟨⟨by simp,fun r o J V Y=>?_⟩,⟨rfl,.ir,rfl,by simp,fun r o J V=>?_⟩,O.1⟩
 ·show (w.heap.setIfInBounds m _)[r]? =some o;rw[O.2 r Y];exact J
 ·show (w.heap.setIfInBounds m _)[r]? =some o;by_cases W:r=m
  ·subst W;rw[U] at J;cases J;cases V
  ·rw[O.2 r W];exact J
theorem ry {t:o6} {K:x4→x5→Prop} (h:∀ m w',m=w.heap.size→Ext w w'→cu w' m []→K (.map (some m)) w'):aa P (Instr.makeMap t none) w K:=by
 refine .of (run_makeMap t w) (ma w _) (h _ _ rfl (l8 w _) ⟨#[],0,?_,MapKept.stamped_empty 0,rfl⟩);exact heap_alloc_new w _
variable {k e:o6} {G:x4→Prop}
theorem pO {t:o6} {c:Bool} {m:Nat} {d:List (x4×x4)} {x v:x4} {K:x4→Prop} (Y:P.underlying t=some (.map k e)) (U:Keys P k G) (hm:cu w m d) (Z:∀ p∈d,G p.1) (V:G x) {j:Nat} (E:d[j]? =some (x,v)):
  I P (V3 t (.map (some m)) x c) w K=K (if c then .tuple #[v,.bool true] else v):=I.of fun w' aa=>by
 obtain⟨J,ab,W,ac,rfl⟩:=hm.ext aa;have ad:∀ e∈J.toList,G e.key:=fun e he=>Z (e9 e) (l9.2 ⟨e,he,rfl⟩);rcases U.find w' V J.toList ad with⟨_,O⟩|⟨i,X,h1,O,ae⟩
 ·rw[r9] at E;obtain⟨af,ag,ah⟩:=Z6.1 E;exact absurd (congrArg Prod.fst ah) (O af (u5 ag))
 ·have ai:X.val=v:=by
   have hi:(J.toList.map e9)[i]? =some (e9 X):=by rw[r9,O];rfl
   have aj:cu w' m (J.toList.map e9):=⟨J,ab,W,ac,rfl⟩;have:=aj.uniq hi E ae;subst this;rw[hi] at E;exact congrArg Prod.snd (Z2 E)
  simp only[V3,Y4,run_underlying Y,Y6,MapKept.run_getObj_map W,X0,U.check w' _ V,h1,ai]
theorem rz {t:o6} {c:Bool} {m:Nat} {d:List (x4×x4)} {x z:x4} {K:x4→Prop} (X:P.underlying t=some (.map k e)) (J:Keys P k G) (E:∃ s b,aJ P e s b z) (hm:cu w m d) (Y:∀ p∈d,G p.1) (O:G x) (Z:∀ p∈d,p.1≠x):
  I P (V3 t (.map (some m)) x c) w K=K (if c then .tuple #[z,.bool false] else z):=I.of fun w' aa=>by
 obtain⟨U,af,ab,ag,rfl⟩:=hm.ext aa;have ac:∀ e∈U.toList,G e.key:=fun e he=>Y (e9 e) (l9.2 ⟨e,he,rfl⟩);have ad:(zeroValue e).run P w'= .ok z w':=by
  obtain⟨s,b,i,hi,_,_,E⟩:=E;simp[zeroValue,typeInfo,hi,E]
 rcases J.find w' O U.toList ac with⟨h1,V⟩|⟨i,W,h1,V,ae⟩
 ·simp only[V3,Y4,run_underlying X,Y6,MapKept.run_getObj_map ab,X0,J.check w' _ O,h1,ad]
 ·exact absurd ae (Z (e9 W) (l9.2 ⟨W,u5 V,rfl⟩))
theorem Cd {E:Array MapEntry} {j:Nat} {I:MapEntry} {f:MapEntry→MapEntry} (h:E[j]? =some I):(E.modify j f).toList.map e9=(E.toList.map e9).set j (e9 (f I)):=by
 refine W0 fun i=>?_;simp only[r9,U8,Array.getElem?_modify,X8,o3,Array.length_toList];by_cases J:j=i
 ·subst J;have:=(l6.1 h);simp[this.1,this.2]
 ·simp[J]
theorem pP {t:o6} {m:Nat} {d:List (x4×x4)} {x v:x4} {K:Unit→x5→Prop} (ab:P.underlying t=some (.map k e)) (J:Keys P k G) (hm:cu w m d) (ag:∀ p∈d,G p.1) (O:G x)
  (h1:∀ j v0 w',d[j]? =some (x,v0)→cu w' m (d.set j (x,v))→am (fun r=>r=m) w w'→K () w')
  (ah:∀ w',(∀ p∈d,p.1≠x)→cu w' m (d++[(x,v)])→am (fun r=>r=m) w w'→K () w'):aa P (Instr.mapUpdate t (.map (some m)) x v) w K:=by
 obtain⟨I,U,E,ac,rfl⟩:=hm;have ai:∀ e∈I.toList,G e.key:=fun e he=>ag (e9 e) (l9.2 ⟨e,he,rfl⟩);rcases J.find w O I.toList ai with⟨V,ad⟩|⟨i,ae,V,hi,he⟩
 ·obtain⟨W,X,Y⟩:=rx E (I.push {key:=x,val:=v,born:=U}) (U+1);refine .of (v:=()) (w':=_) ?_ X (ah _ (fun p aj=>?_) ⟨_,_,Y,MapKept.stamped_push ac ad,by simp[e9]⟩ W)
  ·simp only[Instr.mapUpdate,Y4,run_underlying ab,Y6,MapKept.run_getObj_map E,J.check w _ O,V,MapKept.run_setObj_map _ E]
  ·obtain⟨ak,al,rfl⟩:=l9.1 aj;exact ad ak al
 ·have Z:I[i]? =some ae:=by simpa using hi
  obtain⟨W,X,Y⟩:=rx E (I.modify i fun e=>{e with key:=x,val:=v}) U;refine .of (v:=()) (w':=_) ?_ X (h1 i ae.val _ (by rw[r9,hi];simp[e9,he]) ⟨_,_,Y,MapKept.stamped_modify ac _ _ (fun _ _=>rfl) (fun ao _ af=>by rw[Z] at af;cases af;exact he.symm),Cd Z⟩ W);simp only[Instr.mapUpdate,Y4,run_underlying ab,Y6,MapKept.run_getObj_map E,J.check w _ O,V,Z,Z0,T4,he,J.stays w O,MapKept.run_setObj_map _ E]
theorem Ce {t ac ad:o6} {m:Nat} {d:List (x4×x4)} {x:x4} {K:x4→x5→Prop} (Y:P.underlying t=some (.map k e)) (J:Keys P k G) (hm:cu w m d) (ae:∀ p∈d,G p.1) (O:G x)
  (h1:∀ j v0 w',d[j]? =some (x,v0)→cu w' m (d.eraseIdx j)→am (fun r=>r=m) w w'→K (.tuple #[]) w')
  (af:∀ w',(∀ p∈d,p.1≠x)→cu w' m d→am (fun r=>r=m) w w'→K (.tuple #[]) w'):aa P (u7.delete_ #[t,ac] ad #[.map (some m),x]) w K:=by
 obtain⟨I,Z,E,ab,rfl⟩:=hm;have ag:∀ e∈I.toList,G e.key:=fun e he=>ae (e9 e) (l9.2 ⟨e,he,rfl⟩);rcases J.find w O I.toList ag with⟨U,ah⟩|⟨i,ai,U,hi,he⟩
 ·obtain⟨V,W,X⟩:=rx E I Z;refine .of (v:=.tuple #[]) (w':=_) ?_ W (af _ (fun p aj=>?_) ⟨_,_,X,ab,rfl⟩ V)
  ·simp only[u7.delete_,List.getElem?_toArray,List.getElem?_cons_zero,List.getElem?_cons_succ,Y4,run_underlying Y,Y6,MapKept.run_getObj_map E,J.check w _ O,U,MapKept.run_setObj_map _ E,X0]
  ·obtain⟨ak,al,rfl⟩:=l9.1 aj;exact ah ak al
 ·obtain⟨V,W,X⟩:=rx E (I.eraseIdxIfInBounds i) Z;refine .of (v:=.tuple #[]) (w':=_) ?_ W (h1 i ai.val _ (by rw[r9,hi];simp[e9,he]) ⟨_,_,X,MapKept.stamped_erase ab _,by rw[kG];simp⟩ V);simp only[u7.delete_,List.getElem?_toArray,List.getElem?_cons_zero,List.getElem?_cons_succ,Y4,run_underlying Y,Y6,MapKept.run_getObj_map E,J.check w _ O,U,MapKept.run_setObj_map _ E,X0]
theorem Cf {t E:o6} {m:Nat} {d:List (x4×x4)} {K:x4→Prop} (J:P.underlying t=some (.map k e)) (hm:cu w m d):I P (u6 #[t] E #[.map (some m)]) w K=K (.int .i64 d.length):=I.of fun w' O=>by
 obtain⟨V,W,U,X,rfl⟩:=hm.ext O;simp[u6,run_underlying J,MapKept.run_getObj_map U,goInt]
def fG (w:x5) (U m:Nat) (d left:List (x4×x4)) (V:Option (x4×x4)):Prop:=∃ E I seen J,w.heap[m]? =some (.map E I)∧MapKept.Stamped E I∧E.toList.map e9=d∧
 w.heap[U]? =some (.mapIter (some m) I seen J)∧I≤J∧(leftOf E seen).toList.map e9=left∧ ∀ p,V=some p→J=I∧ ∃ O,E.toList.find? (fun e=>e.born == seen.back?.getD 0)=some O∧seen.back? =some O.born∧e9 O=p
theorem fG.map {E m:Nat} {d left:List (x4×x4)} {I:Option (x4×x4)} (h:fG w E m d left I):cu w m d:=by
 obtain⟨J,c,_,_,h1,O,U,_⟩:=h;exact⟨J,c,h1,O,U⟩
theorem fG.bz {w':x5} {E m:Nat} {d left:List (x4×x4)} {I:Option (x4×x4)} (h:fG w E m d left I) {S:Nat→Prop} (J:am S w w') (hm:¬S m) (hi:eJ w w'):fG w' E m d left I:=by
 obtain⟨O,c,s,U,h1,V,W,X,Y⟩:=h;exact⟨O,c,s,U,J.bz m _ h1 rfl hm,V,W,hi E _ X rfl,Y⟩
theorem fG.ext {w':x5} {E m:Nat} {d left:List (x4×x4)} {I:Option (x4×x4)} (h:fG w E m d left I) (J:Ext w w') (hi:eJ w w'):fG w' E m d left I:=
 h.bz (J.ad fun _=>False) (fun h=>h) hi
theorem Cg (E:Array MapEntry):leftOf E #[]=E:=by
 unfold leftOf;exact Array.filter_eq_self.2 fun x I=>by simp
theorem wY {t:o6} {m:Nat} {d:List (x4×x4)} {K:x4→x5→Prop} (U:P.underlying t=some (.map k e)) (hm:cu w m d)
  (h:∀ E w',E=w.heap.size→Ext w w'→eJ w w'→fG w' E m d d none→K (.pointer (some ⟨E,0,none⟩)) w'):aa P (Instr.range t (.map (some m))) w K:=by
 obtain⟨J,I,O,V,rfl⟩:=hm;refine .of (run_range_map w t k e m J I U O) (ma w _) (h _ _ rfl (l8 w _) (ma w _).kS ⟨J,I,#[],I,(l8 w _).bz m _ O rfl,V,rfl,heap_alloc_new w _,o7 _,by rw[Cg],fun p W=>by cases W⟩)
theorem wZ:∀ (l:List MapEntry) (j:Nat) (E:MapEntry),(l.map (·.born)).Nodup→l[j]? =some E→l.filter (fun x=>!(x.born == E.born))=l.eraseIdx j
 |[],j,E,_,h=>by simp at h
 |x::l,0,E,J,h=>by
  simp at h;subst h;have I:=List.nodup_cons.1 (by simpa using J:(x.born::l.map (·.born)).Nodup);simp only[List.filter_cons,beq_self_eq_true,Y7,Bool.false_eq_true,if_false,List.eraseIdx_cons_zero];refine List.filter_eq_self.2 fun y O=>?_;have:y.born≠x.born:=fun he=>I.1 (he▸l9.2 ⟨y,O,rfl⟩);simpa using this
 |x::l,j+1,E,J,h=>by
  simp at h;have I:=List.nodup_cons.1 (by simpa using J:(x.born::l.map (·.born)).Nodup);have U:x.born≠E.born:=fun he=>I.1 (he▸l9.2 ⟨E,u5 h,rfl⟩);have V:=wZ l j E I.2 h;simp only[List.filter_cons,List.eraseIdx_cons_succ,V];simp[U]
theorem w1 {free:ew} {E m:Nat} {d left:List (x4×x4)} {ak:Option (x4×x4)} {K:x4→x5→Prop} (h:fG w E m d left ak) (X:free.1=false→free.2≤E)
  (al:left=[]→K (.tuple #[.bool false]) w)
  (h1:∀ j p w',left[j]? =some p→Ext w w'→cm E w w'→fG w' E m d (left.eraseIdx j) (some p)→K (.tuple #[.bool true,p.1,p.2]) w'):nC P free (Instr.next (.pointer (some ⟨E,0,none⟩)) false 0) w K:=by
 obtain⟨J,O,seen,am,Y,aa,rfl,hi,ao,rfl,_⟩:=h;have ae:∀ x∈J.toList,x.born<O:=aa.1;have af:=aa.2.1;have ag:∀ x∈(leftOf J seen).toList,x.born<O:=fun x V=>ae x (mem_left V).1;have ap:∀ (W:x5) (o':Obj),W.heap=w.heap→(setObj E o').run P W= .ok () {W with heap:=W.heap.setIfInBounds E o'}:=fun W o' he=>by
  simp only[setObj,Sem.run];rw[he,hi]
 unfold nC;simp only[Instr.next,getObj,Y4,Sem.run,hi,Y,Y6,next_test_false seen J O am ae ao,Bool.false_eq_true,if_false];have aq:Array.filter (fun e=>!seen.contains e.born) J=leftOf J seen:=rfl;rw[aq];have au:((leftOf J seen).toList.map (·.born)).Nodup:=by
  unfold leftOf;rw[Array.toList_filter];exact (List.Sublist.map _ List.filter_sublist).nodup af
 have av:∀ Z:MapEntry,leftOf J (seen.push Z.born)=(leftOf J seen).filter fun x=>!(x.born == Z.born):=fun Z=>by
  unfold leftOf;rw[Array.filter_filter];congr 1;funext x;rw[contains_push];cases seen.contains x.born <;> cases x.born == Z.born <;> rfl
 generalize aw:leftOf J seen=L at*;have ax:L.filter (fun x=>decide (x.born<O))=L:=Array.filter_eq_self.2 (fun x V=>by simpa using ag x (by simpa using V));have ay:L.filter (fun x=>decide (x.born≥O))= #[]:=by
  rw[Array.filter_eq_empty_iff];intro x V;have:=ag x (by simpa using V);simp;omega
 simp only[ax,ay,Array.append_empty];by_cases ah:L.size=0
 ·have az:L= #[]:=Array.eq_empty_of_size_eq_zero ah;subst az;refine⟨.tuple #[.bool false],w,?_,fun _=>cm.refl _ _,al rfl⟩;simp[choose,Sem.run,Question.forced]
 ·have aA:L.isEmpty=false:=by simp[Array.isEmpty,ah]
  simp only[aA,Bool.false_eq_true,if_false,Array.empty_append,Array.size_map];have aB:∃ (j:Nat) (n:Nat),j<L.size∧w.drawn≤n∧(choose (Question.mapNext L.size)).run P w= .ok j {w with drawn:=n}:=by
   by_cases X:L.size≤1
   ·exact⟨0,w.drawn,by omega,o7 _,by simp[choose,Sem.run,Question.forced,X]⟩
   ·exact⟨_,w.drawn+1,Nat.mod_lt _ (by omega),Nat.le_succ _,by
     simp only[choose,Sem.run,Question.forced,decide_eq_true_eq,X,if_false,Question.cut];rfl⟩
  obtain⟨j,n,ab,ai,aC⟩:=aB;have aj:L.toList[j]? =some L[j]:=by simp[ab]
  have aD:L[j]∈J.toList:=(mem_left (seen:=seen) (by rw[aw];exact Array.mem_toList_iff.2 (Array.getElem_mem ab))).1;refine⟨.tuple #[.bool true,L[j].key,L[j].val],{w with drawn:=n,heap:=w.heap.setIfInBounds E (.mapIter (some m) O (seen.push L[j].born) O)},?_,?_,?_⟩
  ·have aE:=ap {w with drawn:=n} (.mapIter (some m) O (seen.push L[j].born) O) rfl;simp only[aC,Array.getElem?_map,Array.getElem?_eq_getElem ab,Z0,Y4,aE,Y6,X0]
  ·intro aF;have:=X aF;refine⟨rfl,⟨rfl,ai⟩,rfl,by simp,fun r o I ac=>?_,fun r o aG I ad=>?_⟩
   ·show (w.heap.setIfInBounds E _)[r]? =some o;by_cases U:r=E
    ·subst U;rw[hi] at I;cases I;cases ac
    ·rw[(MapKept.heap_set hi).2 r U];exact I
   ·show (w.heap.setIfInBounds E _)[r]? =some o;rw[(MapKept.heap_set hi).2 r (by omega)];exact I
  ·refine h1 j (e9 L[j]) _ (by rw[r9,aj];rfl) ⟨by simp,fun r o I ad=>?_⟩ ⟨rfl,⟨rfl,ai⟩,rfl,by simp,fun r o I ac=>?_,fun r o aG I ad=>?_⟩ ⟨J,O,seen.push L[j].born,O,?_,aa,rfl,?_,o7 _,?_,fun p aH=>⟨rfl,L[j],?_,by simp,Z2 aH⟩⟩
   ·show (w.heap.setIfInBounds E _)[r]? =some o;by_cases U:r=E
    ·subst U;rw[hi] at I;cases I;cases ad
    ·rw[(MapKept.heap_set hi).2 r U];exact I
   ·show (w.heap.setIfInBounds E _)[r]? =some o;by_cases U:r=E
    ·subst U;rw[hi] at I;cases I;cases ac
    ·rw[(MapKept.heap_set hi).2 r U];exact I
   ·show (w.heap.setIfInBounds E _)[r]? =some o;rw[(MapKept.heap_set hi).2 r (by omega)];exact I
   ·show (w.heap.setIfInBounds E _)[m]? =_;rw[(MapKept.heap_set hi).2 m (fun he=>by subst he;rw[hi] at Y;cases Y)];exact Y
   ·exact (MapKept.heap_set hi).1
   ·rw[av,Array.toList_filter,wZ _ _ _ au aj,kG]
   ·simp only[Array.back?_push,T4];exact find_born _ _ af aD
theorem w2 {E m:Nat} {d left:List (x4×x4)} {p:x4×x4} {K:x4→x5→Prop} (h:fG w E m d left (some p)) (O:K (.tuple #[p.1,p.2]) w):aa P (Instr.entry (.pointer (some ⟨E,0,none⟩))) w K:=by
 obtain⟨W,X,seen,Y,U,Z,rfl,hi,ab,rfl,V⟩:=h;obtain⟨rfl,I,h1,J,rfl⟩:=V p rfl;refine .of (v:=.tuple #[I.key,I.val]) (w':=w) ?_ (cO.refl _) O;rw[J] at h1;simp only[Instr.entry,getObj,Y4,Sem.run,hi,U,Y6,J,bne_self_eq_false,Bool.false_eq_true,if_false,←Array.find?_toList];simp only[T4] at h1;rw[h1];rfl
end
end Go.Vc
namespace Go.Proofs.YtgbkinibgjmodaaGreatDoor
open Go Go.Vc Go.RowKit Go.Proofs Go.Proofs.Tryz
set_option maxRecDepth 100000
def di (ks:List Int):x4:=.agg (ints .i8 ks).toArray
def iP (ks:List Int):Prop:=ks.length=6∧ ∀ x∈ks,0≤x∧x<32
theorem Ch {a b:List Int} (h:di a=di b):a=b:=by
 unfold di at h;have h:ints .i8 a=ints .i8 b:=congrArg Array.toList (x4.agg.inj h);have e:∀ l:List Int,(ints .i8 l).map valOf=l:=fun l=>by
  unfold ints;rw[List.map_map];exact List.map_id l
 rw[←e a,←e b,h]
theorem w3 (ks:List Int):(di ks).cells.toList=ints .i8 ks:=by simp[di,x4.cells]
theorem Ci:WideMaps.ArrKey y0 bl dA 6:=⟨bl.u,by kernel_rfl,by kernel_rfl,by kernel_rfl⟩
theorem keys:Keys y0 bl fun v=>∃ l,keyOf y0 bl v=some l:=Keys.law Ci.law
theorem tr {ks:List Int} (h:iP ks):∃ l,keyOf y0 bl (di ks)=some l:=by
 obtain⟨U,E⟩:=h
 match ks,U with
 |[a,b,c,d,e,f],_=>
  have V:=E a (by simp);have W:=E b (by simp);have X:=E c (by simp);have rd:=E d (by simp);have Y:=E e (by simp);have ir:=E f (by simp);have wf:∀ x:Int,0≤x∧x<32→(Lit.int .i8 x).wf=true:=fun x I=>by
   simp only[Lit.wf,V7,decide_eq_true_eq];have ae:o8.i8.min= -128:=by decide
   have af:o8.i8.max=127:=by decide
   omega
  have J:decide (0<y0.types.size)=true:=by kernel_rfl
  have J:=of_decide_eq_true J;obtain⟨n,Z⟩:∃ n,y0.types.size=n+1:=⟨y0.types.size-1,by omega⟩;have one:∀ x:Int,0≤x∧x<32→y0.keyLits (n+1) dA [.int .i8 x]=some [.int .i8 x]:=fun x I=>by
   unfold X5.keyLits;rw[dA.u];simp[wf x I]
  unfold keyOf;rw[bl.u];simp only;have aa:y0.keyType bl=true:=by kernel_rfl
  have ab:y0.cellsOf dA=1:=by kernel_rfl
  have O:y0.cellsOf bl=6:=by kernel_rfl
  have ac:(di [a,b,c,d,e,f]).formed y0 bl=true:=by
   unfold di x4.formed;rw[bl.u,O];rfl
  rw[aa,ac,w3,Z];simp only[Bool.and_self,if_true];unfold X5.keyLits;rw[bl.u];simp only[O,ab,ints];have ad:W3 6=[0,1,2,3,4,5]:=by decide
  simp[ad,one a V,one b W,one c X,one d rd,one e Y,one f ir]
def pad (t:List Int):List Int:=t++p9 (6-t.length) 0
theorem Cj {t:List Int} (J:t.length≤6) (E:∀ x∈t,0≤x∧x<32):iP (pad t):=
 ⟨by simp[pad];omega,fun x I=>by
  rcases n9.1 I with h|h
  ·exact E x h
  ·have:=(List.mem_replicate.1 h).2;omega⟩
theorem Ck {a b:List Int} (E:a.length=b.length) (h:pad a=pad b):a=b:=by
 unfold pad at h;exact (List.append_inj h E).1
theorem w4 {t:List Int}:(pad t).take t.length=t:=by simp[pad]
theorem lG {w:x5} {b o:Nat} {ks:List Int} {K:x4→Prop} (E:ks.length=6) (h:w.rangeAt b o (ints .i8 ks)):I y0 (x1 bl (.pointer (some ⟨b,o,none⟩))) w K=K (di ks):=
 vl bl.u rfl bl.i (by simp[E]) h
theorem Cl {w:x5} {b o:Nat} {ks:List Int} {K:x4→Prop} (E:ks.length=6) (h:w.rangeAt b o (ints .i8 ks)):I y0 (do loadVar bl (←asAddr (.pointer (some ⟨b,o,none⟩)))) w K=K (di ks):=I.of fun w' J=>by
 have:=run_loadVar_mid (P:=y0) w' b o bl (ints .i8 ks) (.array 6 dA) (pn J h) bl.u rfl (by rw[bl.i.size];simp[E]);simp only[asAddr,Y4,X0,Result.andThen_ok,this];rfl
theorem pQ {w:x5} {g:Nat} {ks:List Int} {cs:List x4} {K:Unit→x5→Prop} (E:ks.length=6) (I:cs.length=6) (J:ak w g bl cs)
  (h:∀ w',am (fun r=>r=g) w w'→w'.heap.size=w.heap.size→ak w' g bl (ints .i8 ks)→K () w'):aa y0 (x6 bl (.pointer (some ⟨g,0,none⟩)) (di ks)) w K:=
 b9 (vs:=ints .i8 ks) bl.i (by simp[E]) I (fun v O=>by obtain⟨x,_,rfl⟩:=l9.1 O;rfl) J h
def rA:List x4:=[.int .i8 0,.int .i8 0,.int .i8 0,.int .i8 0,.int .i8 0,.int .i8 0]
theorem Cm {x:Int} {w:x5}:O y0 ko [.int .i64 x] w fun v w'=>v= .bool (decide (¬gb x))∧Ext w w':=by
 apply ko.enter;simp only[aB,au,bT,ag];refine⟨fun h=>⟨?_,Ext.refl _⟩,fun h=>⟨?_,Ext.refl _⟩⟩
 ·rw[decide_eq_true];intro E;have:=E.1;omega
 ·congr 1;have:(32<x)=(¬gb x):=propext ⟨fun I E=>by have:=E.2;omega,fun I=>by
   by_cases J:32<x
   ·exact J
   ·exact absurd ⟨by omega,by omega⟩ I⟩
  simp only[this]
theorem Cn {sv:x4} {l:List Int} {w:x5} (h:aG .i64 w sv l):
  O y0 kj [sv,.func (.func ko) #[] #[]] w fun v w'=>Ext w w'∧ ∃ n:Int,v= .int .i64 n∧((0≤n)=¬∀ x∈l,gb x):=by
 have ac:=h.le;apply kj.enter;rw[aQ ab.u h];refine⟨fun _ t U=>Ext w U∧ ∃ i:Nat,t= .int .i64 i∧i≤l.length∧ ∀ x∈l.take i,gb x,fun _ t _=>l.length-(bQ t).toNat,⟨Ext.refl _,0,rfl,Y1 _,by simp⟩,?_⟩;rintro _ _ U ⟨I,i,rfl,hi,V⟩;simp only[au,ag];refine⟨fun ad=>?_,fun ae=>⟨I,-1,rfl,?_⟩⟩
 ·obtain⟨x,W⟩:∃ x,l[i]? =some x:=⟨_,x3 (by omega)⟩;rw[bw ab.u J.i (by kernel_rfl) (h.ext I) W];show O y0 ko [.int .i64 x] U _;refine Cm.mono ?_;rintro _ af _ ⟨rfl,X⟩;simp only[ag,aL];refine⟨fun Y=>⟨I.trans X,i,rfl,?_⟩,fun Z=>?_⟩
  ·exact propext ⟨fun _ aa=>Y (aa x (u5 W)),fun _=>by omega⟩
  ·rw[wrap_i64 (by omega) (by omega)];refine⟨⟨I.trans X,i+1,rfl,by omega,fun y E=>?_⟩,?_⟩
   ·rw[o4,W] at E;rcases n9.1 E with E|E
    ·exact V y E
    ·simp at E;subst E;exact X4.1 Z
   ·simp only[bQ];omega
 ·have:i=l.length:=by omega
  rw[this,l5] at V;exact propext ⟨fun h=>by omega,fun h=>absurd V h⟩
theorem w5 {sv:x4} {l:List Int} {w:x5} (h:aG .i64 w sv l):
  O y0 hV [sv,.func (.func ko) #[] #[]] w fun v w'=>v= .bool (decide (¬∀ x∈l,gb x))∧Ext w w':=by
 apply hV.enter;refine (Cn h).mono ?_;rintro _ J _ ⟨E,n,rfl,I⟩;simp only[cw];exact⟨by congr 1;simp only[I],E⟩
abbrev Told:=List (List Int×Int)
def ht (p:List Int×Int):x4×x4:=(di (pad p.1),.int .i64 p.2)
def dO (w:x5) (g m:Nat) (ao:List Int) (k o:Int) (D:Told):Prop:=
 (∃ sv gs,ak w g cL [sv,.int .i64 k,.int .i64 o,.map (some m)]∧aq .i64 J w gs sv ao)∧cu w m (D.map ht)∧bV ao∧cF o k∧ ∀ p∈D,cM ao p.1∧cF p.2 k∧p.2≠o
theorem dO.ext {w w':x5} {g m:Nat} {ao:List Int} {k o:Int} {D:Told} (h:dO w g m ao k o D) (E:Ext w w'):dO w' g m ao k o D:=by
 obtain⟨⟨sv,gs,h1,I⟩,J,O⟩:=h;exact⟨⟨sv,gs,h1.ext E,I.ext E⟩,J.ext E,O⟩
theorem ts {ao t:List Int} (I:bV ao) (h:cM ao t):t.length=ao.length∧ ∀ x∈t,0≤x∧x<32:=by
 obtain⟨h1,J⟩:=lD.1 h;refine⟨h1.symm,fun x O=>?_⟩;obtain⟨i,hi,rfl⟩:=List.getElem_of_mem O;obtain⟨a,E⟩:∃ a,ao[i]? =some a:=⟨_,x3 (by omega)⟩;have U:=J i a _ E (x3 hi);have V:=(I.2 a (u5 E)).2;omega
theorem pR {ao t:List Int} (E:bV ao) (h:cM ao t):iP (pad t):=by
 obtain⟨h1,I⟩:=ts E h;exact Cj (by rw[h1];exact E.1) I
theorem dO.nh {w:x5} {g m:Nat} {ao:List Int} {k o:Int} {D:Told} (h:dO w g m ao k o D):∀ p∈D.map ht,∃ l,keyOf y0 bl p.1=some l:=fun p E=>by
 obtain⟨q,I,rfl⟩:=l9.1 E;exact tr (pR h.2.2.1 (h.2.2.2.2 q I).1)
theorem w6 {ao s t:List Int} (E:cM ao s) (I:cM ao t) (h:di (pad s)=di (pad t)):s=t:=
 Ck ((ri E).symm.trans (ri I)) (Ch h)
theorem dO.nodup {w:x5} {g m:Nat} {ao:List Int} {k o:Int} {D:Told} (h:dO w g m ao k o D):(D.map (·.1)).Nodup:=by
 have E:=h.2.1.nodup;rw[List.map_map] at E;refine List.Pairwise.of_map (S:=fun a b=>a≠b) (fun t=>di (pad t)) (fun a b h he=>h (by rw[he])) ?_;rw[List.map_map];exact E
def Co (w:x5) (l:List Int) (k o:Int) (v:x4) (w':x5):Prop:=
 Ext w w'∧(¬bV l→v= .tuple #[.pointer none,.int .i64 1])∧(bV l→¬cF o k→v= .tuple #[.pointer none,.int .i64 3])∧
  (bV l→cF o k→ ∃ g m,v= .tuple #[.pointer (some ⟨g,0,none⟩),.int .i64 0]∧w.heap.size≤g∧w.heap.size≤m∧dO w' g m l k o [])
theorem w7 {sv:x4} {l:List Int} {k o:Int} {w:x5} (h:aG .i64 w sv l):O y0 fB [sv,.int .i64 k,.int .i64 o] w (Co w l k o):=by
 apply fB.enter;refine aV (fun v Y=>Ext w Y∧ ∃ c,v= .bool c∧(c=true↔¬bV l)) ?_ ?_
 ·rintro _ Y ⟨J,c,rfl,U⟩;rw[cv];refine⟨fun Z=>⟨J,fun _=>rfl,fun h=>absurd h (U.1 Z),fun h=>absurd h (U.1 Z)⟩,fun ae=>?_⟩;have E:bV l:=Classical.byContradiction fun h=>by have:=U.2 h;rw[ae] at this;cases this
  have al:=E.1;refine lx.mono ?_;rintro _ af _ ⟨rfl,I⟩;by_cases hi:cF o k
  rotate_left
  ·simp only[hi,decide_false,b4,Y8,bm];exact⟨J.trans I,fun h=>absurd E h,fun _ _=>rfl,fun _ h=>absurd h hi⟩
  simp only[hi,decide_true,b4,Y7,aU];refine (jE ((h.ext J).ext I) (by omega)).mono ?_;rintro aa am _ ⟨ac,ah,ao,hm⟩;have ap:=hm.ls.cells;refine ry fun m aq au V ai=>?_;rw[cR (cs:=#[aa,.int .i64 k,.int .i64 o,.map (some m)]) (by obtain⟨_,_,_,_,_,rfl,_⟩:=hm.ls;kernel_rfl)];refine cc fun g av aw W aj=>?_;have ax:=J.size;have ay:=I.size;have az:=ac.size;have aA:=V.size;exact⟨((((J.trans I).trans ac).trans V).trans W),fun h=>absurd E h,fun _ h=>absurd hi h,fun _ _=>⟨g,m,rfl,by omega,by omega,⟨aa,ah,aj,(hm.ext V).ext W⟩,ai.ext W,E,hi,fun p ak=>by cases ak⟩⟩
 ·intro aB ad;rw[aQ ab.u h];simp only[bT,ag];refine⟨fun aC=>ad _ _ ⟨Ext.refl _,true,rfl,fun _ E=>by have:=E.1;omega,fun _=>rfl⟩,fun aD=>?_⟩;refine (w5 h).mono ?_;rintro _ af _ ⟨rfl,I⟩;refine ad _ _ ⟨I,_,rfl,?_⟩;rw[decide_eq_true_eq];exact⟨fun X E=>X E.2,fun X E=>X ⟨by omega,E⟩⟩
def gC (t:List Int) (i:Nat):List Int:=t.take i++p9 (6-i) 0
theorem Cp {t:List Int} {i:Nat} (hi:i≤t.length) (E:t.length≤6):(gC t i).length=6:=by simp[gC];omega
theorem Cq {t:List Int} {i:Nat} {x:Int} (E:t[i]? =some x) (J:t.length≤6):(gC t i).set i x=gC t (i+1):=by
 have hi:=(u4.1 E).1;unfold gC;have I:(t.take i).length=i:=by rw[l7];omega
 rw[T2 _ _ (by omega),I,W7,o4,E];have:6-i=(6-(i+1))+1:=by omega
 rw[this,List.replicate_succ];simp
theorem Cr (t:List Int):gC t t.length=pad t:=by simp[gC,pad]
def w8 (w:x5) (ao t:List Int) (v:x4) (w':x5):Prop:=Ext w w'∧ ∃ ks e,v= .tuple #[di ks,.int .i64 e]∧ks.length=6∧(cM ao t→ks=pad t∧e=0)∧(¬cM ao t→e=3)
set_option maxHeartbeats 800000 in
theorem Cs {w:x5} {g m:Nat} {ao t:List Int} {k o:Int} {D:Told} {aD:x4} (h:dO w g m ao k o D) (aj:aG .i64 w aD t):O y0 oM [.pointer (some ⟨g,0,none⟩),aD] w (w8 w ao t):=by
 obtain⟨⟨sv,gs,am,hm⟩,_,aE,_⟩:=h;have bc:=aE.1;apply oM.enter;refine bU bl.i fun X bd be aF ae=>?_;refine bU bl.i fun aP bf bg ap aq=>?_;have Y:=aF.trans ap;have bh:=aF.size;have bi:=ap.size;have bj:=ae.lt;have bk:=aq.lt;have bm:=am.lt;have ae:=ae.ext ap;have aO:=am.ext Y;rw[b8 b6.u];simp only[c9,aU];have av:∀ {E:x5} {ks:List Int} {e:Int},Ext w E→ak E aP bl (ints .i8 ks)→ak E X bl rA→ks.length=6→(cM ao t→ks=pad t∧e=0)→(¬cM ao t→e=3)→
   I y0 (x1 bl (.pointer (some ⟨aP,0,none⟩))) E fun aR=>aa y0 (x6 bl (.pointer (some ⟨X,0,none⟩)) aR) E fun(_:Unit) aw=>I y0 (do loadVar bl (←asAddr (.pointer (some ⟨X,0,none⟩)))) aw fun aS=>w8 w ao t (.tuple #[aS,.int .i64 e]) aw:=by
  intro E ks e U V Z ai af ax;rw[lG ai V.range];refine pQ ai rfl Z fun aw aT bn aW=>?_;rw[Cl ai aW.range];exact⟨U.then aT (fun r aX he=>by have he:r=X:=he;omega),ks,e,rfl,ai,af,ax⟩
 rw[aQ ab.u (aj.ext Y),az,ah cL.p rfl,al (by kernel_rfl) (aO.cell (o:=0+0) rfl),aQ ab.u (hm.ls.ext Y)];simp only[bC,ag];have aH:ints .i8 (gC t 0)=rA:=by simp[gC,rA,ints]
 refine⟨fun aY=>av Y (ks:=gC t 0) (e:=3) (by rw[aH];exact aq) ae (by simp[gC]) (fun af=>absurd (by rw[ri af]) aY) (fun _=>rfl),fun aI=>?_⟩;have aI:t.length=ao.length:=by omega
 rw[aQ ab.u (aj.ext Y)];refine ba.range t.length (fun i _ E=>Ext w E∧ak E aP bl (ints .i8 (gC t i))∧ak E X bl rA∧ ∀ (j:Nat) (a x:Int),j<i→ao[j]? =some a→t[j]? =some x→0≤x∧x<a) (by omega)
  ⟨Y,by rw[aH];exact aq,ae,fun j a x aZ=>by omega⟩ ?_ ?_
 ·rintro i _ E a1 hi ⟨U,V,Z,ay⟩ a2;simp only[au,ag];refine⟨fun _=>?_,fun h=>by omega⟩;obtain⟨x,W⟩:∃ x,t[i]? =some x:=⟨_,x3 hi⟩;obtain⟨a,ac⟩:∃ a,ao[i]? =some a:=⟨_,x3 (by omega)⟩;have bo:=aE.2 a (u5 ac);rw[bw ab.u J.i (by kernel_rfl) (aj.ext U) W];have aJ:=Cp (t:=t) (i:=i) (by omega) (by omega);refine aV (fun v a6=>E=a6∧v= .bool (decide (¬(0≤x∧x<a)))) ?_ ?_
  ·rintro _ _ ⟨rfl,rfl⟩;simp only[ag];refine⟨fun a7=>av U V Z aJ (fun af=>absurd ((lD.1 af).2 i a x ac W) a7) (fun _=>rfl),fun aA=>?_⟩;have aA:=X4.1 aA;rw[fC J.u dA.u,AM (by omega) (by omega),vn bl.u dA.i (by omega)];refine bH dA.i rfl rfl V (by simp[aJ];omega) fun bp aK bq aM=>?_;simp only[aL];refine a2 _ _ ⟨U.then aK (fun r aX he=>by have he:r=aP:=he;omega),?_,Z.ad aK (by show ¬(X=aP);omega),fun j a' a8 aZ aB aC=>?_⟩
   ·have e:(ints .i8 (gC t i)).set (0+i*1) (.int .i8 x)=ints .i8 (gC t (i+1)):=by
     rw[←Cq W (by omega)];simp[ints,List.map_set]
    rw[e] at aM;exact aM
   ·by_cases bb:j=i
    ·subst bb;rw[ac] at aB;rw[W] at aC;cases aB;cases aC;exact aA
    ·exact ay j a' a8 (by omega) aB aC
  ·intro br aN;simp only[au,ag];refine⟨fun bt=>aN _ _ ⟨rfl,by rw[decide_eq_true];omega⟩,fun bu=>?_⟩;rw[az,ah cL.p rfl,al (by kernel_rfl) ((am.ext U).cell (o:=0+0) rfl),bw ab.u J.i (by kernel_rfl) (hm.ls.ext U) ac,cw];refine aN _ _ ⟨rfl,?_⟩;congr 1;exact decide_eq_decide.2 ⟨fun h bx=>by omega,fun h=>by omega⟩
 ·rintro _ E a1 ⟨U,V,Z,ay⟩;simp only[au,ag];refine⟨fun h=>by omega,fun _=>?_⟩;rw[Cr] at V;exact av U V Z (by simp[pad];omega) (fun _=>⟨rfl,rfl⟩) (fun ax=>absurd (lD.2 ⟨aI.symm,fun j a x ac W=>ay j a x (u4.1 W).1 ac W⟩) ax)
def gh (D:Told) (o:Int) (t:List Int):Int:=match D.find? (fun p=>decide (p.1=t)) with
 |some p=>p.2
 |none=>o
theorem w9 {D:Told} (I:(D.map (·.1)).Nodup) {p q:List Int×Int} (J:p∈D) (O:q∈D) (h:p.1=q.1):p=q:=by
 obtain⟨i,hi⟩:=X1.1 J;obtain⟨j,E⟩:=X1.1 O;have h1:(D.map (·.1))[i]? =some p.1:=by rw[r9,hi];rfl
 have U:(D.map (·.1))[j]? =some p.1:=by rw[r9,E,h];rfl
 have:=ia I h1 U;subst this;rw[hi] at E;exact Z2 E
theorem pS {D:Told} {o c:Int} {t:List Int} (I:(D.map (·.1)).Nodup) (h:(t,c)∈D):gh D o t=c:=by
 unfold gh;cases E:D.find? (fun p=>decide (p.1=t)) with
 |none=>
  have:=List.find?_eq_none.1 E _ h;simp at this
 |some p=>
  have h1:=List.find?_some E;have h1:p.1=t:=by simpa using h1
  have:=w9 I (List.mem_of_find?_eq_some E) h h1;rw[this]
theorem pT {D:Told} {o:Int} {t:List Int} (h:∀ p∈D,p.1≠t):gh D o t=o:=by
 unfold gh;cases E:D.find? (fun p=>decide (p.1=t)) with
 |none=>rfl
 |some p=>
  have h1:=List.find?_some E;have h1:p.1=t:=by simpa using h1
  exact absurd h1 (h p (List.mem_of_find?_eq_some E))
def iQ (D:Told) (t:List Int) (c o:Int) (E:Told):Prop:=(∀ p,p∈E↔(c≠o∧p=(t,c))∨(p∈D∧p.1≠t))∧E.length≤D.length+1
theorem iQ.cost {D O:Told} {t:List Int} {c o:Int} (h:iQ D t c o O) (X:(D.map (·.1)).Nodup) (U:(O.map (·.1)).Nodup) (s:List Int):gh O o s=if s=t then c else gh D o s:=by
 by_cases J:s=t
 ·subst J;rw[if_pos rfl];by_cases V:c=o
  ·subst V;exact pT fun p E he=>by
    rcases (h.1 p).1 E with I|I
    ·exact I.1 rfl
    ·exact I.2 he
  ·exact pS U ((h.1 _).2 (.inl ⟨V,rfl⟩))
 ·rw[if_neg J];by_cases he:∃ p∈D,p.1=s
  ·obtain⟨p,E,rfl⟩:=he;rw[pS (c:=p.2) X E];exact pS U ((h.1 _).2 (.inr ⟨E,J⟩))
  ·have W:∀ p∈D,p.1≠s:=fun p E h=>he ⟨p,E,h⟩;rw[pT W];exact pT fun p E I=>by
    rcases (h.1 p).1 E with⟨_,rfl⟩|⟨Y,_⟩
    ·exact J I.symm
    ·exact W p Y I
theorem Ct {D:Told} {t:List Int} {c o v0:Int} {j:Nat} (U:(D.map (·.1)).Nodup) (J:D[j]? =some (t,v0)) (V:c≠o):iQ D t c o (D.set j (t,c)):=by
 have O:=(u4.1 J).1;refine⟨fun p=>⟨fun E=>?_,fun E=>?_⟩,by simp⟩
 ·obtain⟨i,hi⟩:=X1.1 E;by_cases I:j=i
  ·subst I;rw[List.getElem?_set_self O] at hi;exact .inl ⟨V,(Z2 hi).symm⟩
  ·rw[List.getElem?_set_ne I] at hi;refine .inr ⟨u5 hi,fun he=>I ?_⟩;exact ia U (x:=t) (by rw[r9,J];rfl) (by rw[r9,hi,Z0,he])
 ·rcases E with⟨_,rfl⟩|⟨E,W⟩
  ·exact u5 (List.getElem?_set_self O)
  ·obtain⟨i,hi⟩:=X1.1 E;have I:j≠i:=fun he=>by subst he;rw[J] at hi;cases hi;exact W rfl
   exact u5 (by rw[List.getElem?_set_ne I];exact hi)
theorem xa {D:Told} {t:List Int} {c o:Int} (E:∀ p∈D,p.1≠t) (I:c≠o):iQ D t c o (D++[(t,c)]):=by
 refine⟨fun p=>?_,by simp⟩;rw[n9,o9];exact⟨fun h=>h.elim (fun h=>.inr ⟨h,E p h⟩) (fun h=>.inl ⟨I,h⟩),fun h=>h.elim (fun h=>.inr h.2) (fun h=>.inl h.1)⟩
theorem Cu {D:Told} {t:List Int} {o v0:Int} {j:Nat} (J:(D.map (·.1)).Nodup) (I:D[j]? =some (t,v0)):iQ D t o o (D.eraseIdx j):=by
 refine⟨fun p=>⟨fun E=>?_,fun E=>?_⟩,by have:=List.length_eraseIdx_le D j;omega⟩
 ·refine .inr ?_;obtain⟨i,O,hi⟩:=List.mem_eraseIdx_iff_getElem?.1 E;refine⟨u5 hi,fun he=>O ?_⟩;exact ia J (x:=t) (by rw[r9,hi,Z0,he]) (by rw[r9,I];rfl)
 ·rcases E with⟨h,_⟩|⟨E,U⟩
  ·exact absurd rfl h
  ·obtain⟨i,hi⟩:=X1.1 E;exact List.mem_eraseIdx_iff_getElem?.2 ⟨i,fun he=>by subst he;rw[I] at hi;cases hi;exact U rfl,hi⟩
theorem Cv {D:Told} {t:List Int} {o:Int} (E:∀ p∈D,p.1≠t):iQ D t o o D:=
 ⟨fun p=>⟨fun h=>.inr ⟨h,E p h⟩,fun h=>h.elim (fun h=>absurd rfl h.1) (fun h=>h.1)⟩,by omega⟩
theorem xb {w:x5} {g m:Nat} {ao t:List Int} {k o:Int} {D:Told} (h:dO w g m ao k o D) (J:cM ao t) {j:Nat} {v:x4} (E:(D.map ht)[j]? =some (di (pad t),v)):∃ c,D[j]? =some (t,c)∧v= .int .i64 c:=by
 rw[r9] at E;obtain⟨p,I,he⟩:=Z6.1 E;have h1:=w6 (h.2.2.2.2 p (u5 I)).1 J (congrArg Prod.fst he);exact⟨p.2,by rw[I,←h1],(congrArg Prod.snd he).symm⟩
theorem xc {w:x5} {g m:Nat} {ao t:List Int} {k o:Int} {D:Told} (h:dO w g m ao k o D) (E:∀ p∈D.map ht,p.1≠di (pad t)):∀ p∈D,p.1≠t:=fun p I he=>E (ht p) (l9.2 ⟨p,I,rfl⟩) (by rw[ht,he])
def Cw (w:x5) (g m:Nat) (ao t:List Int) (k o c:Int) (D:Told) (v:x4) (w':x5):Prop:=
 (¬(cM ao t∧cF c k)→v= .int .i64 3∧Ext w w')∧(cM ao t∧cF c k→v= .int .i64 0∧am (fun r=>r=m) w w'∧ ∃ E,iQ D t c o E∧dO w' g m ao k o E)
set_option maxHeartbeats 800000 in
theorem xd {w:x5} {g m:Nat} {ao t:List Int} {k o c:Int} {D:Told} {aD:x4} (h:dO w g m ao k o D) (aL:aG .i64 w aD t):O y0 mB [.pointer (some ⟨g,0,none⟩),aD,.int .i64 c] w (Cw w g m ao t k o c D):=by
 apply mB.enter;refine (Cs h aL).mono ?_;rintro _ bc _ ⟨aE,ks,e,rfl,ak,aM,aN⟩;rw[aC (v:=di ks) rfl,aC (v:=.int .i64 e) rfl];refine bU bl.i fun aP bd be aF aH=>?_;refine pQ ak rfl aH fun ap aO bf aI=>?_;have bg:=aE.size;have bh:=aF.size;have bi:=aH.lt;have ae:Ext w ap:=(aE.trans aF).then aO (fun r aq he=>by have he:r=aP:=he;omega);refine aV (fun v au=>v= .int .i64 0∧(cM ao t∧cF c k)∧am (fun r=>r=m) w au∧ ∃ J,iQ D t c o J∧dO au g m ao k o J) ?_ ?_
 ·rintro _ au ⟨_,h1,ab⟩;exact⟨fun h=>absurd h1 h,fun _=>⟨rfl,ab⟩⟩
 intro aQ aR;simp only[bC,ag];by_cases Y:cM ao t
 rotate_left
 ·have he:=aN Y;subst he;exact⟨fun _=>⟨fun _=>⟨rfl,ae⟩,fun h=>absurd h.1 Y⟩,fun h=>by simp at h⟩
 obtain⟨rfl,rfl⟩:=aM Y;refine⟨fun h=>absurd rfl h,fun _=>?_⟩;have V:=h.ext ae;obtain⟨⟨sv,gs,W,hm⟩,af,aJ,aT,aW⟩:=id V;rw[az,ah cL.p rfl,al (by kernel_rfl) (W.cell (o:=0+1) rfl)];refine lx.mono ?_;rintro _ aX _ ⟨rfl,X⟩;have aY:=ae.trans X;by_cases hi:cF c k
 rotate_left
 ·simp only[hi,decide_false,b4,Y8,bm];exact⟨fun _=>⟨rfl,aY⟩,fun h=>absurd h.2 hi⟩
 simp only[hi,decide_true,b4,Y7,aU];rw[az,ah cL.p rfl,al (by kernel_rfl) ((W.ext X).cell (o:=0+2) rfl)];simp only[bM,ag,aS];have aK:=tr (pR aJ Y);have aZ:∀ {J:Told},iQ D t c o J→ ∀ p∈J,cM ao p.1∧cF p.2 k∧p.2≠o:=fun hu p a1=>by
  rcases (hu.1 p).1 a1 with⟨aa,rfl⟩|⟨h1,_⟩
  ·exact⟨Y,hi,aa⟩
  ·exact aW p h1
 have ai:∀ {ac Z:x5} {J:Told},Ext aX ac→am (fun r=>r=m) ac Z→cu Z m (J.map ht)→iQ D t c o J→aQ (.int .i64 0) Z:=by
  intro ac Z J E I a2 hu;have a6:g≠m:=fun he=>by
   obtain⟨a7,a8,av,_⟩:=af;have W:ap.heap[g]? =_:=W;rw[he,av] at W;cases W
  have ba:∀ r,leads sv r→r≠m:=fun r aq he=>by
   subst he;obtain⟨a7,a8,av,_⟩:=af;obtain⟨_,⟨rfl,_⟩|⟨cap,cs,rfl,aj,_⟩⟩:=hm
   ·obtain⟨a,n,c,h1,_⟩:=aq;cases h1
   ·obtain⟨a,n,c,h1,ab⟩:=aq;cases h1;have aj:ap.heap[gs]? =_:=aj;have ab:gs=r:=ab;rw[ab,av] at aj;cases aj
  have aw:=X.trans E;exact aR _ _ ⟨rfl,⟨Y,hi⟩,((ae.trans aw).ad _).trans I,J,hu,⟨sv,gs,(W.ext aw).ad I a6,br (hm.ext aw) I ba⟩,a2,aJ,aT,aZ hu⟩
 refine⟨fun aa ac E _ _=>?_,fun aa ac E _ _=>?_⟩
 ·rw[az,ah cL.p rfl,al (by kernel_rfl) (((W.ext X).ext E).cell (o:=0+3) rfl),lG ak ((aI.ext X).ext E).range];subst aa;refine Ce dD.u keys ((af.ext X).ext E) V.nh aK (fun j v0 Z ax U I=>?_) (fun Z ay U I=>?_)
  ·obtain⟨bb,aA,_⟩:=xb V Y ax;rw[kG] at U;exact ai E I U (Cu V.nodup aA)
  ·exact ai E I U (Cv (xc V ay))
 ·rw[az,ah cL.p rfl,al (by kernel_rfl) (((W.ext X).ext E).cell (o:=0+3) rfl),lG ak ((aI.ext X).ext E).range];refine pP dD.u keys ((af.ext X).ext E) V.nh aK (fun j v0 Z ax U I=>?_) (fun Z ay U I=>?_)
  ·obtain⟨bb,aA,_⟩:=xb V Y ax;have aB:(D.map ht).set j (di (pad t),.int .i64 c)=(D.set j (t,c)).map ht:=by rw[List.map_set];rfl
   rw[aB] at U;exact ai E I U (Ct V.nodup aA aa)
  ·have aB:D.map ht++[(di (pad t),.int .i64 c)]=(D++[(t,c)]).map ht:=by rw[j0];rfl
   rw[aB] at U;exact ai E I U (xa (xc V ay) aa)
theorem Cx {w:x5} {g m:Nat} {ao t:List Int} {k o:Int} {D:Told} {K:x4→Prop} {b:Bool} (h:dO w g m ao k o D) (J:cM ao t)
  (h1:∀ c,(t,c)∈D→K (if b then .tuple #[.int .i64 c,.bool true] else .int .i64 c)) (V:(∀ p∈D,p.1≠t)→K (if b then .tuple #[.int .i64 0,.bool false] else .int .i64 0)):
  I y0 (V3 dD (.map (some m)) (di (pad t)) b) w K:=by
 have O:=tr (pR h.2.2.1 J);by_cases he:∃ p∈D,p.1=t
 ·obtain⟨p,E,rfl⟩:=he;obtain⟨j,W⟩:=X1.1 E;rw[pO dD.u keys h.2.1 h.nh O (j:=j) (v:=.int .i64 p.2) (by rw[r9,W];rfl)];exact h1 p.2 E
 ·have U:∀ p∈D,p.1≠t:=fun p E h=>he ⟨p,E,h⟩;rw[rz dD.u keys ⟨_,_,af.i⟩ h.2.1 h.nh O (fun q X Y=>by
   obtain⟨p,E,rfl⟩:=l9.1 X;exact U p E (w6 (h.2.2.2.2 p E).1 J Y))]
  exact V U
theorem Cy {w:x5} {g m:Nat} {ao:List Int} {k o:Int} {D:Told} (h:dO w g m ao k o D):O y0 oP [.pointer (some ⟨g,0,none⟩)] w fun v w'=>v= .int .i64 D.length∧Ext w w':=by
 obtain⟨⟨sv,gs,E,hm⟩,I,_⟩:=h;apply oP.enter;rw[b8 b6.u];simp only[c9,aU];rw[az,ah cL.p rfl,al (by kernel_rfl) (E.cell (o:=0+3) rfl),Cf dD.u I];exact⟨by simp,Ext.refl _⟩
theorem Cz {w:x5} {g m:Nat} {ao:List Int} {k o:Int} {D:Told} (h:dO w g m ao k o D):O y0 pf [.pointer (some ⟨g,0,none⟩)] w fun v w'=>v= .int .i64 k∧Ext w w':=by
 obtain⟨⟨sv,gs,E,hm⟩,_⟩:=h;apply pf.enter;rw[b8 b6.u];simp only[c9,aU];rw[az,ah cL.p rfl,al (by kernel_rfl) (E.cell (o:=0+1) rfl)];exact⟨rfl,Ext.refl _⟩
theorem tt {w:x5} {g m:Nat} {ao:List Int} {k o:Int} {D:Told} (h:dO w g m ao k o D):O y0 lb [.pointer (some ⟨g,0,none⟩)] w fun v w'=>Ext w w'∧ ∃ E,w.heap.size≤E∧aq .i64 J w' E v ao:=by
 obtain⟨⟨sv,gs,I,hm⟩,_,U,_⟩:=h;have V:=U.1;apply lb.enter;rw[b8 b6.u];simp only[c9,aU];rw[az,ah cL.p rfl,al (by kernel_rfl) (I.cell (o:=0+0) rfl)];exact jE hm.ls (by omega)
theorem CA {w:x5} {g m:Nat} {ao:List Int} {k o:Int} {D:Told} (h:dO w g m ao k o D):O y0 pg [.pointer (some ⟨g,0,none⟩)] w fun v w'=>v= .int .i64 ao.length∧Ext w w':=by
 apply pg.enter;refine (tt h).mono ?_;rintro v I _ ⟨E,J,_,hm⟩;rw[aQ ab.u hm.ls];exact⟨rfl,E⟩
end Go.Proofs.YtgbkinibgjmodaaGreatDoor
namespace Go.Vc
open Go Go.RowKit
set_option maxRecDepth 100000
def leadsTo (v:x4) (r:Nat):Prop:=∃ a n c,v= .slice (some a) n c∧a.block=r
theorem dI {r:Nat} (h:leadsTo (.slice none 0 0) r):False:=by
 obtain⟨a,n,c,h,_⟩:=h;cases h
section
variable {α:Type} {f:α→List x4} {k:Nat}
theorem gi:∀ {L:List α},(∀ a∈L,(f a).length=k)→(L.flatMap f).length=L.length*k
 |[],_=>by simp
 |a::L,h=>by
  rw[X9,o5,h a (.head _),gi fun b E=>h b (.tail _ E),j9,V1];omega
theorem pU:∀ {L:List α} (i:Nat),(∀ a∈L,(f a).length=k)→(L.flatMap f).take (i*k)=(L.take i).flatMap f
 |[],i,_=>by simp
 |a::L,0,_=>by simp
 |a::L,i+1,h=>by
  have E:=h a (.head _);rw[X9,List.take_succ_cons,X9,←pU i fun b I=>h b (.tail _ I),V1,Nat.one_mul,Nat.add_comm,List.take_append,E];congr 1
  ·exact Z1 (by omega)
  ·congr 1;omega
theorem rB:∀ {L:List α} (i:Nat),(∀ a∈L,(f a).length=k)→(L.flatMap f).drop (i*k)=(L.drop i).flatMap f
 |[],i,_=>by simp
 |a::L,0,_=>by simp
 |a::L,i+1,h=>by
  have E:=h a (.head _);rw[X9,List.drop_succ_cons,←rB i fun b I=>h b (.tail _ I),V1,Nat.one_mul,Nat.add_comm,List.drop_append,E];rw[List.drop_of_length_le (by omega),List.nil_append];congr 1;omega
theorem rC {L:List α} {i:Nat} {a:α} (h:∀ a∈L,(f a).length=k) (hi:L[i]? =some a) {j:Nat} {v:x4} (E:(f a)[j]? =some v):(L.flatMap f)[i*k+j]? =some v:=by
 have J:=(u4.1 E).1;rw[←List.getElem?_drop,rB i h];have I:=u4.1 hi;rw[X2 I.1,I.2,X9,Y0 J];exact E
theorem xe {L:List α} {i:Nat} {a:α} (h:∀ a∈L,(f a).length=k) (E:(f a).length=k) (hi:i<L.length):over (L.flatMap f) (i*k) (f a)=(L.set i a).flatMap f:=by
 have J:=gi h;have I:(i+1)*k≤L.length*k:=X6 _ hi;rw[V1,Nat.one_mul] at I;rw[kv (by omega),E,pU i h,show i*k+k=(i+1)*k by rw[V1,Nat.one_mul],rB (i+1) h,List.set_eq_take_append_cons_drop,if_pos hi,List.flatMap_append,X9,V0]
theorem xf {cs vs:List x4} {o m:Nat} (h1:o+vs.length≤m) (E:m≤cs.length):(over cs o vs).take m=over (cs.take m) o vs:=by
 rw[kv (by omega),kv (by rw[l7];omega),V0,V0,List.take_append,List.take_append,List.take_take,List.take_take,List.drop_take,l7];rw[show min m o=o by omega,show min o m=o by omega,show min o cs.length=o by omega,Z1 (l:=vs) (by omega)];congr 3;omega
def aZ (f:α→List x4) (k:Nat) (e:o6) (w:x5) (g:Nat) (v:x4) (L:List α):Prop:=bR w g e k v L.length (L.flatMap f)∧ ∀ a∈L,(f a).length=k
variable {P:X5} {w:x5} {e:o6} {g:Nat} {v:x4} {L:List α}
theorem aZ.nil (f:α→List x4) (k:Nat) (e:o6) (w:x5) (g:Nat):aZ f k e w g (.slice none 0 0) []:=⟨bR.nil w g e k,fun a h=>by cases h⟩
theorem aZ.leads (h:aZ f k e w g v L) {r:Nat} (E:leadsTo v r):r=g∧g<w.heap.size:=by
 obtain⟨_,⟨rfl,_⟩|⟨cap,cs,rfl,I,_⟩⟩:=h.1
 ·exact (dI E).elim
 ·obtain⟨a,n,c,h1,J⟩:=E;cases h1;exact⟨J.symm,I.lt⟩
theorem aZ.ad {S:Nat→Prop} {w':x5} (h:aZ f k e w g v L) (E:am S w w') (I:∀ r,leadsTo v r→¬S r):aZ f k e w' g v L:=
 ⟨⟨h.1.1,h.1.2.imp id fun⟨cap,cs,h1,J,O⟩=>⟨cap,cs,h1,J.ad E (I g ⟨_,_,_,h1,rfl⟩),O⟩⟩,h.2⟩
theorem aZ.ext {w':x5} (h:aZ f k e w g v L) (E:Ext w w'):aZ f k e w' g v L:=h.ad (E.ad fun _=>False) fun _ _ h=>h
theorem aZ.sl (h:aZ f k e w g v L):b7 w k v L.length (L.flatMap f):=h.1.sl
theorem aZ.le (h:aZ f k e w g v L):L.length≤9223372036854775807:=by
 have:=b7.le h.sl;simpa[maxLen] using this
theorem eb {t E:o6} {K:x4→Prop} (J:P.underlying t=some (.slice e)) (h:aZ f k e w g v L):I P (u6 #[t] E #[v]) w K=K (.int .i64 L.length):=by
 obtain⟨_,_,_,_,_,rfl,_⟩:=h.sl;exact ga J
theorem cT {t:o6} {q:o8} {b:Nat} {z:x4} {i:Nat} {y:Int} {K:x4→Prop} (E:y=(i:Int)) (J:P.underlying t=some (.slice e)) (hi:aJ P e k b z) (h:aZ f k e w g v L) (O:i<L.length):
  I P (x7 t v (.int q y)) w K=K (.pointer (some ⟨g,i*k,none⟩)):=by
 subst E;obtain⟨_,⟨rfl,U⟩|⟨cap,cs,rfl,V,W⟩⟩:=h.1
 ·omega
 ·rw[gx J hi O (fun _=>rfl),V5]
theorem aZ.range {i:Nat} {a:α} (h:aZ f k e w g v L) (hi:L[i]? =some a):w.rangeAt g (i*k) (f a):=fun j u hu=>by
 have h1:=rC h.2 hi hu;have O:=(u4.1 hi).1;obtain⟨_,⟨rfl,U⟩|⟨cap,cs,rfl,I,_,_,V,J⟩⟩:=h.1
 ·omega
 ·have E:=(u4.1 h1).1;rw[gi h.2] at E;rw[←J,Z8 E] at h1;exact I.cell h1
theorem CB {t:o6} {b:Nat} {z:x4} {i:Nat} {a:α} {K:Unit→x5→Prop} (hi:aJ P t k b z) (h:aZ f k e w g v L) (E:(f a).length=k) (h1:∀ u∈f a,u.oneCell'=true) (O:i<L.length)
  (W:∀ w',am (fun r=>leadsTo v r) w w'→w'.heap.size=w.heap.size→aZ f k e w' g v (L.set i a)→K () w'):aa P (x6 t (.pointer (some ⟨g,i*k,none⟩)) (.agg (f a).toArray)) w K:=by
 have ag:=gi h.2;have X:(i+1)*k≤L.length*k:=X6 _ O;rw[V1,Nat.one_mul] at X;obtain⟨⟨ah,⟨rfl,ai⟩|⟨cap,cs,rfl,Y,U,Z,V,ab⟩⟩,I⟩:=h
 ·omega
 ·have ac:L.length*k≤cs.length:=by rw[V];exact X6 _ U
  refine vp hi E h1 Y (by omega) fun w' ad ae af=>W w' (ad.mono fun r _ he=>⟨_,_,_,rfl,he.symm⟩) ae ⟨⟨?_,.inr ⟨cap,_,by simp,af,by simpa using U,Z,by rw[mT,V],?_⟩⟩,fun b J=>?_⟩
  ·rw[gi (L:=L.set i a) fun b J=>by
    rcases V9 J with h|rfl
    ·exact I b h
    ·exact E]
  ·rw[U1,←xe I E O,←ab,xf (by rw[E];omega) ac]
  ·rcases V9 J with h|rfl
   ·exact I b h
   ·exact E
theorem ni {t:o6} {b:Nat} {z u:x4} {i j:Nat} {a a':α} {K:Unit→x5→Prop} (hi:aJ P t 1 b z) (hu:u.cells= #[u]) (h1:u.oneCell'=true) (h:aZ f k e w g v L) (I:L[i]? =some a) (O:f a'=(f a).set j u) (ao:j<k)
  (ac:∀ w',am (fun r=>leadsTo v r) w w'→w'.heap.size=w.heap.size→aZ f k e w' g v (L.set i a')→K () w'):aa P (x6 t (.pointer (some ⟨g,i*k+j,none⟩)) u) w K:=by
 have U:=(u4.1 I).1;have ap:=gi h.2;have ad:(i+1)*k≤L.length*k:=X6 _ U;rw[V1,Nat.one_mul] at ad;have ae:(f a).length=k:=h.2 a (u5 I);have E:(f a').length=k:=by rw[O,U1];exact ae
 have af:(L.flatMap f).set (i*k+j) u=(L.set i a').flatMap f:=by
  rw[←xe h.2 E U];refine W0 fun p=>?_;rw[pr _ _ _ (by omega),X8,E];by_cases V:i*k≤p∧p<i*k+k
  ·rw[if_pos V,O,X8];by_cases W:i*k+j=p
   ·rw[if_pos W,if_pos (by omega),if_pos (by omega),if_pos (by omega)]
   ·rw[if_neg W,if_neg (by omega)];obtain⟨y,X⟩:∃ y,(f a)[p-i*k]? =some y:=⟨_,x3 (by omega)⟩;have:=rC h.2 I X;rw[show i*k+(p-i*k)=p by omega] at this;rw[this,X]
  ·rw[if_neg V,if_neg (by omega)]
 obtain⟨⟨aq,⟨rfl,au⟩|⟨cap,cs,rfl,ag,Y,ah,Z,ai⟩⟩,ab⟩:=h
 ·omega
 ·have av:L.length*k≤cs.length:=by rw[Z];exact X6 _ Y
  refine bH hi hu h1 ag (by omega) fun w' aj ak al=>ac w' (aj.mono fun r _ he=>⟨_,_,_,rfl,he.symm⟩) ak ⟨⟨?_,.inr ⟨cap,_,by simp,al,by simpa using Y,ah,by rw[U1,Z],?_⟩⟩,fun b J=>?_⟩
  ·rw[gi (L:=L.set i a') fun b J=>by
    rcases V9 J with h|rfl
    ·exact ab b h
    ·exact E]
  ·rw[U1,←af,←ai,List.take_set]
  ·rcases V9 J with h|rfl
   ·exact ab b h
   ·exact E
theorem fl {t af:o6} {b:Nat} {z x:x4} {a:α} {K:x4→x5→Prop} (V:P.underlying t=some (.slice e)) (hi:aJ P e k b z) (ac:z.cells.size=k) (h:aZ f k e w g v L) (Z:b7 w k x 1 (f a)) (h1:∀ u∈f a,u.oneCell'=true)
  (W:(L.length+1)*b≤140737488355328) (ad:L.length+1≤9223372036854775807)
  (ae:∀ E I w',aZ f k e w' I E (L++[a])→(∀ r,leadsTo E r→leadsTo v r∨w.heap.size≤r)→am (fun r=>leadsTo v r) w w'→K E w'):aa P (r8 #[t,t] af #[v,x]) w K:=by
 have ag:(f a).length=k:=by have:=Z.1;omega
 have X:∀ E I w',bR w' I e k E (L.length+1) (L.flatMap f++f a)→aZ f k e w' I E (L++[a]):=fun E I w' hm=>⟨by simpa using hm,fun b W=>by
  rcases n9.1 W with h'|h'
  ·exact h.2 b h'
  ·rw[o9.1 h'];exact ag⟩
 rcases h.1.2 with⟨J,ah⟩|⟨cap,cs,J,ai,_⟩
 ·have hm:bR w w.heap.size e k v L.length (L.flatMap f):=⟨h.1.1,.inl ⟨J,ah⟩⟩;subst J;refine lu V V hi ac hm Z h1 (by simpa using W) (by simpa[maxLen] using ad) fun E I w' Y O ab=>ae E I w' (X _ _ _ O) (fun r U=>.inr ?_) (ab.mono fun r U h=>by omega);have:=((X _ _ _ O).leads U).1;omega
 ·refine lu V V hi ac h.1 Z h1 (by simpa using W) (by simpa[maxLen] using ad) fun E I w' Y O ab=>ae E I w' (X _ _ _ O) (fun r U=>?_) (ab.mono fun r U h=>⟨_,_,_,J,h.symm⟩);have:=((X _ _ _ O).leads U).1;rcases Y with Y|Y
  ·exact .inl ⟨_,_,_,J,by show g=r;omega⟩
  ·exact .inr (by omega)
theorem CC {t I:o6} {b:Nat} {z x:x4} {a:α} {K:x4→x5→Prop} (J:P.underlying t=some (.slice e)) (hi:aJ P e k b z) (O:z.cells.size=k) (h:aZ f k e w g v L) (U:b7 w k x 1 (f a)) (h1:∀ a,∀ u∈f a,u.oneCell'=true)
  (V:(L.length+1)*b≤140737488355328) (W:L.length+1≤9223372036854775807)
  (X:∀ E Y w',aZ f k e w' Y E (L++[a])→(∀ r,leadsTo E r→leadsTo v r∨w.heap.size≤r)→am (fun r=>leadsTo v r) w w'→K E w'):aa P (r8 #[t,t] I #[v,x]) w K:=fl J hi O h U (h1 a) V W X
theorem fa {t:o6} {b:Nat} {z:x4} {a:α} {x:x4} {K:x4→x5→Prop} (O:P.underlying t=some (.slice e)) (hi:aJ P e k b z) (Y:k≤100000) (I:x.cells=(f a).toArray) (J:(f a).length=k)
  (U:∀ v g w',g=w.heap.size→Ext w w'→aZ f k e w' g v [a]→K v w'):aa P (u9 t 1 #[(0,x)]) w K:=
 hZ O hi (by omega) (cs:=x.cells) (vB (by simp) (by rw[I];simpa using J)) fun g w' V W E=>by
  have E:ak w' g e (f a):=by rw[I] at E;simpa using E
  exact U _ g w' V W ⟨by simpa using bR.full (k:=k) (n:=1) E (by omega) (by simp[maxLen]),fun c X=>by rw[o9.1 X];exact J⟩
end
end Go.Vc
namespace Go.Proofs.YtgbkinibgjmodaaGreatDoor
open Go Go.Vc Go.RowKit Go.Proofs Go.Proofs.Tryz
set_option maxRecDepth 100000
theorem tu {α:Type}:∀ {l:List α} {j:Nat} {x:α},l[j]? =some x→(x::l.eraseIdx j).Perm l
 |[],j,x,h=>by simp at h
 |a::l,0,x,h=>by simp at h;subst h;exact List.Perm.refl _
 |a::l,j+1,x,h=>by
  simp at h;rw[List.eraseIdx_cons_succ];exact (List.Perm.swap a x _).trans ((tu h).cons a)
theorem xg {α:Type} {l:List α} {j:Nat} (h:j<l.length):(l.eraseIdx j).length+1=l.length:=by
 rw[List.length_eraseIdx,if_pos h];omega
def nj (w:x5) (E:Nat):Nat:=match w.heap[E]? with
 |some (.mapIter (some m) _ seen _)=>(match w.heap[m]? with
  |some (.map I _)=>(leftOf I seen).size
  |_=>0)
 |_=>0
theorem rD {w:x5} {E m:Nat} {d left:List (x4×x4)} {I:Option (x4×x4)} (h:fG w E m d left I):nj w E=left.length:=by
 obtain⟨O,U,seen,V,h1,_,_,J,_,rfl,_⟩:=h;unfold nj;rw[J];simp only;rw[h1];simp
theorem CD {w w' w0:x5} {E m:Nat} {d d0 left:List (x4×x4)} {I:Option (x4×x4)} (h:fG w E m d left I) (hm:cu w0 m d0) (h1:Ext w0 w) (U:Ext w0 w') (hi:eJ w w'):fG w' E m d left I:=by
 obtain⟨V,c,s,W,X,Y,Z,aa,ab⟩:=h;obtain⟨ac,ad,f1,_⟩:=hm;have J:=h1.bz m _ f1 rfl;have O:=U.bz m _ f1 rfl;rw[X] at J;rw[←J] at O;exact⟨V,c,s,W,O,Y,Z,hi E _ aa rfl,ab⟩
abbrev lH (w:x5) (g:Nat) (v:x4) (L:List (List Int)):Prop:=aZ (ints .i8) 6 bl w g v L
theorem xh {k:o8} {l:List Int}:∀ u∈ints k l,u.oneCell'=true:=fun u hu=>by
 obtain⟨x,_,rfl⟩:=l9.1 hu;rfl
set_option maxHeartbeats 800000 in
theorem keysIter {ac m:Nat} {d:List (x4×x4)} {KS:List (List Int)} {w0:x5} (aw:ak w0 ac dD [.map (some m)]) (hm:cu w0 m d) (ax:d.map (·.1)=KS.map di) (ay:∀ ks∈KS,ks.length=6):
  nK y0 true gu [.pointer (some ⟨ac,0,none⟩)] ([]:List (List Int)) (fun h=>h.Perm KS) (fun h vs h' _=>∃ ks∈KS,h.length<KS.length∧vs=[di ks]∧h'=h++[ks]) (fun w=>Ext w0 w):=by
 refine⟨gu.enters,fun l az ba w O _ aA U aB=>?_⟩;apply gu.enter;rw[al (by kernel_rfl) ((aw.ext U).cell (o:=0) rfl)];refine aa.da (wY dD.u (hm.ext U) fun ad bb aD V bc aE aF=>?_);refine⟨fun E=>∃ h I left ae,az h E∧Ext w0 E∧w.heap.size≤E.heap.size∧fG E ad m d left ae∧left.map (·.1)=I.map di∧(h++I).Perm KS,fun E=>nj E ad,
  ⟨[],KS,d,none,O _ _ _ V aF.b aB,U.trans V,V.size,aE,ax,List.Perm.refl _⟩,?_⟩
 rintro E ⟨h,I,left,ae,af,aG,bd,ag,W,J⟩;have aH:left.length=I.length:=by have:=congrArg V4 W;simpa using this
 refine w1 ag (fun h=>by cases h) (fun aI=>?_) (fun j p aJ ah ai aK aj=>?_)
 ·rw[aC (v:=.bool false) rfl,aU];subst aI;have:I=[]:=j5 (by rw[←aH];rfl);subst this;rw[U2] at J;exact .inl ⟨h,J,af⟩
 ·rw[aC (v:=.bool true) rfl,bm];refine w2 aj ?_;obtain⟨ks,X,aL⟩:∃ ks,I[j]? =some ks∧p.1=di ks:=by
   have h1:(left.map (·.1))[j]? =some p.1:=by rw[r9,ah];rfl
   rw[W,r9] at h1;obtain⟨ks,am,aM⟩:=Z6.1 h1;exact⟨ks,am,aM.symm⟩
  have ao:ks∈KS:=J.mem_iff.1 (n9.2 (.inr (u5 X)));have ap:=ay ks ao;rw[aC (v:=p.1) rfl,aL];refine aa.da (bU bl.i fun aN be bf aO aP aQ=>?_);refine aa.da (pQ ap rfl aP fun Y aR bg aS aT=>?_);rw[lG ap aS.range];have Z:Ext aJ Y:=aO.then aR (fun r bh he=>by have he:r=aN:=he;omega);have aq:=aQ.trans aT;have au:Ext w0 Y:=(aG.trans ai).trans Z;have aV:=O _ _ _ ai (by rw[←aD];exact aK) af;have aW:=O _ _ _ Z aq.b aV;have aX:=aj.ext Z aq.kS;have aY:h.length<KS.length:=by
   have h1:=J.length_eq;have am:=(u4.1 X).1;rw[o5] at h1;omega
  refine⟨rfl,(aA h (h++[ks]) _ Y au ⟨ks,ao,aY,rfl,rfl⟩ aW).mono ?_⟩;rintro _ aZ (⟨rfl,av,a1,a2⟩|⟨rfl,a6⟩)
  ·simp only[b4,Y7,aU];have ab:=CD aX hm au av (a2 rfl);have a7:w.heap.size≤aZ.heap.size:=by
    obtain⟨_,_,_,_,_,_,_,a8,_⟩:=ab;have:=(l6.1 a8).1;omega
   refine⟨⟨h++[ks],I.eraseIdx j,left.eraseIdx j,some p,a1,av,a7,ab,?_,?_⟩,?_⟩
   ·rw[←kG,W,kG]
   ·refine List.Perm.trans ?_ J;rw[V0];exact List.Perm.append_left h (tu X)
   ·rw[rD ab,rD ag];have:=xg (u4.1 ah).1;omega
  ·simp only[b4,Y8,bm];exact .inr ⟨h,a6⟩
theorem CE {w:x5} {m:Nat}:O y0 oV [.map (some m)] w fun r w'=>Ext w w'∧ ∃ g,r= .func (.func gu) #[] #[.pointer (some ⟨g,0,none⟩)]∧w.heap.size≤g∧ak w' g dD [.map (some m)]:=by
 apply oV.enter;refine cc fun g J U E I=>?_;rw[pq];exact⟨E,g,rfl,by omega,I⟩
set_option maxHeartbeats 800000 in
theorem CF {af m:Nat} {d:List (x4×x4)} {KS:List (List Int)} {w:x5} (aB:ak w af dD [.map (some m)]) (hm:cu w m d) (aC:d.map (·.1)=KS.map di) (ag:∀ ks∈KS,ks.length=6) (a2:KS.length≤1000000):
  O y0 mR [.slice none 0 0,.func (.func gu) #[] #[.pointer (some ⟨af,0,none⟩)]] w fun v w'=>Ext w w'∧ ∃ g L,(∀ r,leadsTo v r→w.heap.size≤r)∧L.Perm KS∧lH w' g v L:=by
 apply mR.enter;refine cc fun gs aD a6 ah V=>?_;have V:ak aD gs er [.slice none 0 0]:=V;have a7:=V.lt;refine⟨List (List Int),true,_,_,_,_,_,_,fun h w'=>am (fun r=>w.heap.size≤r) w w'∧ ∃ v g,ak w' gs er [v]∧(∀ r,leadsTo v r→w.heap.size≤r∧r≠gs)∧lH w' g v h,fun _ _ _=>False,rfl,keysIter aB hm aC ag,?_,fun _ _ I h=>h.trans I,
  fun _ _ _ I h=>⟨h.1.trans (I.ad _),by obtain⟨v,g,h1,aE,aF⟩:=h.2;exact⟨v,g,h1.ext I,aE,aF.ext I⟩⟩,fun _ _ _ _ _ h=>h,ah,⟨ah.ad _,_,0,V,fun r h=>(dI h).elim,aZ.nil _ _ _ _ _⟩,?_,?_,fun _ _ h=>h.elim,fun _ _ _ h=>h.elim⟩
 ·rintro h _ h' w' ⟨ks,_,_,rfl,_⟩;rfl
 ·rintro a h h' ai aG ⟨ks,aH,a8,aI,rfl⟩ ⟨aj,v,g,Y,J,Z⟩;cases aI;have ab:=ag ks aH;have ba:h.length≤1000000:=by omega
  refine aa.da (bU bl.i fun aJ bb bc aK ao aL=>?_);refine aa.da (pQ ab rfl ao fun aM aN bd aO aP=>?_);intro be ap _ aQ;have bf:=ao.lt;have aR:Ext ai aM:=aK.then aN (fun r E he=>by have he:r=aJ:=he;omega);have U:=aR.trans ap;rw[al (by kernel_rfl) ((Y.ext U).cell (o:=0) rfl),lG ab (aO.ext ap).range];refine aa.da (fa (f:=ints .i8) (a:=ks) er.u bl.i (by omega) (by simp[di,x4.cells]) (by simp[ab]) fun a bg bh bi W aS aT=>?_);have aq:=aS.sl;rw[X9,List.flatMap_nil,U2] at aq;refine aa.da (CC er.u bl.i rfl ((Z.ext U).ext W) aq (fun a=>xh) (by omega) (by omega) fun au aU av ac aV X aW=>?_);have bj:=aj.size;have bk:=U.size;have bm:=W.size;have bn:=Y.lt;have aw:∀ r,leadsTo au r→w.heap.size≤r∧r≠gs:=fun r E=>by
   rcases aV r E with h|h
   ·exact J r h
   ·omega
  have ae:ak av gs er [v]:=((Y.ext U).ext W).ad X (fun h=>(J gs h).2 rfl);refine aa.da (bH er.i (by obtain⟨_,_,_,_,_,rfl,_⟩:=ac.sl;rfl) (by obtain⟨_,_,_,_,_,rfl,_⟩:=ac.sl;rfl) ae (by simp) fun ax ay bo aX aY=>?_);have az:am (fun r=>w.heap.size≤r) ai ax:=(((U.trans W).ad _).trans (X.mono fun r _ h=>(J r h).1)).trans (ay.mono fun r _ h=>by show w.heap.size≤r;omega);refine⟨aG.then az (fun r E h=>by have h:w.heap.size≤r:=h;omega),⟨aj.trans az,au,aU,aX,aw,ac.ad ay fun r E h=>(aw r E).2 h⟩,fun _=>?_⟩;exact ((((aL.kS.trans aP.kS).trans aQ).trans aT.kS).trans aW.kS).trans aY.kS
 ·rintro h av a1 ⟨X,v,g,ae,J,Z⟩;rw[al (by kernel_rfl) (ae.cell (o:=0) rfl)];intro ax aA _;exact⟨(X.ext fun r E h=>by have:w.heap.size≤r:=h;omega).trans aA,g,h,fun r E=>(J r E).1,a1,Z.ext aA⟩
theorem CG {E m:Nat} {d:List (x4×x4)} {KS:List (List Int)} {w:x5} (I:ak w E dD [.map (some m)]) (hm:cu w m d) (J:d.map (·.1)=KS.map di) (U:∀ ks∈KS,ks.length=6) (V:KS.length≤1000000):
  O y0 pc [.func (.func gu) #[] #[.pointer (some ⟨E,0,none⟩)]] w fun v w'=>Ext w w'∧ ∃ g L,(∀ r,leadsTo v r→w.heap.size≤r)∧L.Perm KS∧lH w' g v L:=by
 apply pc.enter;exact (CF I hm J U V).mono fun _ _ _ h=>h
def eZ:List Int→Int
 |[]=>0
 |x::l=>x*32 ^ l.length+eZ l
theorem tv (n:Nat):(0:Int)<32 ^ n:=Int.pow_pos (by omega)
theorem rE:∀ (l:List Int),(∀ x∈l,0≤x∧x<32)→0≤eZ l∧eZ l<32 ^ l.length
 |[],_=>by simp[eZ]
 |x::l,h=>by
  have J:=rE l fun y E=>h y (.tail _ E);have I:=h x (.head _);have O:=tv l.length;simp only[eZ,j9];have e:(32:Int) ^ (l.length+1)=32*32 ^ l.length:=by rw[Int.pow_succ,Int.mul_comm]
  have h1:x*32 ^ l.length≤31*32 ^ l.length:=Int.mul_le_mul_of_nonneg_right (by omega) (by omega);have U:0≤x*32 ^ l.length:=Int.mul_nonneg I.1 (by omega);rw[e];omega
def gj:List Int→List Int→Int
 |x::a,y::b=>if x<y then-1 else if y<x then 1 else gj a b
 |_,_=>0
theorem xi:∀ (a b:List Int),a.length=b.length→(∀ x∈a,0≤x∧x<32)→(∀ x∈b,0≤x∧x<32)→(gj a b<0↔eZ a<eZ b)∧(eZ a=eZ b→a=b)
 |[],[],_,_,_=>by simp[gj]
 |[],_::_,h,_,_=>by simp at h
 |_::_,[],h,_,_=>by simp at h
 |x::a,y::b,h,W,X=>by
  have J:a.length=b.length:=by simpa using h
  have O:∀ x∈a,0≤x∧x<32:=fun z E=>W z (.tail _ E);have U:∀ x∈b,0≤x∧x<32:=fun z E=>X z (.tail _ E);have V:=xi a b J O U;have Y:=rE a O;have aa:=rE b U;have ab:=tv b.length;simp only[gj,eZ];rw[J] at Y ⊢;have step:∀ u v:Int,u<v→u*32 ^ b.length+32 ^ b.length≤v*32 ^ b.length:=fun u v ac=>by
   have:=Int.mul_le_mul_of_nonneg_right (show u+1≤v by omega) (show (0:Int)≤32 ^ b.length by omega);rw[Int.add_mul,Int.one_mul] at this;exact this
  by_cases h1:x<y
  ·rw[if_pos h1];have:=step x y h1;exact⟨⟨fun _=>by omega,fun _=>by omega⟩,fun h=>by omega⟩
  ·rw[if_neg h1];by_cases I:y<x
   ·rw[if_pos I];have:=step y x I;exact⟨⟨fun h=>by omega,fun h=>by omega⟩,fun h=>by omega⟩
   ·rw[if_neg I];have Z:x=y:=by omega
    subst Z;exact⟨V.1.trans ⟨fun h=>by omega,fun h=>by omega⟩,fun h=>by rw[V.2 (by omega)]⟩
theorem tw:∀ {a b:List Int} {i:Nat},(∀ (j:Nat) (x y:Int),j<i→a[j]? =some x→b[j]? =some y→x=y)→i≤a.length→i≤b.length→gj a b=gj (a.drop i) (b.drop i)
 |_,_,0,_,_,_=>by simp
 |[],_,i+1,_,h,_=>by simp at h
 |_::_,[],i+1,_,_,h=>by simp at h
 |x::a,y::b,i+1,he,h1,E=>by
  have I:=he 0 x y (by omega) rfl rfl;subst I;simp only[gj,Int.lt_irrefl,if_false,List.drop_succ_cons];exact tw (fun j u v O hu J=>he (j+1) u v (by omega) hu J) (by simpa using h1) (by simpa using E)
theorem xj {x:Int} {w:x5}:O y0 mQ [.int .i8 x] w fun v w'=>v= .bool false∧Ext w w':=by
 apply mQ.enter;simp only[bC];exact⟨by simp,Ext.refl _⟩
theorem CH {x y:Int} {w:x5}:O y0 pb [.int .i8 x,.int .i8 y] w fun v w'=>v= .int .i64 (if x<y then-1 else if y<x then 1 else 0)∧Ext w w':=by
 apply pb.enter;refine xj.mono ?_;rintro _ U _ ⟨rfl,E⟩;refine xj.mono ?_;rintro _ V _ ⟨rfl,I⟩;simp only[aU,au,bT,ag];exact⟨fun h=>⟨by rw[if_pos h],E.trans I⟩,fun h=>⟨fun J=>⟨by rw[if_neg h,if_pos J],E.trans I⟩,fun J=>⟨by rw[if_neg h,if_neg J],E.trans I⟩⟩⟩
theorem CI {ac bv:x4} {a b:List Int} {w:x5} (U:aG .i8 w ac a) (W:aG .i8 w bv b) (av:a.length=b.length):O y0 oT [ac,bv] w fun v w'=>v= .int .i64 (gj a b)∧Ext w w':=by
 apply oT.enter;have aw:=U.le;rw[aQ fj.u U];refine ba.range a.length (fun i _ X=>Ext w X∧ ∀ (j:Nat) (x y:Int),j<i→a[j]? =some x→b[j]? =some y→x=y) (by omega) ⟨Ext.refl _,fun j x y ah=>by omega⟩ ?_ ?_
 ·rintro i _ X ai hi ⟨E,V⟩ aj;simp only[au,ag];refine⟨fun _=>?_,fun h=>by omega⟩;obtain⟨x,Y⟩:∃ x,a[i]? =some x:=⟨_,x3 hi⟩;obtain⟨y,Z⟩:∃ y,b[i]? =some y:=⟨_,x3 (by omega)⟩;rw[bw fj.u dA.i (by kernel_rfl) (U.ext E) Y,aQ fj.u (W.ext E)];simp only[cw,ag];refine⟨fun h=>by omega,fun _=>?_⟩;rw[bw fj.u dA.i (by kernel_rfl) (W.ext E) Z];refine CH.mono ?_;rintro _ ax _ ⟨rfl,ad⟩;have I:gj a b=gj (a.drop i) (b.drop i):=tw V (by omega) (by omega);have ak:a.drop i=x::a.drop (i+1):=by rw[X2 hi,(u4.1 Y).2]
  have al:b.drop i=y::b.drop (i+1):=by rw[X2 (by omega),(u4.1 Z).2]
  rw[ak,al] at I;simp only[gj] at I;simp only[bC,ag,aL];refine⟨fun ae=>⟨?_,E.trans ad⟩,fun am=>aj _ _ ⟨E.trans ad,fun j ao ap ah aa ab=>?_⟩⟩
  ·rw[I];by_cases h1:x<y
   ·rw[if_pos h1,if_pos h1]
   ·by_cases J:y<x
    ·rw[if_neg h1,if_pos J,if_neg h1,if_pos J]
    ·rw[if_neg h1,if_neg J] at ae;exact absurd rfl ae
  ·by_cases aq:j=i
   ·subst aq;rw[Y] at aa;rw[Z] at ab;cases aa;cases ab;have af:=X4.1 am;by_cases h1:x<y
    ·rw[if_pos h1] at af;omega
    ·by_cases J:y<x
     ·rw[if_neg h1,if_pos J] at af;omega
     ·omega
   ·exact V j ao ap (by omega) aa ab
 ·rintro _ X ai ⟨E,V⟩;simp only[au,show decide ((a.length:Int)<(a.length:Int))=false from decide_eq_false (by omega),aU];rw[aQ fj.u (U.ext E),aQ fj.u (W.ext E)];simp only[au,ag];refine⟨fun h=>by omega,fun _=>⟨?_,E⟩⟩;have I:gj a b=gj (a.drop a.length) (b.drop a.length):=tw V (by omega) (by omega);rw[I,List.drop_length];cases b.drop a.length <;> rfl
theorem CJ {a b:List Int} {w:x5} (U:iP a) (V:iP b):O y0 mN [di a,di b] w fun v w'=>Ext w w'∧v= .int .i64 (gj a b):=by
 have ac:∀ {c:List Int},iP c→(ints .i8 c).length=6:=fun h=>by simp[h.1]
 apply mN.enter;refine cc fun ad ae af Z E=>?_;refine cc fun ag ah ai W I=>?_;rw[w3] at E I;intro X J _ _;have E:=(E.ext W).ext J;have I:=I.ext J;rw[q1 bl.u dA.i (l:=0) (h:=6) (m:=6) hX hY eU (by omega) (by omega) (by omega),q1 bl.u dA.i (l:=0) (h:=6) (m:=6) hX hY eU (by omega) (by omega) (by omega)];rw[if_neg (by omega),if_neg (by omega)];have ls:∀ {g:Nat} {c:List Int},iP c→ak X g bl (ints .i8 c)→aG .i8 X (.slice (some ⟨g,0+0*1,none⟩) (6-0) (6-0)) c:=fun {g c} Y aa=>by
  unfold aG;refine⟨by simp,g,0,_,6,by rw[Y.1],by rw[Y.1];omega,by simp[maxLen],fun _=>rfl,aa.range⟩
 refine (CI (ls U E) (ls V I) (by rw[U.1,V.1])).mono ?_;rintro _ aj _ ⟨rfl,ab⟩;exact⟨((Z.trans W).trans J).trans ab,rfl⟩
end Go.Proofs.YtgbkinibgjmodaaGreatDoor
namespace Go.Vc
open Go Go.RowKit Go.Shelf Go.Proofs Go.Sort
theorem grown_of {w w':x5} (O:Ext w w') (E:cO w w'):∃ q os,w'=grow (w.drewN q) os:=by
 refine⟨w'.drawn-w.drawn,w'.heap.extract w.heap.size w'.heap.size,?_⟩;have I:∀ k,k<w.heap.size→w'.heap[k]? =w.heap[k]?:=fun k I=>by
  have J:w.heap[k]? =some w.heap[k]:=Array.getElem?_eq_getElem I;rw[J];cases U:fx w.heap[k] with
  |true=>exact O.bz k _ J U
  |false=>exact E.bz k _ J U
 have W:w'.heap=w.heap++w'.heap.extract w.heap.size w'.heap.size:=by
  apply Array.ext_getElem?;intro k;rw[Array.getElem?_append];by_cases h:k<w.heap.size
  ·rw[if_pos h,I k h]
  ·rw[if_neg h,Array.getElem?_extract];have:=O.size;by_cases V:k<w'.heap.size
   ·rw[if_pos (by omega)];congr 1;omega
   ·rw[if_neg (by omega),Array.getElem?_eq_none (by omega)]
 have h1:=E.os;have V:=E.tape.1;have X:=E.output;have Y:w.drawn+(w'.drawn-w.drawn)=w'.drawn:=by have:=E.tape.2;omega
 cases w';simp only[grow,x5.drewN] at*;subst h1 V X;rw[←W,Y]
section
variable {α:Type} [Inhabited α]
theorem xk (enc:α→List x4) (k:Nat) (E:∀ x,(enc x).length=k) (d:Array α):(flatK enc k d).toList=d.toList.flatMap enc:=by
 apply W0;intro t;by_cases h:t<d.size*k
 ·have J:0<k:=by
   rcases Nat.eq_zero_or_pos k with I|I
   ·rw[I] at h;simp at h
   ·exact I
  have O:t / k<d.size:=(Nat.div_lt_iff_lt_mul J).2 h;have U:=Nat.mod_lt t J;have V:(flatK enc k d).toList[t]? =some ((enc d[t / k]!)[t % k]!):=by
   rw[U8,Array.getElem?_eq_getElem (by simpa using h)];have:=get_flatK enc k d t h;rw[getElem!_pos _ t (by simpa using h)] at this;rw[this]
  have W:d.toList[t / k]? =some d[t / k]!:=by
   rw[U8,Array.getElem?_eq_getElem O,getElem!_pos d _ O]
  have X:(enc d[t / k]!)[t % k]? =some ((enc d[t / k]!)[t % k]!):=by
   generalize d[t / k]! =z;rw[x3 (by rw[E];exact U),getElem!_pos (enc z) _ (by rw[E];exact U)]
  have:=rC (f:=enc) (k:=k) (fun a _=>E a) W X;rw[V,←this];congr 1;rw[Nat.mul_comm];exact Nat.div_add_mod t k
 ·rw[Z7 (by simpa using h),Z7];rw[gi (k:=k) fun a _=>E a];simpa using h
theorem xl (enc:α→List x4) (k:Nat) (U:∀ x,(enc x).length=k) {w:x5} {g m:Nat} {e:o6} {cs:List x4} {d:Array α} {os:Array Obj} (I:ak w g e cs) (Y:d.size*k≤cs.length):
  ak (sortWorldK enc k w g 0 m d os) g e (d.toList.flatMap enc++cs.drop (d.size*k))∧ ∀ r,r<w.heap.size→r≠g→(sortWorldK enc k w g 0 m d os).heap[r]? =w.heap[r]?:=by
 have W:=I.lt;have V:∀ r,r<w.heap.size→(sortWorldK enc k w g 0 m d os).heap[r]? =(w.heap.modify g (onCells (putCells id 0 (flatK enc k d))))[r]?:=fun r J=>by
  show ((w.heap.modify g (onCells (putCells id 0 (flatK enc k d))))++os)[r]? =_;rw[Array.getElem?_append_left (by simpa using J)]
 refine⟨?_,fun r J X=>?_⟩
 ·unfold ak at I ⊢;rw[V g W,Array.getElem?_modify,if_pos rfl,I];show some (Obj.cells (putCells id 0 (flatK enc k d) cs.toArray) e (0,0))=_;refine congrArg some (congrArg (fun c=>Obj.cells c e (0,0)) ?_);apply Array.ext';apply W0;intro t;show _=(d.toList.flatMap enc++cs.drop (d.size*k))[t]?;rw[List.getElem?_append,gi (k:=k) fun a _=>U a,U8];unfold putCells;rw[Array.getElem?_mapIdx,List.getElem?_toArray];have O:d.toList.length=d.size:=rfl;by_cases E:t<d.size*k
  ·rw[if_pos (by rw[O];exact E),x3 (by omega),←xk enc k U,U8,Array.getElem?_eq_getElem (by simpa using E)];simp only[Z0,id];rw[if_pos (by simpa using E),Nat.sub_zero,getElem!_pos _ t (by simpa using E)]
  ·rw[if_neg (by rw[O];exact E),List.getElem?_drop,O,show d.size*k+(t-d.size*k)=t by omega];cases Z:cs[t]? with
   |none=>rfl
   |some x=>
    simp only[Z0];rw[if_neg (by simp;omega)]
 ·rw[V r J,Array.getElem?_modify,if_neg (Ne.symm X)]
end
theorem xm {P:X5} {V:Ren} (ai:SlLaysF0.n6 P V) {α:Type} {f:α→List x4} {k:Nat} {e:o6} {G:α→Prop} {num:α→Int} {cf:α→α→Int} {W:FuncId} {cap:Array x4}
  (aO:∀ w,(isAgg (V.t 24)).run P w= .ok true w) (aP:∀ w,(Go.sizeOf (V.t 24)).run P w= .ok k w) (h1:∀ a,G a→ ∀ u∈f a,u.oneCell'=true) (aj:∀ a,G a→(f a).length=k)
  (aQ:∀ a b,G a→G b→(cf a b<0↔num a<num b)) (ay:Enters P W) {w:x5} {g:Nat} {v:x4} {L:List α} (h:aZ f k e w g v L) (Y:∀ a∈L,G a) (az:L.length<65536)
  (aR:∀ al a b,am (fun r=>r=g) w al→G a→G b→O P W ([.agg (f a).toArray,.agg (f b).toArray]++cap.toList) al fun u aS=>Ext al aS∧u= .int .i64 (cf a b)):
  O P (V.f 6) [v,.func (.func W) #[] cap] w fun _ w'=>am (fun r=>leadsTo v r) w w'∧ ∃ M,M.Perm L∧(∀ (p q:Nat) (x y:α),p<q→M[p]? =some x→M[q]? =some y→num x≤num y)∧aZ f k e w' g v M:=by
 have aA:Enters P (V.f 6):=fun args w=>ai.f6.enters rfl args w;obtain⟨⟨bh,aT⟩,bi⟩:=id h;have aB:∀ p c,v= .slice p 0 c→L=[]→O P (V.f 6) [v,.func (.func W) #[] cap] w fun _ w'=>am (fun r=>leadsTo v r) w w'∧ ∃ M,M.Perm L∧(∀ (p q:Nat) (x y:α),p<q→M[p]? =some x→M[q]? =some y→num x≤num y)∧aZ f k e w' g v M:=fun p c Z az=>by
  refine .code aA ?_;rw[Z];refine (AnyF.slices_SortFunc_none ai p c _ w).mono ?_;rintro bj w' ⟨rfl,rfl⟩;refine⟨_,rfl,cO.refl _,am.refl _ _,L,.refl _,fun p q x y _ J=>by rw[az] at J;simp at J,by rw[←Z];exact h⟩
 rcases aT with⟨rfl,aU⟩|⟨c,cs,rfl,U,aC,hm,ao,aV⟩
 ·exact aB _ _ rfl (j5 aU)
 cases ap:L with
 |nil=>subst ap;exact aB _ _ rfl rfl
 |cons a0 bk=>
 rw[←ap];let β:={a:α // G a};have:Inhabited β:=⟨⟨a0,Y a0 (by rw[ap];exact .head _)⟩⟩;let enc:β→List x4:=fun x=>f x.1;let d:Array β:=(L.attach.map fun x=>(⟨x.1,Y x.1 x.2⟩:β)).toArray;have aD:d.toList.map Subtype.val=L:=by
  show (L.attach.map fun x=>(⟨x.1,Y x.1 x.2⟩:β)).map Subtype.val=L;rw[List.map_map];exact List.attach_map_subtype_val L
 have ad:d.size=L.length:=by simp[d]
 have X:∀ x:β,(enc x).length=k:=fun x=>aj x.1 x.2;have aW:d.toList.flatMap enc=L.flatMap f:=by
  have aa:=congrArg (fun l=>l.flatMap f) aD;rw[←aa];exact (List.flatMap_map Subtype.val f d.toList).symm
 have ae:d.size*k≤cs.length:=by rw[ad,ao];exact X6 k aC
 have aX:HoldsK enc k w g 0 d:=by
  intro j af;rw[size_flatK] at af;have aE:j<cs.length:=by omega
  have aq:(flatK enc k d)[j]! =cs[j]:=by
   have aa:(flatK enc k d).toList[j]? =some cs[j]:=by
    rw[xk enc k X,aW,←aV,Z8 (by rw[←ad];exact af),x3 aE]
   rw[U8] at aa;rw[getElem!_pos _ j (by simpa using af)];rw[Array.getElem?_eq_getElem (by simpa using af)] at aa;exact Z2 aa
  refine⟨?_,?_⟩
  ·show w.cell? ⟨g,0+j,none⟩=some ((flatK enc k d)[j]!);rw[aq];exact U.cell (o:=0+j) (by rw[V5];exact x3 aE)
  ·unfold x5.frozen?;unfold ak at U;rw[U];simp
 have ag:∀ x y:β,ltOf (fun x y:β=>cf x.1 y.1) x y=decide (num x.1<num y.1):=fun x y=>by
  unfold ltOf;exact decide_eq_decide.2 (aQ x.1 y.1 x.2 y.2)
 have aY:SWO (ltOf fun x y:β=>cf x.1 y.1):=
  ⟨fun x=>by rw[ag];simp,fun x y z p q=>by rw[ag] at*;simp at*;omega,fun x y z p q=>by rw[ag] at*;simp at*;omega⟩
 have aF:∀ m (d2:Array β) os,d2.size=d.size→am (fun r=>r=g) w (sortWorldK enc k w g 0 m d2 os)∧cO w (sortWorldK enc k w g 0 m d2 os):=fun m d2 os ab=>by
  obtain⟨bl,aG⟩:=xl enc k X (m:=m) (os:=os) U (d:=d2) (by rw[ab];exact ae);have aH:w.heap.size≤(sortWorldK enc k w g 0 m d2 os).heap.size:=by
   show w.heap.size≤((w.heap.modify g _)++os).size;simp
  refine⟨⟨aH,fun r o I _ au=>?_⟩,rfl,⟨rfl,Nat.le_add_right _ _⟩,rfl,aH,fun r o I ab=>?_⟩
  ·rw[aG r (l6.1 I).1 au];exact I
  ·have au:r≠g:=fun he=>by subst he;unfold ak at U;rw[U] at I;cases I;cases ab
   rw[aG r (l6.1 I).1 au];exact I
 have a1:CmpLays P W cap enc k (fun x y:β=>cf x.1 y.1) g 0 d.size w:=fun m os a2 ab x y=>by
  have J:=(aR _ x.1 y.1 (aF m a2 os ab).1 x.2 y.2).calls ay;have ac:([x4.agg (f x.1).toArray,.agg (f y.1).toArray]++cap.toList).toArray= #[.agg (enc x).toArray,.agg (enc y).toArray]++cap:=by
   apply Array.ext';simp[enc]
  rw[ac] at J;refine J.mono ?_;rintro _ w' ⟨_,rfl,a6,a7,rfl⟩;exact⟨rfl,grown_of a7 a6⟩
 have aI:=AnyQ.slices_SortFunc ai k aO aP enc X (fun x=>h1 x.1 x.2) (fun x y:β=>cf x.1 y.1) aY W cap g 0 c d w (fun args w=>ay args w) a1 aX U.lt (by rw[ad];omega);rw[ad] at aI;refine .code aA (aI.mono ?_);rintro _ w' ⟨rfl,E,n,os,⟨a8,_,Z⟩,ba,rfl⟩;have av:E.size=d.size:=a8;obtain⟨bb,bc⟩:=aF n E os av;obtain⟨bd,_⟩:=xl enc k X (m:=n) (os:=os) U (d:=E) (by rw[av];exact ae);have ah:(E.toList.map Subtype.val).Perm L:=by
  have aq:(E.extract 0 L.length).toList=E.toList:=by rw[show L.length=E.size by omega,Array.extract_size]
  have be:(d.extract 0 L.length).toList=d.toList:=by rw[show L.length=d.size by omega,Array.extract_size]
  rw[aq,be] at Z;rw[←aD];exact Z.map _
 have aJ:=ah.length_eq;refine⟨_,rfl,bc,bb.mono fun r _ I=>⟨_,_,_,rfl,I.symm⟩,E.toList.map Subtype.val,ah,fun p q x y bf J aK=>?_,⟨?_,.inr ⟨c,_,by rw[aJ],bd,by rw[aJ];exact aC,hm,?_,?_⟩⟩,fun a ac=>aj a (Y a (ah.mem_iff.1 ac))⟩
 ·rw[r9,Z6] at J aK;obtain⟨bm,aL,rfl⟩:=J;obtain⟨bn,aM,rfl⟩:=aK;rw[U8] at aL aM;have aN:=(l6.1 aL);have aw:=(l6.1 aM);have:=ba p q (Y1 _) bf (by have:=aw.1;omega);rw[getElem!_pos E p aN.1,getElem!_pos E q aw.1,aN.2,aw.2,ag] at this;simpa using this
 ·rw[gi (k:=k) fun a ac=>aj a (Y a (ah.mem_iff.1 ac))]
 ·have ax:(E.toList.flatMap enc).length=E.size*k:=by rw[gi (k:=k) fun a _=>X a];rfl
  rw[o5,ax,List.length_drop,av,ao];rw[ao] at ae;exact Nat.add_sub_cancel' ae
 ·have ax:(E.toList.flatMap enc).length=E.size*k:=by rw[gi (k:=k) fun a _=>X a];rfl
  have bg:(List.map Subtype.val E.toList).length*k=(E.toList.flatMap enc).length:=by rw[ax,o3];rfl
  rw[bg,List.take_left,List.flatMap_map]
end Go.Vc
namespace Go.Proofs
open Go.Shelf
def Tryz.tx:Go.Shelf.Ren:=⟨fun|6=>298|15=>181|14=>311|28=>237|29=>238|20=>326|21=>327|22=>328|23=>329|24=>330|25=>331|26=>332|27=>333|46=>341|47=>273|48=>274|49=>342|50=>343|57=>346|n=>n,fun|22=>365|24=>347|25=>364|3=>3|39=>278|0=>0|53=>340|55=>39|4=>4|46=>333|45=>332|50=>337|5=>5|9=>9|66=>375|70=>379|76=>400|77=>401|n=>n,fun|n=>n⟩
theorem Tryz.CK:Go.Proofs.SlLaysF0.n6 Tryz.prog Tryz.tx:={
 mixed:=by kernel_rfl,
 f6:=⟨Tryz.f298.name,by decide,Tryz.func298.trans (congrArg some (by kernel_rfl))⟩,
 f14:=⟨Tryz.f311.name,by decide,Tryz.func311.trans (congrArg some (by kernel_rfl))⟩,
 f15:=Tryz.func181.trans (congrArg some (by kernel_rfl)),
 f20:=⟨Tryz.f326.name,by decide,Tryz.func326.trans (congrArg some (by kernel_rfl))⟩,
 f21:=⟨Tryz.f327.name,by decide,Tryz.func327.trans (congrArg some (by kernel_rfl))⟩,
 f22:=⟨Tryz.f328.name,by decide,Tryz.func328.trans (congrArg some (by kernel_rfl))⟩,
 f23:=⟨Tryz.f329.name,by decide,Tryz.func329.trans (congrArg some (by kernel_rfl))⟩,
 f24:=⟨Tryz.f330.name,by decide,Tryz.func330.trans (congrArg some (by kernel_rfl))⟩,
 f25:=⟨Tryz.f331.name,by decide,Tryz.func331.trans (congrArg some (by kernel_rfl))⟩,
 f26:=⟨Tryz.f332.name,by decide,Tryz.func332.trans (congrArg some (by kernel_rfl))⟩,
 f27:=⟨Tryz.f333.name,by decide,Tryz.func333.trans (congrArg some (by kernel_rfl))⟩,
 f28:=Tryz.func237.trans (congrArg some (by kernel_rfl)),
 f29:=Tryz.func238.trans (congrArg some (by kernel_rfl)),
 f46:=⟨Tryz.f341.name,by decide,Tryz.func341.trans (congrArg some (by kernel_rfl))⟩,
 f47:=Tryz.func273.trans (congrArg some (by kernel_rfl)),
 f48:=Tryz.func274.trans (congrArg some (by kernel_rfl)),
 f49:=⟨Tryz.f342.name,by decide,Tryz.func342.trans (congrArg some (by kernel_rfl))⟩,
 f50:=⟨Tryz.f343.name,by decide,Tryz.func343.trans (congrArg some (by kernel_rfl))⟩,
 f57:=⟨Tryz.f346.name,by decide,Tryz.func346.trans (congrArg some (by kernel_rfl))⟩,
 t0:=Tryz.underlying0,
 a0:=Tryz.isAgg0,
 z0:=Tryz.sizeOf0,
 v0:=Tryz.zeroValue0,
 t3:=Tryz.underlying3,
 a3:=Tryz.isAgg3,
 z3:=Tryz.sizeOf3,
 v3:=Tryz.zeroValue3,
 t4:=Tryz.underlying4,
 a4:=Tryz.isAgg4,
 z4:=Tryz.sizeOf4,
 v4:=Tryz.zeroValue4,
 t5:=Tryz.underlying5,
 a5:=Tryz.isAgg5,
 z5:=Tryz.sizeOf5,
 v5:=Tryz.zeroValue5,
 t9:=Tryz.underlying9,
 a9:=Tryz.isAgg9,
 z9:=Tryz.sizeOf9,
 v9:=Tryz.zeroValue9,
 t22:=Tryz.underlying365,
 a22:=Tryz.isAgg365,
 z22:=Tryz.sizeOf365,
 v22:=Tryz.zeroValue365,
 t25:=Tryz.underlying364,
 a25:=Tryz.isAgg364,
 z25:=Tryz.sizeOf364,
 v25:=Tryz.zeroValue364,
 t39:=Tryz.underlying278,
 a39:=Tryz.isAgg278,
 z39:=Tryz.sizeOf278,
 v39:=Tryz.zeroValue278,
 t45:=Tryz.underlying332,
 a45:=Tryz.isAgg332,
 z45:=Tryz.sizeOf332,
 v45:=Tryz.zeroValue332,
 t46:=Tryz.underlying333,
 a46:=Tryz.isAgg333,
 z46:=Tryz.sizeOf333,
 v46:=Tryz.zeroValue333,
 t50:=Tryz.underlying337,
 a50:=Tryz.isAgg337,
 z50:=Tryz.sizeOf337,
 v50:=Tryz.zeroValue337,
 t53:=Tryz.underlying340,
 a53:=Tryz.isAgg340,
 z53:=Tryz.sizeOf340,
 v53:=Tryz.zeroValue340,
 t55:=Tryz.underlying39,
 a55:=Tryz.isAgg39,
 z55:=Tryz.sizeOf39,
 v55:=Tryz.zeroValue39,
 t66:=Tryz.underlying375,
 a66:=Tryz.isAgg375,
 z66:=Tryz.sizeOf375,
 v66:=Tryz.zeroValue375,
 t70:=Tryz.underlying379,
 a70:=Tryz.isAgg379,
 z70:=Tryz.sizeOf379,
 v70:=Tryz.zeroValue379,
 t76:=Tryz.underlying400,
 a76:=Tryz.isAgg400,
 z76:=Tryz.sizeOf400,
 v76:=Tryz.zeroValue400,
 t77:=Tryz.underlying401,
 a77:=Tryz.isAgg401,
 z77:=Tryz.sizeOf401,
 v77:=Tryz.zeroValue401}
def Tryz.tz:Go.Shelf.Ren:=⟨fun|6=>218|15=>181|14=>262|28=>237|29=>238|20=>287|21=>288|22=>289|23=>290|24=>291|25=>292|26=>293|27=>294|46=>306|47=>273|48=>274|49=>307|50=>308|57=>325|n=>n,fun|22=>306|24=>311|25=>318|3=>3|39=>278|0=>0|53=>340|55=>39|4=>4|46=>333|45=>332|50=>337|5=>5|9=>9|66=>375|70=>379|76=>400|77=>401|n=>n,fun|n=>n⟩
theorem Tryz.CL:Go.Proofs.SlLaysF0.n6 Tryz.prog Tryz.tz:={
 mixed:=by kernel_rfl,
 f6:=⟨Tryz.f218.name,by decide,Tryz.func218.trans (congrArg some (by kernel_rfl))⟩,
 f14:=⟨Tryz.f262.name,by decide,Tryz.func262.trans (congrArg some (by kernel_rfl))⟩,
 f15:=Tryz.func181.trans (congrArg some (by kernel_rfl)),
 f20:=⟨Tryz.f287.name,by decide,Tryz.func287.trans (congrArg some (by kernel_rfl))⟩,
 f21:=⟨Tryz.f288.name,by decide,Tryz.func288.trans (congrArg some (by kernel_rfl))⟩,
 f22:=⟨Tryz.f289.name,by decide,Tryz.func289.trans (congrArg some (by kernel_rfl))⟩,
 f23:=⟨Tryz.f290.name,by decide,Tryz.func290.trans (congrArg some (by kernel_rfl))⟩,
 f24:=⟨Tryz.f291.name,by decide,Tryz.func291.trans (congrArg some (by kernel_rfl))⟩,
 f25:=⟨Tryz.f292.name,by decide,Tryz.func292.trans (congrArg some (by kernel_rfl))⟩,
 f26:=⟨Tryz.f293.name,by decide,Tryz.func293.trans (congrArg some (by kernel_rfl))⟩,
 f27:=⟨Tryz.f294.name,by decide,Tryz.func294.trans (congrArg some (by kernel_rfl))⟩,
 f28:=Tryz.func237.trans (congrArg some (by kernel_rfl)),
 f29:=Tryz.func238.trans (congrArg some (by kernel_rfl)),
 f46:=⟨Tryz.f306.name,by decide,Tryz.func306.trans (congrArg some (by kernel_rfl))⟩,
 f47:=Tryz.func273.trans (congrArg some (by kernel_rfl)),
 f48:=Tryz.func274.trans (congrArg some (by kernel_rfl)),
 f49:=⟨Tryz.f307.name,by decide,Tryz.func307.trans (congrArg some (by kernel_rfl))⟩,
 f50:=⟨Tryz.f308.name,by decide,Tryz.func308.trans (congrArg some (by kernel_rfl))⟩,
 f57:=⟨Tryz.f325.name,by decide,Tryz.func325.trans (congrArg some (by kernel_rfl))⟩,
 t0:=Tryz.underlying0,
 a0:=Tryz.isAgg0,
 z0:=Tryz.sizeOf0,
 v0:=Tryz.zeroValue0,
 t3:=Tryz.underlying3,
 a3:=Tryz.isAgg3,
 z3:=Tryz.sizeOf3,
 v3:=Tryz.zeroValue3,
 t4:=Tryz.underlying4,
 a4:=Tryz.isAgg4,
 z4:=Tryz.sizeOf4,
 v4:=Tryz.zeroValue4,
 t5:=Tryz.underlying5,
 a5:=Tryz.isAgg5,
 z5:=Tryz.sizeOf5,
 v5:=Tryz.zeroValue5,
 t9:=Tryz.underlying9,
 a9:=Tryz.isAgg9,
 z9:=Tryz.sizeOf9,
 v9:=Tryz.zeroValue9,
 t22:=Tryz.underlying306,
 a22:=Tryz.isAgg306,
 z22:=Tryz.sizeOf306,
 v22:=Tryz.zeroValue306,
 t25:=Tryz.underlying318,
 a25:=Tryz.isAgg318,
 z25:=Tryz.sizeOf318,
 v25:=Tryz.zeroValue318,
 t39:=Tryz.underlying278,
 a39:=Tryz.isAgg278,
 z39:=Tryz.sizeOf278,
 v39:=Tryz.zeroValue278,
 t45:=Tryz.underlying332,
 a45:=Tryz.isAgg332,
 z45:=Tryz.sizeOf332,
 v45:=Tryz.zeroValue332,
 t46:=Tryz.underlying333,
 a46:=Tryz.isAgg333,
 z46:=Tryz.sizeOf333,
 v46:=Tryz.zeroValue333,
 t50:=Tryz.underlying337,
 a50:=Tryz.isAgg337,
 z50:=Tryz.sizeOf337,
 v50:=Tryz.zeroValue337,
 t53:=Tryz.underlying340,
 a53:=Tryz.isAgg340,
 z53:=Tryz.sizeOf340,
 v53:=Tryz.zeroValue340,
 t55:=Tryz.underlying39,
 a55:=Tryz.isAgg39,
 z55:=Tryz.sizeOf39,
 v55:=Tryz.zeroValue39,
 t66:=Tryz.underlying375,
 a66:=Tryz.isAgg375,
 z66:=Tryz.sizeOf375,
 v66:=Tryz.zeroValue375,
 t70:=Tryz.underlying379,
 a70:=Tryz.isAgg379,
 z70:=Tryz.sizeOf379,
 v70:=Tryz.zeroValue379,
 t76:=Tryz.underlying400,
 a76:=Tryz.isAgg400,
 z76:=Tryz.sizeOf400,
 v76:=Tryz.zeroValue400,
 t77:=Tryz.underlying401,
 a77:=Tryz.isAgg401,
 z77:=Tryz.sizeOf401,
 v77:=Tryz.zeroValue401}
theorem Tryz.CM (w:x5):(isAgg (Tryz.tx.t 24)).run Tryz.prog w= .ok true w:=Tryz.isAgg347 w
theorem Tryz.CN (w:x5):(Go.sizeOf (Tryz.tx.t 24)).run Tryz.prog w= .ok 6 w:=Tryz.sizeOf347 w
theorem Tryz.CO:Tryz.prog.funcs[264]? =some Tryz.f264:=Tryz.func264
theorem Tryz.CP (w:x5):(isAgg (Tryz.tz.t 24)).run Tryz.prog w= .ok true w:=Tryz.isAgg311 w
theorem Tryz.CQ (w:x5):(Go.sizeOf (Tryz.tz.t 24)).run Tryz.prog w= .ok 2 w:=Tryz.sizeOf311 w
theorem Tryz.CR:Tryz.prog.funcs[219]? =some Tryz.f219:=Tryz.func219
end Go.Proofs
namespace Go.Proofs.YtgbkinibgjmodaaGreatDoor
open Go Go.Vc Go.RowKit Go.Proofs Go.Proofs.Tryz
set_option maxRecDepth 100000
def rF {α:Type} (f:α→Int) (L:List α) (a i:Nat):Prop:=∀ (p q:Nat) (x y:α),a≤p→p<q→q<i→L[p]? =some x→L[q]? =some y→f x≤f y
def nk (L:List (List Int)):Prop:=∀ ks∈L,iP ks
theorem nk.perm {L M:List (List Int)} (h:nk L) (E:M.Perm L):nk M:=fun ks I=>h ks (E.mem_iff.1 I)
theorem CS {w:x5} {g:Nat} {v:x4} {L:List (List Int)} {i:Nat} {y:Int} {ks:List Int} {K:x4→Prop} (E:y=(i:Int)) (h:lH w g v L) (hi:L[i]? =some ks):
  I y0 (x7 er v (.int .i64 y)) w (fun p=>I y0 (x1 bl p) w K)=K (di ks):=by
 have J:ks.length=6:=by have:=h.2 ks (u5 hi);simpa using this
 rw[cT E er.u bl.i h (u4.1 hi).1,lG J (h.range hi)]
abbrev xn:x4:=.func (.func mN) #[] #[]
theorem rG {P:X5} {w:x5} {t:o6} {k:o8} {s:ByteArray} {i:Nat} {K:x4→Prop} (E:P.underlying t=some .string) (hi:i<s.size):
  I P (Y2 t (.string s) (.int k (i:Int))) w K=K (.int .u8 (s[i].toNat:Int)):=I.of fun w' _=>by
 simp[Y2,asIntOf,run_underlying E,hi]
def dy (n:Nat):Nat:=if n=0 then 0 else Nat.log2 n+1
theorem xo {n:Nat} (h:n<256):dy n≤8:=by
 unfold dy;by_cases E:n=0
 ·rw[if_pos E];omega
 ·rw[if_neg E];have I:Nat.log2 n<8:=(Nat.log2_lt E).2 (by omega);omega
set_option maxHeartbeats 1000000 in
theorem CT {w:x5} {g:Nat} {v:x4} {L:List (List Int)} (h:lH w g v L) (J:nk L) (U:L.length<65536):
  O y0 vd [v,xn] w fun _ w'=>am (fun r=>leadsTo v r) w w'∧ ∃ M,M.Perm L∧rF eZ M 0 M.length∧lH w' g v M:=by
 refine (xm CK (G:=iP) (num:=eZ) (cf:=gj) (cap:=#[]) CM CN (fun a _=>xh) (fun a E=>by simp[E.1]) (fun a b E I=>(xi a b (by rw[E.1,I.1]) E.2 I.2).1) (Enters.of y0 CO rfl (by kernel_rfl)) h J U fun aa a b _ E I=>CJ E I).mono ?_;rintro _ w' _ ⟨V,M,W,hu,hm⟩;exact⟨V,M,W,fun p q x y _ X _ Y Z=>hu p q x y X Y Z,hm⟩
end Go.Proofs.YtgbkinibgjmodaaGreatDoor
namespace Go.Vc
open Go Go.RowKit
set_option maxRecDepth 100000
theorem Keys.str {P:X5} {k:o6} (E:P.underlying k=some .string):Keys P k fun v=>∃ s,v= .string s:=by
 have key:∀ s,MapKept.IsKey .string (.string s):=fun s=>trivial;refine⟨fun w J v ⟨n,h⟩=>?_,fun w x ⟨n,h⟩ O U=>?_,fun w v ⟨n,h⟩=>?_⟩
 ·subst h;exact MapKept.run_checkKey E (key n) J 9999
 ·subst h;rcases MapKept.findNow_spec (key n) O 0 (fun e he=>by obtain⟨m,h⟩:=U e he;rw[h];exact key m) with⟨h1,I⟩|⟨j,e,h1,I,V⟩
  ·exact .inl ⟨MapKept.run_findKey E h1,I⟩
  ·exact .inr ⟨j,e,by have:=MapKept.run_findKey (P:=P) (w:=w) E h1;simpa using this,I,V⟩
 ·subst h;exact MapKept.run_keyThatStays (d:=.string) (key n)
section
variable {P:X5} {w:x5}
theorem lI {s:Sem x4} {v:x4} (h:∀ K:x4→Prop,I P s w K=K v):ai P s v w:=by
 have h1:I P s w (fun u=>u=v):=(h fun u=>u=v).mpr rfl;obtain⟨u,hu,rfl⟩:=h1;exact hu
variable {k e:o6} {G:x4→Prop}
end
end Go.Vc
namespace Go.Proofs.YtgbkinibgjmodaaGreatDoor
open Go Go.Vc Go.RowKit Go.Proofs Go.Proofs.Tryz
set_option maxRecDepth 100000
def fb:Nat→Nat→List Int
 |0,_=>[]
 |n+1,u=>fb n (u / 10)++[48+((u % 10:Nat):Int)]
theorem pV:∀ (n u:Nat),(fb n u).length=n
 |0,_=>rfl
 |n+1,u=>by rw[fb,o5,pV n];rfl
theorem CU (n u:Nat):fb (n+2) u=fb n (u / 100)++[48+((u / 10 % 10:Nat):Int),48+((u % 10:Nat):Int)]:=by
 rw[fb,fb,V0];rw[show u / 10 / 10=u / 100 by omega];rfl
theorem xp:∀ (n u:Nat),10 ^ n≤u→u<10 ^ (n+1)→fb (n+1) u=et u
 |0,u,h1,E=>by
  rw[lC,if_pos (by simpa using E)];simp[fb]
 |n+1,u,h1,E=>by
  have I:(10:Nat) ^ (n+1)=10*10 ^ n:=by rw[Nat.pow_succ,Nat.mul_comm]
  have J:(10:Nat) ^ (n+1+1)=10*10 ^ (n+1):=by rw[Nat.pow_succ,Nat.mul_comm]
  have O:1≤10 ^ n:=Nat.one_le_iff_ne_zero.2 (by simp);rw[lC,if_neg (by omega),fb,xp n (u / 10) (by omega) (by omega)]
def e0 (E C:List Int) (nd u:Nat):Prop:=nd≤E.length∧C.length=E.length∧ ∃ t,C.drop nd=t∧E=fb nd u++t
theorem e0.two {E C:List Int} {nd u:Nat} (h:e0 E C (nd+2) u):e0 E ((C.set (nd+1) (48+((u % 10:Nat):Int))).set nd (48+((u / 10 % 10:Nat):Int))) nd (u / 100):=by
 obtain⟨h1,I,t,J,O⟩:=h;refine⟨by omega,by simp[I],_,rfl,?_⟩;rw[O,CU,V0];congr 1;rw[List.drop_set,if_neg (by omega),List.drop_set,if_neg (by omega),←J];have U:nd<C.length:=by omega
 have V:nd+1<C.length:=by omega
 rw[X2 U,X2 V,W7,Nat.add_sub_cancel_left];rfl
theorem e0.one {E C:List Int} {u:Nat} (h:e0 E C 1 u):C.set 0 (48+((u % 10:Nat):Int))=E:=by
 obtain⟨h1,I,t,J,O⟩:=h;rw[O,fb,fb,List.nil_append,←J];cases C with
 |nil=>simp at I;omega
 |cons c C=>simp
theorem e0.zero {E C:List Int} {u:Nat} (h:e0 E C 0 u):C=E:=by
 obtain⟨h1,O,t,I,J⟩:=h;rw[J,fb,List.nil_append,←I,List.drop_zero]
def hv:ByteArray:=⟨#[48,48,48,49,48,50,48,51,48,52,48,53,48,54,48,55,48,56,48,57,49,48,49,49,49,50,49,51,49,52,49,53,49,54,49,55,49,56,49,57,50,48,50,49,50,50,50,51,50,52,50,53,50,54,50,55,50,56,50,57,51,48,51,49,51,50,51,51,51,52,51,53,51,54,51,55,51,56,51,57,52,48,52,49,52,50,52,51,52,52,52,53,52,54,52,55,52,56,52,57,53,48,53,49,53,50,53,51,53,52,53,53,53,54,53,55,53,56,53,57,54,48,54,49,54,50,54,51,54,52,54,53,54,54,54,55,54,56,54,57,55,48,55,49,55,50,55,51,55,52,55,53,55,54,55,55,55,56,55,57,56,48,56,49,56,50,56,51,56,52,56,53,56,54,56,55,56,56,56,57,57,48,57,49,57,50,57,51,57,52,57,53,57,54,57,55,57,56,57,57]⟩
theorem xq:hv.size=200:=by decide+kernel
theorem CV:∀ q:Fin 100,hv.data.toList[2*q.val]? =some (UInt8.ofNat (48+q.val / 10))∧hv.data.toList[2*q.val+1]? =some (UInt8.ofNat (48+q.val % 10)):=by decide+kernel
theorem tA {q:Nat} (I:q<100):(∀ h,(hv[2*q]'h).toNat=48+q / 10)∧ ∀ h,(hv[2*q+1]'h).toNat=48+q % 10:=by
 obtain⟨h1,J⟩:=CV ⟨q,I⟩;refine⟨fun h=>?_,fun h=>?_⟩
 ·have E:=(u4.1 h1).2;have:hv[2*q]=UInt8.ofNat (48+q / 10):=E;rw[this,UInt8.toNat_ofNat'];omega
 ·have E:=(u4.1 J).2;have:hv[2*q+1]=UInt8.ofNat (48+q % 10):=E;rw[this,UInt8.toNat_ofNat'];omega
theorem wrap_u32 {x:Int} (h1:0≤x) (E:x<4294967296):o8.u32.wrap x=x:=by
 simp[o8.wrap,o8.bits,o8.signed];omega
def hx (w:x5) (g o:Nat) (E C I:List Int):Prop:=ak w g gU (ints .u8 (E++C++I))∧E.length=o
theorem tB {w:x5} {g o n c i:Nat} {y:Int} {E:o8} {K:x4→Prop} (J:y=(i:Int)) (hi:i<n):
  I y0 (x7 aX (.slice (some ⟨g,o,none⟩) n c) (.int E y)) w K=K (.pointer (some ⟨g,o+i,none⟩)):=by
 subst J;rw[gx aX.u bi.i hi (fun _=>rfl),T0]
theorem tC {w:x5} {g o i:Nat} {x:Int} {E C I:List Int} {K:Unit→x5→Prop} (J:hx w g o E C I) (hi:i<C.length)
  (U:∀ w',am (fun r=>r=g) w w'→hx w' g o E (C.set i x) I→K () w'):aa y0 (x6 bi (.pointer (some ⟨g,o+i,none⟩)) (.int .u8 x)) w K:=by
 obtain⟨J,rfl⟩:=J;refine bH (g:=g) (o:=E.length+i) bi.i rfl rfl J (by simp;omega) fun w' V W O=>U w' V ⟨?_,rfl⟩;have e:(ints .u8 (E++C++I)).set (E.length+i) (.int .u8 x)=ints .u8 (E++C.set i x++I):=by
  unfold ints;rw[←List.map_set,V0,T2 _ _ (by omega),Nat.add_sub_cancel_left,List.set_append_left _ _ hi,V0]
 rw[e] at O;exact O
theorem lJ {w:x5} {g o n c nd q i:Nat} {ac V t:Int} {W C X:List Int} {K:x5→Prop} (ae:hx w g o W C X) (aD:C.length=n) (aE:n≤1000) (aF:nd≤n) (h1:(nd:Int)-ac=((i+1:Nat):Int)) (aj:(nd:Int)-V=(i:Int)) (ak:i+1<n) (al:t=((2*q:Nat):Int)) (Y:q<100)
  (ao:∀ w',am (fun r=>r=g) w w'→hx w' g o W ((C.set (i+1) (48+((q % 10:Nat):Int))).set i (48+((q / 10:Nat):Int))) X→K w'):
  aS w fun E=>
  I y0 (U .sub J false true (.int .i64 (nd:Int)) (.int .i64 ac)) E fun ap=>
  I y0 (U .sub J false true (.int .i64 (nd:Int)) (.int .i64 V)) E fun af=>
  I y0 (U .add cZ false true (.int .u32 t) (.int .u32 1)) E fun aq=>
  I y0 (Y2 a1 (.string hv) aq) E fun t50=>
  I y0 (Y2 a1 (.string hv) (.int .u32 t)) E fun ag=>
  I y0 (x7 aX (.slice (some ⟨g,o,none⟩) n c) ap) E fun t53=>
  aa y0 (x6 bi t53 t50) E fun(_:Unit) O=>
   (Ext E O∨ai y0 (Y2 a1 (.string hv) (.int .u32 t)) ag O∧ai y0 (U .sub J false true (.int .i64 (nd:Int)) (.int .i64 V)) af O∧True)∧
  I y0 (x7 aX (.slice (some ⟨g,o,none⟩) n c) af) O fun au=>
   aa y0 (x6 bi au ag) O fun(_:Unit) Z=>K Z:=by
 subst al;intro E ah _ _;have av:am (fun r=>r=g) w E:=ah.ad _;have aw:hx E g o W C X:=⟨ae.1.ext ah,ae.2⟩;rw[dw,wrap_i64 (by omega) (by omega),dw,wrap_i64 (by omega) (by omega),aL,wrap_u32 (by omega) (by omega)];rw[show ((2*q:Nat):Int)+1=((2*q+1:Nat):Int) by omega];have ab:=xq;rw[rG a1.u (by rw[ab];omega),rG a1.u (by rw[ab];omega)];rw[(tA Y).1,(tA Y).2,tB h1 ak];refine tC aw (by omega) fun O ax ay=>⟨.inr ⟨lI fun K=>?_,lI fun K=>?_,trivial⟩,?_⟩
 ·rw[rG a1.u (by rw[ab];omega),(tA Y).1]
 ·rw[dw,wrap_i64 (by omega) (by omega)]
 ·rw[tB aj (by omega)];refine tC ay (by simp;omega) fun Z az aA=>ao Z ((av.trans ax).trans az) ?_;have aB:48+((q % 10:Nat):Int)=((48+q % 10:Nat):Int):=by omega
  have aC:48+((q / 10:Nat):Int)=((48+q / 10:Nat):Int):=by omega
  rw[aB,aC];exact aA
theorem e0.pair {E C:List Int} {nd u q:Nat} (h:e0 E C (nd+2) u) (I:q=u % 100):e0 E ((C.set (nd+1) (48+((q % 10:Nat):Int))).set nd (48+((q / 10:Nat):Int))) nd (u / 100):=by
 have:=h.two;rw[show u % 10=q % 10 by omega,show u / 10 % 10=q / 10 by omega] at this;exact this
theorem lK {t:o6} {cx cy:Bool} {k:o8} {a b:Nat} {K:x4→Prop} {w:x5} (E:b≠0):I y0 (U .rem t cx cy (.int k (a:Int)) (.int k (b:Int))) w K=K (.int k ((a % b:Nat):Int)):=by
 rw[vi (by omega),Int.tmod_eq_emod_of_nonneg (by omega),Int.natCast_emod]
theorem u32_quo {t:o6} {cx cy:Bool} {a b:Nat} {K:x4→Prop} {w:x5} (E:b≠0) (J:a<4294967296):I y0 (U .quo t cx cy (.int .u32 (a:Int)) (.int .u32 (b:Int))) w K=K (.int .u32 ((a / b:Nat):Int)):=by
 have:=Nat.div_le_self a b;rw[qV (by omega),Int.tdiv_eq_ediv_of_nonneg (by omega),←Int.natCast_ediv];generalize a / b=m at this ⊢;rw[wrap_u32 (by omega) (by omega)]
theorem u64_quo {t:o6} {cx cy:Bool} {a b:Nat} {K:x4→Prop} {w:x5} (E:b≠0) (J:a<18446744073709551616):I y0 (U .quo t cx cy (.int .u64 (a:Int)) (.int .u64 (b:Int))) w K=K (.int .u64 ((a / b:Nat):Int)):=by
 have:=Nat.div_le_self a b;rw[qV (by omega),Int.tdiv_eq_ediv_of_nonneg (by omega),←Int.natCast_ediv];generalize a / b=m at this ⊢;rw[wrap_u64 (by omega) (by omega)]
theorem lL {t:o6} {cx cy:Bool} {a b:Nat} {K:x4→Prop} {w:x5} (E:a*b<4294967296):I y0 (U .mul t cx cy (.int .u32 (a:Int)) (.int .u32 (b:Int))) w K=K (.int .u32 ((a*b:Nat):Int)):=by
 have e:(a:Int)*(b:Int)=((a*b:Nat):Int):=by simp
 rw[fZ,e];generalize a*b=m at E ⊢;rw[wrap_u32 (by omega) (by omega)]
theorem e0.start {N u:Nat} {C:List Int} (h:C.length=N):e0 (fb N u) C N u:=⟨by rw[pV];omega,by rw[pV,h],[],by rw[List.drop_eq_nil_iff];omega,by simp⟩
set_option maxHeartbeats 4000000 in
theorem CW {w:x5} {g o N c u:Nat} {ac C ad:List Int} (aH:hx w g o ac C ad) (aI:C.length=N) (aU:N≤19) (hu:u<10 ^ N):
  O y0 pj [.slice (some ⟨g,o,none⟩) N c,.int .u64 (u:Int)] w fun v w'=>v= .tuple #[]∧am (fun r=>r=g) w w'∧hx w' g o ac (fb N u) ad:=by
 have X:=pV N u;apply pj.enter;rw[ga aX.u];refine⟨fun aJ aq au=>∃ E nd:Nat,aJ= .int .u64 (E:Int)∧aq= .int .i64 (nd:Int)∧E<10 ^ nd∧nd≤N∧am (fun r=>r=g) w au∧ ∃ ae,hx au g o ac ae ad∧e0 (fb N u) ae nd E,
  fun _ aq _=>(bQ aq).toNat,⟨u,N,rfl,rfl,hu,o7 _,am.refl _ _,C,aH,e0.start aI⟩,?_⟩
 rintro _ _ au ⟨E,nd,rfl,rfl,af,Y,av,ae,aw,al⟩;have aD:ae.length=N:=by rw[al.2.1,X]
 have aV:(10:Nat) ^ nd≤10 ^ 19:=Nat.pow_le_pow_right (by omega) (by omega);have aK:E<18446744073709551616:=by omega
 have aW:(8:Int)=((8:Nat):Int):=rfl;rw[cw,ag];refine⟨fun aM=>?_,fun aM=>?_⟩
 ·obtain⟨m,rfl⟩:∃ m,nd=m+8:=⟨nd-8,by omega⟩;have aY:E % 100000000<100000000:=Nat.mod_lt _ (by omega);rw[show X7 .u64 100000000=X7 .u64 ((100000000:Nat):Int) from rfl,lK (by omega),fC bG.u cZ.u,wrap_u32 (by omega) (by omega),u64_quo (by omega) aK];rw[show X7 .u32 10000=X7 .u32 ((10000:Nat):Int) from rfl,show X7 .u32 100=X7 .u32 ((100:Nat):Int) from rfl,show X7 .u32 2=X7 .u32 ((2:Nat):Int) from rfl];rw[u32_quo (by omega) (by omega),lK (by omega),u32_quo (by omega) (by omega),lL (by omega),lK (by omega),lL (by omega),u32_quo (by omega) (by omega),lL (by omega),lK (by omega),lL (by omega)];refine lJ (i:=m+6) (q:=E % 100000000 % 10000 % 100) aw aD (by omega) Y (by omega) (by omega) (by omega) (by omega) (by omega) fun ah Z aa=>?_;have J:=al.pair (q:=E % 100000000 % 10000 % 100) (by omega);have ai:=J.2.1.trans X;refine lJ (i:=m+4) (q:=E % 100000000 % 10000 / 100) aa ai (by omega) Y (by omega) (by omega) (by omega) (by omega) (by omega) fun ab V U=>?_;have I:=e0.pair (nd:=m+4) (q:=E % 100000000 % 10000 / 100) J (by omega);have aE:=I.2.1.trans X;refine lJ (i:=m+2) (q:=E % 100000000 / 10000 % 100) U aE (by omega) Y (by omega) (by omega) (by omega) (by omega) (by omega) fun aN ax ao=>?_;have aF:=e0.pair (nd:=m+2) (q:=E % 100000000 / 10000 % 100) I (by omega);have aO:=aF.2.1.trans X;refine lJ (i:=m) (q:=E % 100000000 / 10000 / 100) ao aO (by omega) Y (by omega) (by omega) (by omega) (by omega) (by omega) fun aZ aP aQ=>?_;have aG:=e0.pair (nd:=m) (q:=E % 100000000 / 10000 / 100) aF (by omega);rw[dw,wrap_i64 (by omega) (by omega)];refine⟨⟨E / 100000000,m,rfl,by congr 1;omega,?_,by omega,(((av.trans Z).trans V).trans ax).trans aP,_,aQ,?_⟩,by simp only[bQ];omega⟩
  ·rw[Nat.pow_add] at af;exact Nat.div_lt_of_lt_mul (by rw[Nat.mul_comm];exact af)
  ·rw[show E / 100 / 100 / 100 / 100=E / 100000000 by omega] at aG;exact aG
 ·have a1:nd<8:=by omega
  have a2:(10:Nat) ^ nd≤10 ^ 7:=Nat.pow_le_pow_right (by omega) (by omega);rw[fC bG.u cZ.u,wrap_u32 (by omega) (by omega)];refine iH (fun a b ah=>∃ W m:Nat,a= .int .i64 (m:Int)∧b= .int .u32 (W:Int)∧W<10 ^ m∧m<4∧m≤N∧am (fun r=>r=g) w ah∧ ∃ ap,hx ah g o ac ap ad∧e0 (fb N u) ap m W) ?_ ?_
  rotate_left
  ·intro aR aj;rw[cw,ag];refine⟨fun ay=>?_,fun ay=>aj _ _ _ ⟨E,nd,rfl,rfl,af,by omega,Y,av,ae,aw,al⟩⟩;obtain⟨m,rfl⟩:∃ m,nd=m+4:=⟨nd-4,by omega⟩;rw[show X7 .u32 10000=X7 .u32 ((10000:Nat):Int) from rfl,show X7 .u32 100=X7 .u32 ((100:Nat):Int) from rfl,show X7 .u32 2=X7 .u32 ((2:Nat):Int) from rfl];rw[lK (by omega),u32_quo (by omega) (by omega),u32_quo (by omega) (by omega),lL (by omega),lK (by omega),lL (by omega)];refine lJ (i:=m+2) (q:=E % 10000 % 100) aw aD (by omega) Y (by omega) (by omega) (by omega) (by omega) (by omega) fun ah Z aa=>?_;have J:=al.pair (q:=E % 10000 % 100) (by omega);have ai:=J.2.1.trans X;refine lJ (i:=m) (q:=E % 10000 / 100) aa ai (by omega) Y (by omega) (by omega) (by omega) (by omega) (by omega) fun ab V U=>?_;have I:=e0.pair (nd:=m) (q:=E % 10000 / 100) J (by omega);rw[dw,wrap_i64 (by omega) (by omega)];refine aj _ _ _ ⟨E / 10000,m,by congr 1;omega,rfl,?_,by omega,by omega,(av.trans Z).trans V,_,U,?_⟩
   ·rw[Nat.pow_add] at af;exact Nat.div_lt_of_lt_mul (by rw[Nat.mul_comm];exact af)
   ·rw[show E / 100 / 100=E / 10000 by omega] at I;exact I
  rintro _ _ ah ⟨W,m,rfl,rfl,az,a6,aA,Z,ap,aa,J⟩;have ai:=J.2.1.trans X;have a7:(10:Nat) ^ m≤10 ^ 3:=Nat.pow_le_pow_right (by omega) (by omega);refine iH (fun a b ab=>∃ ak m:Nat,a= .int .i64 (m:Int)∧b= .int .u32 (ak:Int)∧ak<10 ^ m∧m<2∧m≤N∧am (fun r=>r=g) w ab∧ ∃ aB,hx ab g o ac aB ad∧e0 (fb N u) aB m ak) ?_ ?_
  rotate_left
  ·intro aR aj;rw[cw,ag];refine⟨fun ay=>?_,fun ay=>aj _ _ _ ⟨W,m,rfl,rfl,az,by omega,aA,Z,ap,aa,J⟩⟩;obtain⟨m,rfl⟩:∃ aS,m=aS+2:=⟨m-2,by omega⟩;rw[show X7 .u32 100=X7 .u32 ((100:Nat):Int) from rfl,show X7 .u32 2=X7 .u32 ((2:Nat):Int) from rfl];rw[lK (by omega),lL (by omega),u32_quo (by omega) (by omega)];refine lJ (i:=m) (q:=W % 100) aa ai (by omega) aA (by omega) (by omega) (by omega) (by omega) (by omega) fun ab V U=>?_;have I:=J.pair (q:=W % 100) rfl;rw[dw,wrap_i64 (by omega) (by omega)];refine aj _ _ _ ⟨W / 100,m,by congr 1;omega,rfl,?_,by omega,by omega,Z.trans V,_,U,I⟩;rw[Nat.pow_add] at az;exact Nat.div_lt_of_lt_mul (by rw[Nat.mul_comm];exact az)
  rintro _ _ ab ⟨ak,m,rfl,rfl,aC,a8,aA,V,aB,U,I⟩;have aE:=I.2.1.trans X;rw[bT,ag];refine⟨fun aT=>?_,fun aT=>?_⟩
  ·obtain rfl:m=1:=by omega
   have aC:ak<10:=by simpa using aC
   rw[aL,wrap_u32 (by omega) (by omega),fC cZ.u bi.u,wrap_u8 (by omega) (by omega),tB (y:=0) (i:=0) rfl (by omega)];refine tC U (by omega) fun aN ax ao=>?_;have:=I.one;rw[Nat.mod_eq_of_lt aC] at this;rw[this] at ao;exact⟨rfl,V.trans ax,ao⟩
  ·obtain rfl:m=0:=by omega
   rw[I.zero] at U;exact⟨rfl,V,U⟩
def pW:List Int:=[1,10,100,1000,10000,100000,1000000,10000000,100000000,1000000000,10000000000,100000000000,1000000000000,10000000000000,100000000000000,1000000000000000,10000000000000000,100000000000000000,1000000000000000000,10000000000000000000]
def eF (w:x5):Prop:=w.rangeAt 1 0 (ints .u64 pW)
theorem eF.ext {w w':x5} (h:eF w) (E:Ext w w'):eF w':=pn E h
theorem CX:∀ k:Nat,k<20→pW[k]? =some (((10 ^ k:Nat)):Int):=by decide
theorem xr {n s:Nat} (h:2 ^ s≤n):dy n=s+dy (n / 2 ^ s):=by
 have E:=Nat.two_pow_pos s;have h1:n / 2 ^ s≠0:=by have:=Nat.div_pos h E;omega
 have I:n≠0:=by omega
 unfold dy;rw[if_neg I,if_neg h1];have e:Nat.log2 n=Nat.log2 (n / 2 ^ s)+s:=by
  refine (Nat.log2_eq_iff I).2 ⟨?_,?_⟩
  ·rw[Nat.pow_add];have:=X6 (2 ^ s) (Nat.log2_self_le h1);have:=Nat.div_mul_le_self n (2 ^ s);omega
  ·have J:=Nat.lt_log2_self (n:=n / 2 ^ s);rw[show Nat.log2 (n / 2 ^ s)+s+1=(Nat.log2 (n / 2 ^ s)+1)+s by omega,Nat.pow_add];have:=X6 (2 ^ s) (show n / 2 ^ s+1≤2 ^ (Nat.log2 (n / 2 ^ s)+1) by omega);have O:=Nat.lt_div_mul_add E (a:=n);rw[V1] at this;omega
 omega
def pX:ByteArray:=⟨#[0,1,2,2,3,3,3,3,4,4,4,4,4,4,4,4,5,5,5,5,5,5,5,5,5,5,5,5,5,5,5,5,6,6,6,6,6,6,6,6,6,6,6,6,6,6,6,6,6,6,6,6,6,6,6,6,6,6,6,6,6,6,6,6,7,7,7,7,7,7,7,7,7,7,7,7,7,7,7,7,7,7,7,7,7,7,7,7,7,7,7,7,7,7,7,7,7,7,7,7,7,7,7,7,7,7,7,7,7,7,7,7,7,7,7,7,7,7,7,7,7,7,7,7,7,7,7,7,8,8,8,8,8,8,8,8,8,8,8,8,8,8,8,8,8,8,8,8,8,8,8,8,8,8,8,8,8,8,8,8,8,8,8,8,8,8,8,8,8,8,8,8,8,8,8,8,8,8,8,8,8,8,8,8,8,8,8,8,8,8,8,8,8,8,8,8,8,8,8,8,8,8,8,8,8,8,8,8,8,8,8,8,8,8,8,8,8,8,8,8,8,8,8,8,8,8,8,8,8,8,8,8,8,8,8,8,8,8,8,8,8,8,8,8,8,8,8,8,8,8,8,8,8,8,8,8]⟩
theorem CY:pX.size=256:=by decide+kernel
theorem CZ:∀ q:Fin 256,pX.data.toList[q.val]? =some (UInt8.ofNat (dy q.val)):=by decide+kernel
theorem C0 {q:Nat} (E:q<256):∀ h,(pX[q]'h).toNat=dy q:=fun h=>by
 have h1:=CZ ⟨q,E⟩;have I:=(u4.1 h1).2;have:pX[q]=UInt8.ofNat (dy q):=I;have J:=xo E;rw[this,UInt8.toNat_ofNat'];omega
theorem C1 {n:Nat} {w:x5} (ak:n<18446744073709551616):O y0 k7 [.int .u64 (n:Int)] w fun v w'=>v= .int .i64 (dy n:Int)∧Ext w w':=by
 apply k7.enter;have step:∀ {s x m:Nat} {X:x4→x4→x5→Prop} {y c:Int},s<64→x<18446744073709551616→m+dy x=dy n→m≤64→y=(2 ^ s:Nat)→c=(s:Int)→2 ^ s≤18446744073709551615→(∀ E V:Nat,E<2 ^ s∨(E=x / 2 ^ s∧V=m+s)→E≤x→V+dy E=dy n→V≤m+s→X (.int .u64 (E:Int)) (.int .i64 (V:Int)) w)→
   I y0 (U .geq bG false true (.int .u64 (x:Int)) (.int .u64 y)) w fun t4=>
    Split t4 (I y0 (U .shr bG false true (.int .u64 (x:Int)) (.int .u64 c)) w fun ae=>I y0 (U .add J false true (.int .i64 (m:Int)) (.int .i64 c)) w fun af=>X ae af w) (X (.int .u64 (x:Int)) (.int .i64 (m:Int)) w):=by
  intro s x m X y c aa Y hm al ah ai ac W;subst ah ai;rw[cw,ag];refine⟨fun h=>?_,fun h=>W x m (.inl (by omega)) (o7 _) hm (by omega)⟩;rw[tb aa,aL,wrap_i64 (by omega) (by omega)];have:=xr (n:=x) (s:=s) (by omega);have:=W (x / 2 ^ s) (m+s) (.inr ⟨rfl,rfl⟩) (Nat.div_le_self _ _) (by omega) (by omega);exact this
 refine iH (fun x m Z=>w=Z∧ ∃ E V:Nat,x= .int .u64 (E:Int)∧m= .int .i64 (V:Int)∧E<4294967296∧V+dy E=dy n∧V≤32) ?_ ?_
 rotate_left
 ·intro X W;rw[cw,ag];refine⟨fun h=>?_,fun h=>W _ _ _ ⟨rfl,n,0,rfl,rfl,by omega,by omega,by omega⟩⟩;rw[show X7 .u64 32=X7 .u64 ((32:Nat):Int) from rfl,tb (by omega)];have:=xr (n:=n) (s:=32) (by omega);exact W _ _ _ ⟨rfl,n / 2 ^ 32,32,rfl,rfl,by omega,by omega,by omega⟩
 rintro _ _ _ ⟨rfl,x,m,rfl,rfl,Y,hm,ad⟩;refine iH (fun x m Z=>w=Z∧ ∃ E V:Nat,x= .int .u64 (E:Int)∧m= .int .i64 (V:Int)∧E<65536∧V+dy E=dy n∧V≤48) ?_ ?_
 rotate_left
 ·intro X W;refine step (s:=16) (by omega) (by omega) hm (by omega) (by omega) (by omega) (by omega) fun E V h1 ac ab aj=>W _ _ _ ⟨rfl,E,V,rfl,rfl,?_,ab,by omega⟩;rcases h1 with h1|⟨h1,_⟩ <;> omega
 rintro _ _ _ ⟨rfl,x,m,rfl,rfl,Y,hm,ad⟩;refine iH (fun x m Z=>w=Z∧ ∃ E V:Nat,x= .int .u64 (E:Int)∧m= .int .i64 (V:Int)∧E<256∧V+dy E=dy n∧V≤56) ?_ ?_
 rotate_left
 ·intro X W;refine step (s:=8) (by omega) (by omega) hm (by omega) (by omega) (by omega) (by omega) fun E V h1 ac ab aj=>W _ _ _ ⟨rfl,E,V,rfl,rfl,?_,ab,by omega⟩;rcases h1 with h1|⟨h1,_⟩ <;> omega
 rintro _ _ _ ⟨rfl,x,m,rfl,rfl,Y,hm,ad⟩;have aa:=CY;have am:=xo Y;rw[fC bG.u bi.u,wrap_u8 (by omega) (by omega)];refine (rG (s:=pX) a1.u (by rw[aa];omega)).mpr ?_;rw[C0 Y,fC bi.u J.u,wrap_i64 (by omega) (by omega),aL,wrap_i64 (by omega) (by omega)];exact⟨by congr 1;omega,Ext.refl _⟩
theorem xt {t:o6} {cx cy:Bool} {k:o8} {a n:Nat} {w:x5} {K:x4→Prop} (E:n<64):I y0 (U .shr t cx cy (.int .i64 (a:Int)) (.int k (n:Int))) w K=K (.int .i64 ((a / 2 ^ n:Nat):Int)):=I.of fun w' _=>by
 have e:(a:Int).fdiv (2 ^ min n X3.bits)=((a / 2 ^ n:Nat):Int):=by
  have:min n X3.bits=n:=Nat.min_eq_left (by show n≤64;omega);rw[this,Int.fdiv_eq_ediv_of_nonneg _ (by exact Int.le_of_lt (Int.pow_pos (by omega)))];simp
 simp only[U,eqGuard,binOp,Op.shift,c7,e];rfl
theorem C2:∀ L:Fin 64,7≤L.val→2 ^ L.val≤10 ^ (L.val*78913 / 262144+1)∧10 ^ (L.val*78913 / 262144)≤10*2 ^ (L.val-1)∧1≤L.val*78913 / 262144∧L.val*78913 / 262144<19:=by decide+kernel
theorem C3 {d:Nat} {w:x5} (aa:eF w) (h1:100≤d) (ah:d<9223372036854775808):O y0 pi [.int .u64 (d:Int)] w fun v w'=>Ext w w'∧ ∃ n:Nat,v= .int .i64 ((n+1:Nat):Int)∧n<19∧10 ^ n≤d∧d<10 ^ (n+1):=by
 have V:d≠0:=by omega
 have W:dy d=Nat.log2 d+1:=by unfold dy;rw[if_neg V]
 have ai:2 ^ (dy d-1)≤d:=by rw[W];exact Nat.log2_self_le V
 have aj:d<2 ^ dy d:=by rw[W];exact Nat.lt_log2_self
 have ab:7≤dy d:=by
  by_cases h:7≤dy d
  ·exact h
  ·have:2 ^ dy d≤2 ^ 6:=Nat.pow_le_pow_right (by omega) (by omega);omega
 have ac:dy d<64:=by
  by_cases h:dy d<64
  ·exact h
  ·have:2 ^ 63≤2 ^ (dy d-1):=Nat.pow_le_pow_right (by omega) (by omega);omega
 obtain⟨ad,X,t3,t4⟩:=C2 ⟨dy d,ac⟩ ab;simp only at ad X t3 t4;apply pi.enter;refine (C1 (by omega)).mono ?_;rintro _ ae _ ⟨rfl,E⟩;generalize dy d=L at*;refine O.mono (K:=fun v I=>v= .int .i64 ((L*78913 / 262144:Nat):Int)∧Ext ae I) ?_ ?_
 ·apply qQ.enter;rw[fZ,wrap_i64 (by omega) (by omega),show X7 .u64 18=X7 .u64 ((18:Nat):Int) from rfl,show (L:Int)*78913=((L*78913:Nat):Int) by omega,xt (by omega)];exact⟨rfl,Ext.refl _⟩
 rintro _ I _ ⟨rfl,J⟩;generalize L*78913 / 262144=t at*;have af:=CX t (by omega);rw[vn (t:=pm) pm.u bG.i (by omega),al (by kernel_rfl) (by rw[T0];exact ((aa.ext E).ext J) _ _ (jD af)),cw];refine O.mono (K:=fun v Y=>v= .int .i64 ((if 10 ^ t≤d then 1 else 0:Nat):Int)∧Ext I Y) ?_ ?_
 ·apply qR.enter;rw[ag];refine⟨fun h=>⟨by rw[if_pos (by omega)];rfl,Ext.refl _⟩,fun h=>⟨by rw[if_neg (by omega)];rfl,Ext.refl _⟩⟩
 rintro _ Y _ ⟨rfl,Z⟩;rw[aL];by_cases U:10 ^ t≤d
 ·rw[if_pos U,wrap_i64 (by omega) (by omega)];exact⟨(E.trans J).trans Z,t,by congr 1,t4,U,by omega⟩
 ·rw[if_neg U,wrap_i64 (by omega) (by omega)];obtain⟨s,rfl⟩:∃ s,t=s+1:=⟨t-1,by omega⟩;rw[Nat.pow_succ] at X;exact⟨(E.trans J).trans Z,s,by congr 1,by omega,by omega,by omega⟩
theorem xu {t:o6} {k E:o8} {x y:Int} {i j:Nat} {s:ByteArray} {w:x5} {K:x4→Prop} (J:x=(i:Int)) (O:y=(j:Int)) (U:y0.underlying t=some .string) (V:i≤j) (W:j≤s.size):
  I y0 (j4 t (.string s) (some (.int k x)) (some (.int E y)) none) w K=K (.string (s.extract i j)):=I.of fun w' _=>by
 subst J O;have X:=q0 (P:=y0) w' (sl:=false) (n:=s.size) (c:=s.size) (low:=some (.int k (i:Int))) (high:=some (.int E (j:Int))) (mx:=none) (l:=i) (h:=j) (m:=s.size) ⟨k,rfl⟩ ⟨E,rfl⟩ eU V W (o7 _);simp[j4,Instr.slice,run_underlying U,X]
theorem C4:∀ q:Fin 100,hv.extract (2*q.val) (2*q.val+2)=strOfNums [48+((q.val / 10:Nat):Int),48+((q.val % 10:Nat):Int)]:=by decide+kernel
def xv:ByteArray:=⟨#[48,49,50,51,52,53,54,55,56,57,97,98,99,100,101,102,103,104,105,106,107,108,109,110,111,112,113,114,115,116,117,118,119,120,121,122]⟩
theorem C5:∀ q:Fin 10,xv.extract q.val (q.val+1)=strOfNums [48+(q.val:Int)]:=by decide+kernel
theorem xw {n:Nat} (h:n<10):et n=[48+(n:Int)]:=by rw[lC,if_pos h,Nat.mod_eq_of_lt h];rfl
theorem C6 {n:Nat} (h1:10≤n) (E:n<100):et n=[48+((n / 10:Nat):Int),48+((n % 10:Nat):Int)]:=by
 rw[lC,if_neg (by omega),xw (by omega)];rfl
theorem C7 {n:Nat} {w:x5} (E:n<100):O y0 ph [.int .i64 (n:Int)] w fun v w'=>v=bx (et n)∧Ext w w':=by
 apply ph.enter;rw[au,ag];refine⟨fun h=>?_,fun h=>?_⟩
 ·rw[aL,wrap_i64 (by omega) (by omega)];refine (xu (s:=xv) (i:=n) (j:=n+1) rfl (by omega) a1.u (by omega) (by show n+1≤36;omega)).mpr ?_;rw[C5 ⟨n,by omega⟩,xw (by omega)];exact⟨rfl,Ext.refl _⟩
 ·rw[fZ,wrap_i64 (by omega) (by omega),fZ,wrap_i64 (by omega) (by omega),aL,wrap_i64 (by omega) (by omega)];refine (xu (s:=hv) (i:=2*n) (j:=2*n+2) (by omega) (by omega) a1.u (by omega) (by rw[xq];omega)).mpr ?_;rw[C4 ⟨n,E⟩,C6 (by omega) E];exact⟨rfl,Ext.refl _⟩
theorem C8 {w:x5} {g:Nat} {J C O:List Int} (E:hx w g 1 J C O) (U:C.length≤23):aG .u8 w (.slice (some ⟨g,1,none⟩) C.length 23) C:=by
 obtain⟨E,V⟩:=E;refine⟨by simp,g,1,_,23,rfl,U,by simp[maxLen],fun _=>rfl,fun j v I=>?_⟩;have W:j<C.length:=by have:=(u4.1 I).1;simpa using this
 refine E.cell ?_;rw[ints,j0,j0,Y0 (by simp;omega),Y3 (by simp;omega),o3,V,Nat.add_sub_cancel_left];exact I
theorem xx {g m:Nat} {y:Int} {w:x5} {K:x4→Prop} (E:y=((m+2:Nat):Int)) (hm:m≤22):
  I y0 (j4 gU (.pointer (some ⟨g,0,none⟩)) (some (.int .i64 1)) (some (.int .i64 y)) none) w K=K (.slice (some ⟨g,1,none⟩) (m+1) 23):=by
 subst E;have:=q1 (w:=w) (b:=g) (o:=0) (low:=some (.int .i64 1)) (high:=some (.int .i64 ((m+2:Nat):Int))) (mx:=none) (l:=1) (h:=m+2) (m:=24) (K:=K) gU.u bi.i ⟨_,rfl⟩ ⟨_,rfl⟩ eU (by omega) (by omega) (by omega);rw[this,if_neg (by omega)];rfl
set_option maxHeartbeats 1000000 in
theorem C9 {n:Nat} {w:x5} (Y:eF w) (Z:n<9223372036854775808):O y0 pe [.int .i64 (n:Int),.int .i64 10] w fun v w'=>v=bx (et n)∧Ext w w':=by
 apply pe.enter;rw[bM];refine (ag).mpr ⟨fun _=>?_,fun h=>absurd rfl h⟩;refine aV (fun v E=>w=E∧v= .bool (decide (n<100))) ?_ ?_
 rotate_left
 ·intro aa I;rw[po,ag];refine⟨fun _=>?_,fun h=>by omega⟩;rw[au];exact I _ _ ⟨rfl,by congr 1;rw[W5,decide_eq_true_eq,decide_eq_true_eq];omega⟩
 rintro _ _ ⟨rfl,rfl⟩;rw[ag];refine⟨fun h=>?_,fun h=>?_⟩
 ·exact (C7 h).mono fun _ _ _ h=>h
 refine bU gU.i fun g E aj U ab=>?_;rw[fC af.u bG.u,wrap_u64 (by omega) (by omega)];refine aV (fun v J=>E=J∧v= .int .u64 (n:Int)) ?_ ?_
 rotate_left
 ·intro aa I;rw[au,ag];exact⟨fun h=>by omega,fun _=>I _ _ ⟨rfl,rfl⟩⟩
 rintro _ _ ⟨rfl,rfl⟩;refine (C3 (Y.ext U) (by omega) Z).mono ?_;rintro _ J _ ⟨V,m,rfl,hm,ac,W⟩;rw[aL,wrap_i64 (by omega) (by omega)];rw[xx (m:=m) (by omega) (by omega)];have ad:hx J g 1 [0] (p9 (m+1) 0) (p9 (22-m) 0):=by
  refine⟨?_,rfl⟩;have e:[0]++p9 (m+1) (0:Int)++p9 (22-m) 0=p9 24 0:=by
   rw[show[(0:Int)]=p9 1 0 from rfl,List.replicate_append_replicate,List.replicate_append_replicate];congr 1;omega
  rw[e];exact ab.ext V
 refine (CW (N:=m+1) ad (by simp) (by omega) W).mono ?_;rintro _ ak _ ⟨rfl,ae,ah⟩;rw[au,ag];refine⟨fun h=>by omega,fun _=>?_⟩;rw[aL,wrap_i64 (by omega) (by omega)];rw[xx (m:=m) (by omega) (by omega)];have ai:=pV (m+1) n;have X:=C8 ah (by omega);rw[ai] at X;rw[s7 aX.u bi.u a1.u X,xp m n ac W];refine⟨rfl,(U.trans V).then ae fun r al he=>?_⟩;have he:r=g:=he;omega
theorem Da {n:Nat} {w:x5} (E:eF w) (I:n<9223372036854775808):O y0 k8 [.int .i64 (n:Int)] w fun v w'=>v=bx (et n)∧Ext w w':=by
 apply k8.enter;refine O.mono (K:=fun v w'=>v=bx (et n)∧Ext w w') ?_ (fun _ _ _ h=>h);apply qO.enter;exact (C9 E I).mono fun _ _ _ h=>h
theorem eF.ad {S:Nat→Prop} {w w':x5} (h:eF w) (E:am S w w') (I:¬S 1):eF w':=qU E I h
def cN (w:x5) (g gs:Nat) (A:av) (B:av) (clean:Bool) (s:Option ay):Prop:=match s with
 |some s=>cI w g gs A B s clean
 |none=>dH w g gs A B
theorem eL.of {w w':x5} {g gs:Nat} {A:av} {B:av} {clean:Bool} {s:Option ay} (h:eL w g gs A B clean s w'):am (bu g gs A) w w'∧cN w' g gs A B clean s:=h
theorem eL.mk {w w':x5} {g gs:Nat} {A:av} {B:av} {clean:Bool} {s:Option ay} (h:am (bu g gs A) w w') (E:cN w' g gs A B clean s):eL w g gs A B clean s w':=⟨h,E⟩
theorem cN.ad {S:Nat→Prop} {w w':x5} {g gs:Nat} {A:av} {B:av} {clean:Bool} {s:Option ay} (h:cN w g gs A B clean s) (E:am S w w') (I:∀ r,bu g gs A r→¬S r) (J:∀ r,ce g gs A B r→¬S r):cN w' g gs A B clean s:=by
 cases s with
 |none=>exact dH.ad (g:=g) (gs:=gs) (A:=A) (B:=B) h E I J
 |some s=>exact cI.ad (g:=g) (gs:=gs) (A:=A) (B:=B) (s:=s) (clean:=clean) h E I J
theorem cN.ext {w w':x5} {g gs:Nat} {A:av} {B:av} {clean:Bool} {s:Option ay} (h:cN w g gs A B clean s) (E:Ext w w'):cN w' g gs A B clean s:=h.ad (E.ad fun _=>False) (fun _ _ h=>h) fun _ _ h=>h
theorem cN.side {w:x5} {g gs:Nat} {A:av} {B:av} {clean:Bool} {s:Option ay} (h:cN w g gs A B clean s):iO w g gs A B:=by
 cases s with
 |none=>exact h.1
 |some s=>exact h.1
def aW (lo hi:Int) (s:Option ay):Option (Int×ay):=s.bind (a8 lo hi)
theorem jI {w:x5} {g gs:Nat} {A:av} {B:av} {s:Option ay} {clean:Bool} {lo hi:Int} (h:cN w g gs A B clean s):O y0 ez [.pointer (some ⟨g,0,none⟩),.int .i64 lo,.int .i64 hi] w fun v w'=>eL w g gs A B clean ((aW lo hi s).map (·.2)) w'∧ ∃ n at_:Int,v= .tuple #[.int .i64 n,.int .i64 at_]∧(∀ q,aW lo hi s=some q→n=q.1)∧(aW lo hi s=none→n=0):=by
 cases s with
 |none=>
  refine (B7 h).mono ?_;rintro _ I _ ⟨E,rfl⟩;exact⟨⟨E.ad _,dH.ext (g:=g) (gs:=gs) (A:=A) (B:=B) h E⟩,0,0,rfl,fun q h=>(by cases h),fun _=>rfl⟩
 |some s=>exact tn (s:=s) h
theorem nl {w:x5} {g gs:Nat} {A:av} {B:av} {s:Option ay} {clean:Bool} (h:cN w g gs A B clean s):O y0 ef [.pointer (some ⟨g,0,none⟩)] w fun v w'=>v= .bool s.isSome∧Ext w w':=by
 cases s with
 |none=>exact lF h
 |some s=>exact ne h
theorem Db {w:x5} {g gs:Nat} {A:av} {B:av} {s:Option ay} {clean:Bool} {e at_:Int} (h:cN w g gs A B clean s) (he:e≠0):O y0 fh [.pointer (some ⟨g,0,none⟩),.int .i64 e,.int .i64 at_] w fun _ w'=>eL w g gs A B clean none w':=by
 cases s with
 |none=>
  refine (B5 h).mono ?_;rintro _ I _ E;exact⟨E.ad _,dH.ext (g:=g) (gs:=gs) (A:=A) (B:=B) h E⟩
 |some s=>
  refine (rr (s:=s) h he).mono ?_;rintro _ I _ ⟨J,U⟩;exact⟨J.mono fun r _ h=>.inl h,U⟩
theorem pY {w:x5} {g gs:Nat} {A:av} {B:av} {s:Option ay} {clean b:Bool} {at_:Int} (h:cN w g gs A B clean s):O y0 fz [.pointer (some ⟨g,0,none⟩),.bool b,.int .i64 at_] w fun _ w'=>eL w g gs A B clean (s.map (aY b)) w':=by
 cases s with
 |none=>
  refine (wQ h).mono ?_;rintro _ I _ E;exact⟨E.ad _,dH.ext (g:=g) (gs:=gs) (A:=A) (B:=B) h E⟩
 |some s=>
  refine (rt (s:=s) h).mono ?_;rintro _ I _ ⟨J,U⟩;exact⟨J.mono fun r _ h=>.inl h,U⟩
theorem kH {lo hi n:Int} {s:Option ay} {s':ay} (h:aW lo hi s=some (n,s')):lo≤n∧n≤hi:=by
 cases s with
 |none=>cases h
 |some s=>exact (fO h).1
def ec (ks acc:List Int) (s:Option ay):Option (List Int×ay):=s.bind (gz ks acc)
theorem xy {k:Int} {ks acc:List Int} {s:Option ay}:ec (k::ks) acc s=match aW 0 (k-1) s with
  |none=>none
  |some (v,s)=>gz ks (acc++[v]) s:=by
 cases s with
 |none=>rfl
 |some s=>
  show gz (k::ks) acc s=_;rw[gz];show _=match a8 0 (k-1) s with|none=>none|some (v,s)=>gz ks (acc++[v]) s
  cases a8 0 (k-1) s <;> rfl
theorem xz:∀ (t:List Int),(∀ x∈t,0≤x∧x≤ap)→(dq t).length≤20*t.length
 |[],_=>by simp[dq]
 |x::t,h=>by
  have J:=xz t fun y E=>h y (.tail _ E);have I:=h x (.head _);have O:=ta 19 x.toNat (by unfold ap at I;omega) (by omega);have e:dq (x::t)=et x.toNat++[32]++dq t:=by simp[dq]
  rw[e];simp only[o5,j9,List.length_nil];omega
set_option maxHeartbeats 4000000 in
theorem Dc {w:x5} {g gs aP:Nat} {A B:av} {s:Option ay} {clean:Bool} {sv:x4} {sizes:List Int} {aR:x4→x5→Prop}
  (h:cN w g gs A B clean s) (aS:aG .i64 w sv sizes) (bg:∀ r,leads sv r→¬bu g gs A r∧r≠aP) (bh:∀ z∈sizes,1≤z∧z≤ap) (b7:sizes.length≤100001) (bi:eF w) (h1:ce g gs A B 1)
  (aT:ak w aP cB [.slice none 0 0,.int .i64 0]) (aU:¬bu g gs A aP) (aV:¬B aP)
  (aX:∀ t w' Y E,t.length=sizes.length→(∀ x∈t,0≤x∧x≤ap)→am (fun r=>bu g gs A r∨r=aP) w w'→ak w' aP cB [Y,.int .i64 0]→aq .i64 af w' E Y t→w.heap.size≤E→
   cN w' g gs A B clean ((ec sizes [] s).map (·.2))→(∀ q,ec sizes [] s=some q→t=q.1)→aR (bx (dq t)) w'):
  ba (.string ⟨#[]⟩) (.int .i64 0) w fun key aJ ac bj=>
   I y0 (U .lss J false false aJ (.int .i64 (sizes.length:Int))) ac fun bk=>
   Split bk (I y0 (x7 ae sv aJ) ac fun bl=>
   I y0 (x1 af bl) ac fun bm=>
   I y0 (U .sub af false true bm (.int .i64 1)) ac fun bn=>
   O y0 ez [.pointer (some ⟨g,0,none⟩),(.int .i64 0),bn] ac fun aY aj=>
   I y0 (x8 aY 0) aj fun aZ=>
   I y0 (x8 aY 1) aj fun b8=>
   I y0 (x2 cB (.pointer (some ⟨aP,0,none⟩)) 0) aj fun bo=>
   I y0 (x1 ae bo) aj fun bp=>
   aa y0 (u9 ae 1 #[(0,aZ)]) aj fun bq br=>
   aa y0 (r8 #[ae,ae] ae #[bp,bq]) br fun bt a2=>
   I y0 (x2 cB (.pointer (some ⟨aP,0,none⟩)) 0) a2 fun bz=>
   aa y0 (x6 ae bz bt) a2 fun(_:Unit) bA=>
   O y0 k8 [aZ] bA fun bB az=>
   I y0 (U .add a1 false true bB (.string ⟨#[32]⟩)) az fun bC=>
   I y0 (U .add a1 false false key bC) az fun bD=>
   I y0 (U .add J false true aJ (.int .i64 1)) az fun bE=>
   bj bD bE az) (aR key ac):=by
 have b9:=aT.lt;have bF:=h.side;obtain⟨ca,cb,cc,bG,bI⟩:=bF;refine ba.range sizes.length (fun j key Z=>∃ t Y E W,key=bx (dq t)∧t.length=j∧(∀ x∈t,0≤x∧x≤ap)∧am (fun r=>bu g gs A r∨r=aP) w Z∧ak Z aP cB [Y,.int .i64 0]∧aq .i64 af Z E Y t∧w.heap.size≤E∧
  cN Z g gs A B clean W∧ec sizes [] s=ec (sizes.drop j) t W) aS.le ⟨[],_,w.heap.size,s,rfl,rfl,fun x ab=>(by cases ab),am.refl _ _,aT,aq.nil _ _ _ _,o7 _,h,rfl⟩ ?_ ?_
 rotate_left
 ·rintro _ Z bJ ⟨t,Y,E,W,rfl,aA,ao,ai,aB,aD,aK,aE,he⟩;rw[au,ag];refine⟨fun h=>by omega,fun _=>?_⟩;rw[List.drop_length] at he;cases W with
  |none=>
   have he:ec sizes [] s=none:=he;exact aX t Z Y E aA ao ai aB aD aK (by rw[he];exact aE) (fun q V=>by rw[he] at V;cases V)
  |some W=>
   have he:ec sizes [] s=some (t,W):=he;exact aX t Z Y E aA ao ai aB aD aK (by rw[he];exact aE) (fun q V=>by rw[he] at V;cases V;rfl)
 rintro j _ Z bJ a6 ⟨t,Y,E,W,rfl,aA,ao,ai,aB,aD,aK,aE,he⟩ bK;obtain⟨z,aM⟩:∃ z,sizes[j]? =some z:=⟨_,x3 a6⟩;have bL:=bh z (u5 aM);have cd:z≤4611686018427387904:=bL.2;have bM:aG .i64 Z sv sizes:=hr aS ai fun r X a n c bN bO=>by
  have:=bg r ⟨a,n,c,bN,bO⟩;exact X.elim this.1 this.2
 have ax:∀ r,bu g gs A r→r<w.heap.size:=bG;rw[au,ag];refine⟨fun _=>?_,fun h=>by omega⟩;rw[bw ae.u af.i (by kernel_rfl) bM aM,dw,wrap_i64 (by omega) (by omega)];refine (jI aE).mono ?_;rintro _ cg _ ⟨bP,n,at_,rfl,a7,bQ⟩;obtain⟨aF,bR⟩:=bP.of;have a8:0≤n∧n≤ap:=by
  cases V:aW 0 (z-1) W with
  |none=>rw[bQ V];exact⟨by omega,by unfold ap;omega⟩
  |some q=>
   rw[a7 q V];have:=kH (s':=q.2) (n:=q.1) V;exact⟨this.1,by unfold ap;omega⟩
 rw[aC (v:=.int .i64 n) rfl,aC (v:=.int .i64 at_) rfl];have bb:=aB.ad aF aU;have bS:=aD.ad aF fun _ bT=>by have:=ax _ bT;omega
 rw[ah cB.p rfl,al (by kernel_rfl) (bb.cell (o:=0+0) rfl)];refine dT ae.u af.i rfl fun a ch bU ci aw bV=>?_;refine gW ae.u af.i rfl (bS.ext aw) bV.ls (by simp;omega) (by simp;omega) fun bc bd bW cj aN aH=>?_;have ck:=ai.size;have cl:=aF.size;have z3:=aw.size;have z4:=aH.size;rw[ah cB.p rfl];have bX:=(bb.ext aw).ad aH (fun he=>by have he:aP=E:=he;omega);refine bH (g:=aP) (o:=0) ae.i aN.ls.cells.1 aN.ls.cells.2 bX (by simp) fun be aO cm aQ=>?_;have aQ:ak be aP cB [bc,.int .i64 0]:=aQ;have bY:am (fun r=>bu g gs A r∨r=aP) w bU:=(ai.trans (aF.mono fun r _ h=>.inl h)).trans (aw.ad _);have bZ:am (fun r=>bu g gs A r∨r=aP) w bW:=fD bY aH fun r X he=>by have he:r=E:=he;omega
 have bf:am (fun r=>bu g gs A r∨r=aP) w be:=bZ.trans (aO.mono fun r _ h=>.inr h);have b1:¬(fun r=>bu g gs A r∨r=aP) 1:=fun h=>h.elim h1.1 fun h=>aV (h▸h1.2);obtain⟨m,rfl⟩:∃ m:Nat,n=(m:Int):=⟨n.toNat,by omega⟩;unfold ap at a8;refine (Da (bi.ad bf b1) (by omega)).mono ?_;rintro _ cn _ ⟨rfl,aI⟩;have cp:=ta 19 m (by omega) (by omega);have cq:=xz t ao;rw[show (ByteArray.mk #[32])=strOfNums [32] from rfl,s6 (by simp;omega),s6 (by simp;omega),aL];refine bK _ _ ⟨t++[(m:Int)],bc,bd,(aW 0 (z-1) W).map (·.2),?_,by simp[aA],fun x ab=>?_,bf.trans (aI.ad _),aQ.ext aI,(aN.ad aO (fun _ he=>by have he:bd=aP:=he;omega)).ext aI,by omega,?_,?_⟩
 ·rw[Bv,c7]
 ·rcases n9.1 ab with ab|ab
  ·exact ao x ab
  ·rw[o9.1 ab];exact a8
 ·refine cN.ext ?_ aI;have b2:=bR.ext aw;have b3:∀ r,bu g gs A r→¬(fun r=>r=E) r:=fun r X he=>by have:=ax r X;have he:r=E:=he;omega
  have b4:∀ r,ce g gs A B r→¬(fun r=>r=E) r:=fun r X he=>by have:=bI r X.2;have he:r=E:=he;omega
  have b5:∀ r,bu g gs A r→¬(fun r=>r=aP) r:=fun r X he=>by have he:r=aP:=he;exact aU (he▸X)
  have b6:∀ r,ce g gs A B r→¬(fun r=>r=aP) r:=fun r X he=>by have he:r=aP:=he;exact aV (he▸X.2)
  exact (b2.ad aH b3 b4).ad aO b5 b6
 ·rw[he,X2 a6,show sizes[j]=z from (u4.1 aM).2,xy];cases V:aW 0 (z-1) W with
  |none=>rfl
  |some q=>
   rw[a7 q V];rfl
def dg (s:ay):Prop:=s.big=false→s.told≤16384
def hy (n:Int) (s:ay):ay:=aY (decide (16384<min (s.told+n) ap)) {s with told:=min (s.told+n) ap}
theorem Dd (n:Int) (s:ay):dg (hy n s):=fun h=>by
 have h:(s.big||decide (16384<min (s.told+n) ap))=false:=h;have:=of_decide_eq_false (U4.1 h).2;show min (s.told+n) ap≤16384;omega
theorem De {w:x5} {g gs:Nat} {A B:av} {s:Option ay} {clean:Bool} {n at_:Int} {K:x5→Prop} (h:cN w g gs A B clean s) (ax:∀ t,s=some t→0≤n∧n≤ap∧dg t)
  (ao:∀ w',am (bu g gs A) w w'→cN w' g gs A B clean (s.map (hy n))→K w'):
  I y0 (aj (.pointer (some ⟨g,0,none⟩))) w fun aB=>
  I y0 (x2 bn aB 2) w fun aC=>
  I y0 (x1 af aC) w fun aD=>
  I y0 (U .add af false false aD (.int .i64 n)) w fun aE=>
  I y0 (T1 #[af,af] af #[aE,(.int .i64 4611686018427387904)]) w fun aF=>
  I y0 (aj (.pointer (some ⟨g,0,none⟩))) w fun aG=>
  I y0 (x2 bn aG 2) w fun aH=>
  aa y0 (x6 af aH aF) w fun(_:Unit) X=>
  I y0 (aj (.pointer (some ⟨g,0,none⟩))) X fun t77=>
  I y0 (x2 bn t77 2) X fun aI=>
  I y0 (x1 af aI) X fun aJ=>
  I y0 (U .gtr af false true aJ (.int .i64 16384)) X fun aK=>
  O y0 fz [.pointer (some ⟨g,0,none⟩),aK,.int .i64 at_] X fun _ aM=>K aM:=by
 cases s with
 |none=>
  obtain⟨V,e,big,Z,ab,told,sv,l,Y,ac,ag⟩:=id h;rw[az,ah bn.p rfl,al (by kernel_rfl) (Y.cell (o:=0+5) rfl),aL,jA,az,ah bn.p rfl];refine bH (g:=g) (o:=5) af.i rfl rfl Y (by simp[eE]) fun ae E aN J=>?_;rw[az,ah bn.p rfl,al (by kernel_rfl) (J.cell (o:=0+5) rfl),bT];have aq:dH ae g gs A B:=⟨V.ad E,e,big,Z,ab,_,sv,l,J,ac,aA.ad ag E fun r _ h ai=>rp h V.2.1 ai⟩;refine (wQ aq).mono ?_;rintro _ aO _ au;exact ao _ ((E.mono fun r _ h=>.inl h).trans (au.ad _)) (aq.ext au)
 |some s=>
  obtain⟨aV,aP,hi⟩:=ax s rfl;obtain⟨V,aQ,aR,big,Z,ab,told,sv,Y,ac,ag⟩:=id h;rw[az,ah bn.p rfl,al (by kernel_rfl) (Y.cell (o:=0+5) rfl),aL,jA,az,ah bn.p rfl];refine bH (g:=g) (o:=5) af.i rfl rfl Y (by simp[eE]) fun ae E aN J=>?_;have J:ak ae g bn (eE gs 0 big Z ab (min (X3.wrap (told+n)) 4611686018427387904) sv):=J;rw[az,ah bn.p rfl,al (by kernel_rfl) (J.cell (o:=0+5) rfl),bT];have key:s.big=false→min (X3.wrap (told+n)) 4611686018427387904=min (s.told+n) ap:=fun W=>by
   rw[ac.2 W];have:=hi W;unfold ap at aP ⊢;rw[wrap_i64 (by omega) (by omega)]
  have aS:cI ae g gs A B {s with told:=min (s.told+n) ap} clean:=⟨V.ad E,aQ.ad E (fun he=>V.1 he.symm) (fun r aT he=>aT.1 (.inl he)),⟨by show 0≤min _ _;unfold ap;omega,by show min _ _≤_;omega,aR.2.2⟩,big,Z,ab,_,sv,J,⟨ac.1,key⟩,aA.ad ag E fun r _ h ai=>rp h V.2.1 ai⟩;refine (rt aS).mono ?_;rintro _ aO _ ⟨aU,aw⟩;refine ao _ ((E.trans aU).mono fun r _ h=>.inl h) ?_;have e:aY (decide (16384<min (X3.wrap (told+n)) 4611686018427387904)) {s with told:=min (s.told+n) ap}=hy n s:=by
   cases W:s.big with
   |false=>rw[key W,←W];rfl
   |true=>simp[hy,aY,W]
  rw[e] at aw;exact aw
def gD (sizes:List Int) (s:Option ay):Option (List (List Int×Int)×ay):=s.bind (df sizes)
def iR (w:x5) (m:Nat) (acc:List (List Int×Int)):Prop:=cu w m (acc.map fun p=>(bx (dq p.1),.int .i64 1))
def ib (w:x5) (m:Nat):Prop:=∃ d,cu w m d∧ ∀ p∈d,∃ (k:ByteArray) (c:Int),p=(.string k,.int .i64 c)
theorem iR.any {w:x5} {m:Nat} {acc:List (List Int×Int)} (h:iR w m acc):ib w m:=⟨_,h,fun p E=>by
 obtain⟨q,_,rfl⟩:=l9.1 E;exact⟨_,_,rfl⟩⟩
theorem Df {w:x5} {m:Nat} {k:ByteArray} {K:x4→Prop} (h:ib w m) (U:∀ c:Int,K (.int .i64 c)):I y0 (V3 eA (.map (some m)) (.string k) false) w K:=by
 obtain⟨d,hm,V⟩:=h;have W:=Keys.str a1.u;have X:∀ p∈d,∃ s,p.1=x4.string s:=fun p E=>by obtain⟨s,c,rfl⟩:=V p E;exact⟨s,rfl⟩
 by_cases he:∃ p∈d,p.1=x4.string k
 ·obtain⟨p,E,O⟩:=he;obtain⟨j,Y⟩:=X1.1 E;obtain⟨s,c,rfl⟩:=V p E;have O:x4.string s=x4.string k:=O;rw[O] at Y;rw[pO eA.u W hm X ⟨k,rfl⟩ Y];exact U c
 ·have Z:∀ p∈d,p.1≠x4.string k:=fun p E h=>he ⟨p,E,h⟩;rw[rz eA.u W ⟨_,_,J.i⟩ hm X ⟨k,rfl⟩ Z];exact U 0
theorem Dg {w:x5} {m:Nat} {k:ByteArray} {c:Int} {K:Unit→x5→Prop} (h:ib w m) (U:∀ w',am (fun r=>r=m) w w'→ib w' m→K () w'):aa y0 (Instr.mapUpdate eA (.map (some m)) (.string k) (.int .i64 c)) w K:=by
 obtain⟨d,hm,I⟩:=h;have V:∀ p∈d,∃ s,p.1=x4.string s:=fun p E=>by obtain⟨s,c,rfl⟩:=I p E;exact⟨s,rfl⟩
 refine pP eA.u (Keys.str a1.u) hm V ⟨k,rfl⟩ (fun j v0 w' W J O=>U w' O ⟨_,J,fun p E=>?_⟩) (fun w' X J O=>U w' O ⟨_,J,fun p E=>?_⟩)
 ·rcases V9 E with E|rfl
  ·exact I p E
  ·exact⟨_,_,rfl⟩
 ·rcases n9.1 E with E|E
  ·exact I p E
  ·rw[o9.1 E];exact⟨_,_,rfl⟩
theorem xA {a b:List Int} (E:∀ x∈a,0≤x) (I:∀ x∈b,0≤x) (h:bx (dq a)=bx (dq b)):a=b:=by
 have h:strOfNums (dq a)=strOfNums (dq b):=x4.string.inj h;exact wb E I (str_inj (wc a) (wc b) h)
theorem tD {acc:List (List Int×Int)}:∀ p∈acc.map fun p=>(bx (dq p.1),X7 .i64 1),∃ s,p.1=x4.string s:=fun p E=>by
 obtain⟨q,_,rfl⟩:=l9.1 E;exact⟨_,rfl⟩
theorem xB {w:x5} {m:Nat} {acc:List (List Int×Int)} {t:List Int} {K:x4→Prop} (h:iR w m acc) (V:∀ p∈acc,∀ x∈p.1,0≤x) (W:∀ x∈t,0≤x):
  I y0 (V3 eA (.map (some m)) (bx (dq t)) false) w K=K (.int .i64 (if t∈acc.map (·.1) then 1 else 0)):=by
 have O:=Keys.str a1.u;by_cases he:t∈acc.map (·.1)
 ·rw[if_pos he];obtain⟨p,E,rfl⟩:=l9.1 he;obtain⟨j,X⟩:=X1.1 E;rw[pO eA.u O h tD ⟨_,rfl⟩ (j:=j) (v:=.int .i64 1) (by rw[r9,X];rfl)];simp
 ·rw[if_neg he];rw[rz eA.u O ⟨_,_,J.i⟩ h tD ⟨_,rfl⟩ (fun p E Y=>?_)]
  ·simp
  ·obtain⟨q,U,rfl⟩:=l9.1 E;have:=xA (V q U) W Y;exact he (l9.2 ⟨q,U,this⟩)
theorem Dh {w:x5} {m:Nat} {acc:List (List Int×Int)} {t:List Int} {c:Int} {K:Unit→x5→Prop} (h:iR w m acc) (V:∀ p∈acc,∀ x∈p.1,0≤x) (W:∀ x∈t,0≤x) (X:t∉acc.map (·.1))
  (Y:∀ w',am (fun r=>r=m) w w'→iR w' m (acc++[(t,c)])→K () w'):aa y0 (Instr.mapUpdate eA (.map (some m)) (bx (dq t)) (.int .i64 1)) w K:=by
 refine pP eA.u (Keys.str a1.u) h tD ⟨_,rfl⟩ (fun j v0 w' I J O=>?_) (fun w' _ J O=>Y w' O ?_)
 ·rw[r9] at I;obtain⟨q,U,E⟩:=Z6.1 I;have E:bx (dq q.1)=bx (dq t):=congrArg Prod.fst E;have:=xA (V q (u5 U)) W E;exact absurd (l9.2 ⟨q,u5 U,this⟩) X
 ·unfold iR;rw[j0];exact J
theorem Di {w:x5} {m:Nat} {acc:List (List Int×Int)} {t:List Int} {c:Int} {ok:Prop} {K:Unit→x5→Prop} (V:ib w m) (ac:ok→iR w m acc∧(∀ p∈acc,∀ x∈p.1,0≤x)∧(∀ x∈t,0≤x)∧t∉acc.map (·.1))
  (W:∀ w',am (fun r=>r=m) w w'→ib w' m→(ok→iR w' m (acc++[(t,c)]))→K () w'):
  I y0 (V3 eA (.map (some m)) (bx (dq t)) false) w fun ad=>
  I y0 (U .add J false true ad (.int .i64 1)) w fun ae=>
  aa y0 (Instr.mapUpdate eA (.map (some m)) (bx (dq t)) ae) w K:=by
 by_cases X:ok
 ·obtain⟨h1,Y,Z,ab⟩:=ac X;rw[xB h1 Y Z,if_neg ab,aL,wrap_i64 (by omega) (by omega)];exact Dh (c:=c) h1 Y Z ab fun w' O E=>W w' O E.any fun _=>E
 ·refine Df V fun af=>?_;rw[aL];exact Dg V fun w' O E=>W w' O E fun h=>absurd h X
def ev {α:Type} (f:List α→ay→Option (α×ay)) (n:Nat) (acc:List α) (o:Option ay):Option (List α×ay):=o.bind (ck f n acc)
theorem ib.ad {S:Nat→Prop} {w w':x5} {m:Nat} (h:ib w m) (E:am S w w') (I:¬S m):ib w' m:=by
 obtain⟨d,h1,J⟩:=h;exact⟨d,h1.ad E I,J⟩
theorem cN.words {w:x5} {g gs:Nat} {A:av} {B:av} {clean:Bool} {s:ay} (h:cN w g gs A B clean (some s)):s.toks.length≤100000:=by
 have h:cI w g gs A B s clean:=h;exact h.2.1.words.1
theorem xC {sizes:List Int} {acc:List (List Int×Int)} {st:ay} {t:List Int} {c:Int} (J:∀ q,ec sizes [] (some st)=some q→t=q.1) (E:∀ q,aW 0 ap ((ec sizes [] (some st)).map (·.2))=some q→c=q.1):
  (aW 0 ap ((ec sizes [] (some st)).map (·.2))=none→de sizes acc st=none)∧ ∀ q,aW 0 ap ((ec sizes [] (some st)).map (·.2))=some q→de sizes acc st=if t∈acc.map (·.1) then none else some ((t,c),q.2):=by
 have e:ec sizes [] (some st)=gz sizes [] st:=rfl;rw[e] at J E ⊢;unfold de;cases h1:gz sizes [] st with
 |none=>exact⟨fun _=>rfl,fun q I=>(by cases I)⟩
 |some q=>
  obtain⟨W,O⟩:=q;rw[h1] at J E;have:=J _ rfl;subst this;have U:aW 0 ap ((some (t,O)).map (·.2))=a8 0 ap O:=rfl;rw[U] at E ⊢;simp only;cases V:a8 0 ap O with
  |none=>exact⟨fun _=>rfl,fun q I=>(by cases I)⟩
  |some q=>
   obtain⟨X,Y⟩:=q;rw[V] at E;have:=E _ rfl;subst this;exact⟨fun h=>(by cases h),fun q I=>(by cases I;rfl)⟩
set_option maxHeartbeats 8000000 in
theorem Dj {w:x5} {g gs N:Nat} {A B:av} {s:Option ay} {clean:Bool} {sv:x4} {sizes:List Int} {Q:x4→x5→Prop}
  (h:cN w g gs A B clean s) (ca:aG .i64 w sv sizes) (bi:∀ r,leads sv r→¬bu g gs A r∧r<w.heap.size) (cb:∀ z∈sizes,1≤z∧z≤ap) (cc:sizes.length≤100001) (cd:eF w) (h1:ce g gs A B 1) (cg:(N:Int)≤ap)
  (bJ:∀ v w' l,eL w g gs A B clean ((ev (de sizes) N [] s).map (·.2)) w'→dx (dU w.heap.size) bt w' [v] (show List (List Int×Int) from l)→(∀ q,ev (de sizes) N [] s=some q→l=q.1)→Q v w'):
  aa y0 (Instr.makeMap eA none) w fun bj W=>
 ba (.slice none 0 0) (.int .i64 0) W fun out i ab k=>
  aB (α:=x4→x5→Prop) (fun(ch:x4) (aD:x5)=>
   Split ch (aa y0 (n0 cB true (.tuple #[])) aD fun x V=>
  I y0 (u6 #[ae] J #[sv]) V fun ci=>
  ba (.string ⟨#[]⟩) (.int .i64 0) V fun key bk aE cj=>
   I y0 (U .lss J false false bk ci) aE fun ck=>
   Split ck (I y0 (x7 ae sv bk) aE fun cl=>
   I y0 (x1 af cl) aE fun cm=>
   I y0 (U .sub af false true cm (.int .i64 1)) aE fun cn=>
   O y0 ez [.pointer (some ⟨g,0,none⟩),(.int .i64 0),cn] aE fun bK aK=>
   I y0 (x8 bK 0) aK fun bL=>
   I y0 (x8 bK 1) aK fun dI=>
   I y0 (x2 cB x 0) aK fun cp=>
   I y0 (x1 ae cp) aK fun cq=>
   aa y0 (u9 ae 1 #[(0,bL)]) aK fun cr ac=>
   aa y0 (r8 #[ae,ae] ae #[cq,cr]) ac fun ct bM=>
   I y0 (x2 cB x 0) bM fun cw=>
   aa y0 (x6 ae cw ct) bM fun(_:Unit) cz=>
   O y0 k8 [bL] cz fun cA a2=>
   I y0 (U .add a1 false true cA (.string ⟨#[32]⟩)) a2 fun cC=>
   I y0 (U .add a1 false false key cC) a2 fun cD=>
   I y0 (U .add J false true bk (.int .i64 1)) a2 fun cE=>
   cj cD cE a2)
    (O y0 ez [.pointer (some ⟨g,0,none⟩),(.int .i64 0),(.int .i64 4611686018427387904)] aE fun bO a6=>
  I y0 (x8 bO 0) a6 fun cF=>
  I y0 (x8 bO 1) a6 fun cG=>
  I y0 (x2 cB x 1) a6 fun cH=>
  aa y0 (x6 af cH cF) a6 fun(_:Unit) cI=>
  aB (α:=x5→Prop) (fun(aF:x5)=>
   I y0 (V3 eA bj key false) aF fun cJ=>
   I y0 (U .add J false true cJ (.int .i64 1)) aF fun cK=>
   aa y0 (Instr.mapUpdate eA bj key cK) aF fun(_:Unit) aM=>
   I y0 (x1 cB x) aM fun cL=>
   aa y0 (u9 eg 1 #[(0,cL)]) aM fun cM aT=>
   aa y0 (r8 #[eg,eg] eg #[out,cM]) aT fun cO a7=>
   I y0 (U .add af false true i (.int .i64 1)) a7 fun cP=>
  k cO cP a7) fun bP=>
  aB (α:=x4→x5→Prop) (fun(cQ:x4) (ao:x5)=>
   Split cQ (O y0 fh [.pointer (some ⟨g,0,none⟩),(.int .i64 4),cG] ao fun dJ bR=>
    bP bR)
    (bP ao)) fun bS=>
  O y0 ef [.pointer (some ⟨g,0,none⟩)] cI fun cR aN=>
  Split cR (I y0 (V3 eA bj key false) aN fun cS=>
  I y0 (U .gtr J false true cS (.int .i64 0)) aN fun cT=>
  bS cT aN)
   (bS (.bool false) aN)))
    (Q out aD)) fun bV=>
  I y0 (U .lss af false false i (.int .i64 (N:Int))) ab fun cU=>
  Split cU (O y0 ef [.pointer (some ⟨g,0,none⟩)] ab fun cV cW=>
  bV cV cW)
   (bV (.bool false) ab):=by
 obtain⟨dK,dL,dM,cX,a8⟩:=h.side;have ax:∀ r,bu g gs A r→r<w.heap.size:=cX;unfold ap at cg;refine ry fun X W dN bl bn=>?_;have dO:=bl.size;have dP:=bn.lt;generalize Y:ev (de sizes) N [] s=bW at bJ;refine⟨fun out bo ab=>∃ (i:Nat) (acc:List (List Int×Int)) (so:Option ay),bo= .int .i64 (i:Int)∧i≤N∧am (bu g gs A) w ab∧W.heap.size≤ab.heap.size∧dx (dU W.heap.size) bt ab [out] acc∧cN ab g gs A B clean so∧
   bW=ev (de sizes) (N-i) acc so∧ib ab X∧acc.length≤100001∧ ∀ st,so=some st→iR ab X acc∧(∀ p∈acc,∀ x∈p.1,0≤x)∧acc.length+st.toks.length≤100000,
  fun _ bo _=>N-(bQ bo).toNat,⟨0,[],s,rfl,Y1 _,bl.ad _,o7 _,iI,h.ext bl,Y.symm,⟨[],bn,fun p al=>(by cases al)⟩,by simp,fun st cY=>⟨bn,fun p al=>(by cases al),?_⟩⟩,?_⟩
 ·subst cY;have:=h.words;simpa using this
 rintro out _ ab ⟨i,acc,so,rfl,dQ,bX,z9,bY,bp,bb,cZ,dR,bq⟩;refine aV (fun v aD=>Ext ab aD∧((v= .bool true∧i<N∧ ∃ st,so=some st)∨(v= .bool false∧(so=none∨i=N)))) ?_ ?_
 rotate_left
 ·intro dS br;rw[au,ag];refine⟨fun c0=>?_,fun dT=>br _ _ ⟨Ext.refl _,.inr ⟨rfl,.inr (by omega)⟩⟩⟩;refine (nl bp).mono ?_;rintro _ aD _ ⟨rfl,aw⟩;cases so with
  |none=>exact br _ _ ⟨aw,.inr ⟨rfl,.inl rfl⟩⟩
  |some st=>exact br _ _ ⟨aw,.inl ⟨rfl,by omega,st,rfl⟩⟩
 rintro _ aD ⟨aw,c1⟩;rcases c1 with⟨rfl,c0,st,rfl⟩|⟨rfl,c2⟩
 rotate_left
 ·rw[aU];have bZ:bW=so.map fun st=>(acc,st):=by
   rcases c2 with rfl|rfl
   ·exact bb
   ·rw[W7] at bb;rw[bb];cases so <;> rfl
  refine bJ out aD acc (eL.mk (bX.trans (aw.ad _)) ?_) (dc (aA.mono bY (fun r _ h=>by have h:W.heap.size≤r:=h;show w.heap.size≤r;omega) fun _ _ h=>h) aw) (fun q ai=>?_)
  ·rw[bZ,Option.map_map];have e:W6 ((fun x=>x.2)∘fun st=>(acc,st)) so=so:=by cases so <;> rfl
   rw[e];exact bp.ext aw
  ·rw[bZ] at ai;cases so with
   |none=>cases ai
   |some st=>cases ai;rfl
 rw[bm];obtain⟨bq,bw,dV⟩:=bq st rfl;have dW:=aw.size;refine bU cB.i fun aP V dX b1 b2=>?_;have aX:=aw.trans b1;have bx:am (bu g gs A) w V:=bX.trans (aX.ad _);have b3:aG .i64 V sv sizes:=hr ca bx fun r E a n c c3 c4=>(bi r ⟨a,n,c,c3,c4⟩).1 E;rw[aQ ae.u b3];have bc:¬bu g gs A aP:=fun Y=>by have:=ax _ Y;omega
 refine Dc (s:=some st) (bp.ext aX) b3 (fun r E=>⟨(bi r E).1,by have:=(bi r E).2;omega⟩) cb cc (cd.ad bx h1.1) h1 b2 bc (fun c5=>by have:=a8 _ c5;omega) fun t aE aH bd dY c6 b4 c7 c8 c9 da db=>?_;have dZ:=b1.size;have z12:=b4.size;have ea:=b2.lt;have bz:∀ x∈t,0≤x:=fun x dd=>(c6 x dd).1;refine (jI da).mono ?_;rintro _ aK _ ⟨bA,c,df,rfl,dg,eb⟩;obtain⟨be,dh⟩:=bA.of;have ed:=be.size;rw[aC (v:=.int .i64 c) rfl,aC (v:=.int .i64 df) rfl,ah cB.p rfl];refine bH (g:=aP) (o:=1) af.i rfl rfl (c7.ad be bc) (by simp) fun ac bf ee bB=>?_;have bB:ak ac aP cB [aH,.int .i64 c]:=bB;have di:aq .i64 af ac bd aH t:=(c8.ad be (fun _ Y=>by have:=ax _ Y;omega)).ad bf (fun _ he=>by have he:bd=aP:=he;omega);have bC:am (fun r=>bu g gs A r∨r=aP) V ac:=(b4.trans (be.mono fun r _ h=>.inl h)).trans (bf.mono fun r _ h=>.inr h);have aI:cN ac g gs A B clean ((aW 0 ap ((ec sizes [] (some st)).map (·.2))).map (·.2)):=dh.ad bf (fun r E he=>by have he:r=aP:=he;exact bc (he▸E)) (fun r E he=>by have:=a8 r E.2;have he:r=aP:=he;omega);have b5:¬(fun r=>bu g gs A r∨r=aP) X:=fun h=>h.elim (fun h=>by have:=ax _ h;omega) (fun h=>by omega);have dj:ib ac X:=(cZ.ad (aX.ad (fun _=>False)) (fun h=>h)).ad bC b5;have b6:iR ac X acc:=(cu.ext bq aX).ad bC b5;obtain⟨bD,bE⟩:=xC (acc:=acc) db dg;refine dG (fun aF=>am (bu g gs A) ac aF∧cN aF g gs A B clean ((de sizes acc st).map (·.2))) ?_ ?_
 ·rintro aF ⟨aO,dk⟩;have bF:¬bu g gs A X:=fun h=>by have:=ax _ h;omega
  have eh:=bf.size;have ei:=aO.size;refine Di (acc:=acc) (t:=t) (c:=c) (ok:=∃ q,de sizes acc st=some q) (dj.ad aO bF) (fun⟨q,ai⟩=>⟨cu.ad b6 aO bF,bw,bz,fun az=>?_⟩) fun aM aY dl dm=>?_
  ·cases aj:aW 0 ap ((ec sizes [] (some st)).map (·.2)) with
   |none=>rw[bD aj] at ai;cases ai
   |some aR=>rw[bE aR aj,if_pos az] at ai;cases ai
  have ej:=aY.size;have dn:ak aM aP cB [aH,.int .i64 c]:=(bB.ad aO bc).ad aY (fun he=>by have he:aP=X:=he;omega);have dp:aq .i64 af aM bd aH t:=(di.ad aO (fun _ Y=>by have:=ax _ Y;omega)).ad aY (fun _ he=>by have he:bd=X:=he;omega);rw[bN cB.p cB.i rfl dn.range];have b7:dx (dU V.heap.size) bt aM [aH,.int .i64 c] (t,c):=⟨[aH],[.int .i64 c],dU V.heap.size,bt,rfl,fun _ h=>h,fun _ h=>h.elim,fun _ _ _ h=>h,aA.mono (mX dp) (fun r _ h=>by subst h;exact c9) (fun _ _ h=>h),rfl⟩;refine lw (α:=List Int×Int) (a:=(t,c)) (cs:=[aH,.int .i64 c]) (A:=dU V.heap.size) (R:=bt) eg.u cB.i (by decide) rfl b7 fun u aT aS _ dq=>?_;have z22:=aS.size;have dr:dx (fun r=>dU W.heap.size r∧r<V.heap.size∧r≠aP) bt V [out] acc:=dc (aA.mono (kw bY) (fun r _ h=>⟨h.1,by have:=h.2;omega,by have:=h.2;omega⟩) fun _ _ h=>h) aX;have b8:am (fun r=>bu g gs A r∨r=aP∨r=X) V aT:=(((bC.mono fun r _ h=>h.elim .inl fun h=>.inr (.inl h)).trans (aO.mono fun r _ h=>.inl h)).trans (aY.mono fun r _ h=>.inr (.inr h))).trans (aS.ad _);have ds:=aA.ad dr b8 fun r E h Y=>by
   rcases h with h|h
   ·have bg:W.heap.size≤r:=h.1;rcases Y with Y|Y|Y
    ·have:=ax _ Y;omega
    ·exact h.2.2 Y
    ·omega
   ·exact h
  refine mW (α:=List Int×Int) (a:=(t,c)) (A:=dU V.heap.size) eg.u cB.i rfl ds dq (dc b7 aS) (fun r _ h h'=>?_) (by omega) (by omega) fun ek a7 dt aZ=>?_
  ·rcases h' with h'|h'
   ·have:=h.2;have:V.heap.size≤r:=h';omega
   ·exact h'
  have em:=aZ.size;rw[aL,wrap_i64 (by omega) (by omega)];have du:am (bu g gs A) w aT:=fD bx b8 fun r E h=>by
   rcases h with h|h|h
   ·exact h
   ·omega
   ·omega
  have dv:am (bu g gs A) w a7:=fD du aZ fun r E h=>by have bg:W.heap.size≤r:=h.1;omega
  have dw:cN aT g gs A B clean ((de sizes acc st).map (·.2)):=(dk.ad aY (fun r E he=>by have he:r=X:=he;exact bF (he▸E)) (fun r E he=>by have:=a8 r E.2;have he:r=X:=he;omega)).ext aS;have dy:∀ r,bu g gs A r→¬(dU W.heap.size r∧r<V.heap.size∧r≠aP):=fun r E he=>by have:=ax _ E;have bg:W.heap.size≤r:=he.1;omega
  have dz:∀ r,ce g gs A B r→¬(dU W.heap.size r∧r<V.heap.size∧r≠aP):=fun r E he=>by have:=a8 r E.2;have bg:W.heap.size≤r:=he.1;omega
  have b9:¬(dU W.heap.size X∧X<V.heap.size∧X≠aP):=fun he=>by have bg:W.heap.size≤X:=he.1;omega
  refine⟨⟨i+1,acc++[(t,c)],(de sizes acc st).map (·.2),rfl,by omega,dv,by omega,?_,dw.ad aZ dy dz,?_,(dl.ad (aS.ad (fun _=>False)) (fun h=>h)).ad aZ b9,by simp;omega,fun dA dB=>?_⟩,by simp only[bQ];omega⟩
  ·refine aA.mono dt (fun r _ h=>?_) fun _ _ h=>h;show W.heap.size≤r;rcases h with h|h|h
   ·exact h.1
   ·have h:V.heap.size≤r:=h;omega
   ·omega
  ·rw[bb,show N-i=(N-(i+1))+1 by omega];cases Z:de sizes acc st with
   |none=>exact nf Z
   |some q=>
    obtain⟨a,dA⟩:=q;have dC:a=(t,c):=by
     cases aj:aW 0 ap ((ec sizes [] (some st)).map (·.2)) with
     |none=>rw[bD aj] at Z;cases Z
     |some aR=>
      rw[bE aR aj] at Z;split at Z
      ·cases Z
      ·cases Z;rfl
    subst dC;exact rv Z
  ·obtain⟨q,ai,rfl⟩:=Z6.1 dB;have en:=(nb ai).2.2.2.1;refine⟨cu.ad ((cu.ext (dm ⟨q,ai⟩) aS)) aZ b9,fun p al=>?_,by simp only[o5,T3];omega⟩;rcases n9.1 al with al|al
   ·exact bw p al
   ·rw[o9.1 al];exact bz
 ·intro eo bG;cases aj:aW 0 ap ((ec sizes [] (some st)).map (·.2)) with
  |none=>
   rw[aj] at aI;have Z:=bD aj;refine aV (fun v ao=>Ext ac ao∧v= .bool false) ?_ ?_
   ·rintro _ ao ⟨aJ,rfl⟩;rw[aU];exact bG _ ⟨aJ.ad _,by rw[Z];exact aI.ext aJ⟩
   ·intro dD bI;refine (nl aI).mono ?_;rintro _ aN _ ⟨rfl,bh⟩;rw[show ((none:Option (Int×ay)).map (·.2)).isSome=false from rfl,aU];exact bI _ _ ⟨bh,rfl⟩
  |some aR=>
   rw[aj] at aI;have Z:=bE aR aj;refine aV (fun v ao=>Ext ac ao∧v= .bool (decide (t∈acc.map (·.1)))) ?_ ?_
   ·rintro _ ao ⟨aJ,rfl⟩;rw[ag];refine⟨fun az=>?_,fun dE=>?_⟩
    ·refine (Db (aI.ext aJ) (by omega)).mono ?_;rintro _ bR _ bA;obtain⟨dF,dH⟩:=bA.of;exact bG _ ⟨(aJ.ad _).trans dF,by rw[Z,if_pos az];exact dH⟩
    ·exact bG _ ⟨aJ.ad _,by rw[Z,if_neg dE];exact aI.ext aJ⟩
   ·intro dD bI;refine (nl aI).mono ?_;rintro _ aN _ ⟨rfl,bh⟩;rw[show ((some aR:Option (Int×ay)).map (·.2)).isSome=true from rfl,bm,xB (cu.ext b6 bh) bw bz,bT];refine bI _ _ ⟨bh,?_⟩;congr 1;by_cases az:t∈acc.map (·.1)
    ·rw[if_pos az,decide_eq_true az];rfl
    ·rw[if_neg az,decide_eq_false az];rfl
theorem xD (sizes:List Int) (s:Option ay):gD sizes s=match aW (-ap) ap s with
 |none=>none
 |some (n,s)=>
  if n<0 then match s.shared[(-n-1).toNat]? with
   |none=>none
   |some (z,l)=>if z=sizes then some (l,s) else none
  else ck (de sizes) n.toNat [] (hy n s):=by
 cases s with
 |none=>rfl
 |some s=>
  show df sizes s=_;unfold df;show _=match a8 (-ap) ap s with
   |none=>none
   |some (n,s)=>
    if n<0 then match s.shared[(-n-1).toNat]? with
     |none=>none
     |some (z,l)=>if z=sizes then some (l,s) else none
    else ck (de sizes) n.toNat [] (hy n s)
  cases a8 (-ap) ap s <;> rfl
theorem xE {m:Bool} {S R:av} {w:x5} {cs:List x4} {a:gB} (h:aA.rep (α:=gB) m S R w cs a):∃ u v,cs=[u,v]∧aA.rep (α:=List Int) false bt R w [u] a.1∧aA.rep (α:=List (List Int×Int)) false bt R w [v] a.2:=by
 obtain⟨c,d,I,J,rfl,_,_,_,h1,E⟩:=h;have h1:aA.rep (α:=List Int) false bt R w c a.1:=h1;have E:aA.rep (α:=List (List Int×Int)) false bt R w d a.2:=E;obtain⟨u,rfl⟩:=V6.1 (show c.length=1 from aA.len h1);obtain⟨v,rfl⟩:=V6.1 (show d.length=1 from aA.len E);exact⟨u,v,rfl,h1,E⟩
set_option maxHeartbeats 4000000 in
theorem Dk {w:x5} {g gs:Nat} {A B:av} {s:Option ay} {clean:Bool} {sv:x4} {sizes:List Int}
  (h:cN w g gs A B clean s) (hi:∀ t,s=some t→dg t) (aR:aG .i64 w sv sizes) (ac:∀ r,leads sv r→¬bu g gs A r∧r<w.heap.size) (aS:∀ z∈sizes,1≤z∧z≤ap) (aT:sizes.length≤100001) (aX:eF w) (h1:ce g gs A B 1):
  O y0 oz [.pointer (some ⟨g,0,none⟩),sv] w fun v w'=>eL w g gs A B clean ((gD sizes s).map (·.2)) w'∧ ∃ l,Seen (fun r=>ce g gs A B r∨w.heap.size≤r) w' [v] (show List (List Int×Int) from l)∧ ∀ q,gD sizes s=some q→l=q.1:=by
 have aY:=h.side;obtain⟨bx,bz,bA,aZ,bB⟩:=id aY;have ax:∀ r,bu g gs A r→r<w.heap.size:=aZ;apply oz.enter;refine (jI (lo:=-ap) (hi:=ap) h).mono ?_;rintro _ ao _ ⟨a1,n,at_,rfl,aq,a2⟩;obtain⟨ae,aJ⟩:=a1.of;have bC:=ae.size;have I:=xD sizes s;rw[aC (v:=.int .i64 n) rfl,aC (v:=.int .i64 at_) rfl];have aK:aG .i64 ao sv sizes:=hr aR ae fun r W a n c af aw=>(ac r ⟨a,n,c,af,aw⟩).1 W;have bD:∀ r,leads sv r→¬bu g gs A r∧r<ao.heap.size:=fun r W=>⟨(ac r W).1,by have:=(ac r W).2;omega⟩;have rest:∀ V,Ext ao V→(∀ q,aW (-ap) ap s=some q→¬n<0)→ ∀ N:Nat,n=(N:Int)→(N:Int)≤ap→ ∀ U,am (bu g gs A) V U→cN U g gs A B clean (((aW (-ap) ap s).map (·.2)).map (hy n))→
   ∀ v w' l,eL U g gs A B clean ((ev (de sizes) N [] (((aW (-ap) ap s).map (·.2)).map (hy n))).map (·.2)) w'→dx (dU U.heap.size) bt w' [v] (show List (List Int×Int) from l)→(∀ q,ev (de sizes) N [] (((aW (-ap) ap s).map (·.2)).map (hy n))=some q→l=q.1)→
   eL w g gs A B clean ((gD sizes s).map (·.2)) w'∧ ∃ l,Seen (fun r=>ce g gs A B r∨w.heap.size≤r) w' [v] (show List (List Int×Int) from l)∧ ∀ q,gD sizes s=some q→l=q.1:=by
  intro V J ai N aA aB U Y aD v w' l a6 a7 a8;obtain⟨ba,bb⟩:=a6.of;have bc:=J.size;have z3:=Y.size;have e:gD sizes s=ev (de sizes) N [] (((aW (-ap) ap s).map (·.2)).map (hy n)):=by
   rw[I];cases E:aW (-ap) ap s with
   |none=>rfl
   |some q=>
    obtain⟨bd,Z⟩:=q;have:=aq _ E;subst this;simp only;rw[if_neg (ai _ E),aA,c7];rfl
  rw[e];refine⟨eL.mk (((ae.trans (J.ad _)).trans Y).trans ba) bb,l,q3 a7 fun r _ h=>?_,a8⟩;rcases h with h|h
  ·have h:U.heap.size≤r:=h;exact .inr (by omega)
  ·exact h.elim
 refine aV (fun v V=>Ext ao V∧v= .bool (decide (n<0∧(aW (-ap) ap s).isSome=true))) ?_ ?_
 rotate_left
 ·intro be ak;refine (nl aJ).mono ?_;rintro _ V _ ⟨rfl,J⟩;cases E:aW (-ap) ap s with
  |none=>
   rw[show ((none:Option (Int×ay)).map (·.2)).isSome=false from rfl,aU];exact ak _ _ ⟨J,by rw[decide_eq_false];rintro⟨_,h⟩;rw[E] at h;cases h⟩
  |some q=>
   rw[show ((some q:Option (Int×ay)).map (·.2)).isSome=true from rfl,bm,au];exact ak _ _ ⟨J,by congr 1;rw[W5,decide_eq_true_eq,decide_eq_true_eq,E];exact⟨fun h=>⟨h,rfl⟩,fun h=>h.1⟩⟩
 rintro _ V ⟨J,rfl⟩;have aa:=aJ.ext J;have bc:=J.size;rw[ag];refine⟨fun ai=>?_,fun bf=>?_⟩
 rotate_left
 ·have ai:∀ q,aW (-ap) ap s=some q→¬n<0:=fun q E h=>bf ⟨h,by rw[E];rfl⟩;obtain⟨N,aA,aB⟩:∃ N:Nat,n=(N:Int)∧(N:Int)≤ap:=by
   cases E:aW (-ap) ap s with
   |none=>rw[a2 E];exact⟨0,rfl,by unfold ap;omega⟩
   |some q=>
    have h1:=ai q E;have bg:=kH (n:=q.1) (s':=q.2) E;have bh:=aq q E;exact⟨n.toNat,by omega,by omega⟩
  refine De (at_:=at_) aa (fun t bi=>?_) fun U Y aD=>?_
  ·obtain⟨q,E,rfl⟩:=Z6.1 bi;have bg:=kH (n:=q.1) (s':=q.2) E;have bh:=aq q E;refine⟨by omega,by omega,?_⟩;cases s with
   |none=>cases E
   |some s0=>
    have aL:=(c0 (n:=q.1) (s':=q.2) E).eqs;have aM:=hi s0 rfl;intro aN;rw[aL.1];rw[aL.2.1] at aN;exact aM aN
  ·have z3:=Y.size;have bj:am (bu g gs A) w U:=(ae.trans (J.ad _)).trans Y;subst aA;refine Dj (N:=N) aD ((hr (aK.ext J) Y fun r W a n c af aw=>(ac r ⟨a,n,c,af,aw⟩).1 W)) (fun r W=>⟨(ac r W).1,by have:=(ac r W).2;omega⟩) aS aT (aX.ad bj h1.1) h1 aB fun v w' l a b c=>?_;exact rest V J ai N rfl aB U Y aD v w' l a b c
 ·obtain⟨bk,bl⟩:=ai;obtain⟨⟨bd,Z⟩,E⟩:=Option.isSome_iff_exists.1 bl;have:=aq _ E;subst this;have bE:=kH E;rw[E] at I aa;simp only at I;rw[if_pos bk] at I;have aa:cI V g gs A B Z clean:=aa;obtain⟨_,aM,bF,big,bG,bH,told,bI,aE,bJ,aF⟩:=id aa;have bK:ap=4611686018427387904:=rfl;refine aV (fun v U=>Ext V U∧v= .bool (decide (gD sizes s=none))) ?_ ?_
  ·rintro _ U ⟨X,rfl⟩;rw[ag];refine⟨fun bo=>?_,fun aO=>?_⟩
   ·refine (rr (aa.ext X) (by omega)).mono ?_;rintro _ bL _ ⟨bp,bq⟩;rw[bo];refine⟨eL.mk (((ae.trans (J.ad _)).trans (X.ad _)).trans (bp.mono fun r _ h=>.inl h)) bq,[],iI,fun q E=>by cases E⟩
   ·cases aj:Z.shared[(-n-1).toNat]? with
    |none=>rw[aj] at I;exact absurd I aO
    |some q=>
     obtain⟨z,l⟩:=q;rw[aj] at I;simp only at I;have br:z=sizes:=by
      by_cases ab:z=sizes
      ·exact ab
      ·rw[if_neg ab] at I;exact absurd I aO
     rw[if_pos br] at I;rw[az,ah bn.p rfl,al (by kernel_rfl) ((aE.ext X).cell (o:=0+6) rfl),kt,wrap_i64 (by omega) (by omega),dw,wrap_i64 (by omega) (by omega)];refine q5 (α:=gB) (m:=true) (S:=A) (R:=ce g gs A B) (i:=(-n-1).toNat) (a:=(z,l)) (by omega) dz.u fX.i (dc aF X) aj fun b o cs aH aI=>?_;obtain⟨u,v,rfl,hu,af⟩:=xE aI;rw[ah fX.p rfl,al (by kernel_rfl) (aH 1 v rfl)];rw[I];refine⟨eL.mk ((ae.trans (J.ad _)).trans (X.ad _)) (aa.ext X),l,q3 af fun r _ h=>?_,fun q E=>by cases E;rfl⟩;rcases h with h|h
     ·exact h.elim
     ·exact .inl h
  ·intro be ak;rw[kt,wrap_i64 (by omega) (by omega),az,ah bn.p rfl,al (by kernel_rfl) (aE.cell (o:=0+6) rfl),iJ dz.u aF,bT,ag];refine⟨fun aP=>ak _ _ ⟨Ext.refl _,?_⟩,fun aQ=>?_⟩
   ·have aP:(Z.shared.length:Int)<0-n:=aP;rw[Z7 (by omega)] at I;rw[decide_eq_true I]
   ·have aQ:¬(Z.shared.length:Int)<0-n:=aQ;have bw:(-n-1).toNat<Z.shared.length:=by omega
    obtain⟨⟨z,l⟩,aj⟩:∃ q,Z.shared[(-n-1).toNat]? =some q:=⟨_,x3 bw⟩;rw[az,ah bn.p rfl,al (by kernel_rfl) (aE.cell (o:=0+6) rfl),kt,wrap_i64 (by omega) (by omega),dw,wrap_i64 (by omega) (by omega)];refine q5 (α:=gB) (m:=true) (S:=A) (R:=ce g gs A B) (i:=(-n-1).toNat) (a:=(z,l)) (by omega) dz.u fX.i aF aj fun b o cs aH aI=>?_;obtain⟨u,v,rfl,hu,af⟩:=xE aI;rw[ah fX.p rfl,al (by kernel_rfl) (aH 0 u rfl)];refine (A1 (kz hu) (aK.ext J)).mono ?_;rintro _ U _ ⟨rfl,X⟩;rw[b4];refine ak _ _ ⟨X,?_⟩;rw[aj] at I;simp only at I;by_cases ab:z=sizes
    ·rw[if_pos ab] at I;rw[decide_eq_true ab,decide_eq_false (by rw[I];simp)];rfl
    ·rw[if_neg ab] at I;rw[decide_eq_false ab,decide_eq_true I];rfl
abbrev nm (n:Nat):av:=fun r=>r<n
def pZ (n:Int) (k:Nat) (s:Option ay):Option (List Int×ay):=s.bind (ea n k)
theorem Dl {w:x5} {g gs k:Nat} {A B:av} {s:Option ay} {clean:Bool} {m:Int} (h:cN w g gs A B clean s) (U:k≤4611686018427387904) (hm:0≤m∧m≤1000000):
  O y0 k5 [.pointer (some ⟨g,0,none⟩),.int .i64 (k:Int),.int .i64 m] w fun v w'=>eL w g gs A B clean ((pZ m k s).map (·.2)) w'∧
   ∃ V l,aq .i64 af w' V v l∧(∀ r,leads v r→w.heap.size≤r)∧l.length≤100001∧ ∀ q,pZ m k s=some q→l=q.1:=by
 cases s with
 |some s=>exact Ca (s:=s) h U hm
 |none=>
  have h:dH w g gs A B:=h;apply k5.enter;refine⟨fun out W X=>w=X∧out= .slice none 0 0∧W= .int .i64 0,fun _ _ _=>0,⟨rfl,rfl,rfl⟩,?_⟩;rintro _ _ _ ⟨rfl,rfl,rfl⟩;refine aV (fun v I=>Ext w I∧v= .bool false) ?_ ?_
  ·rintro _ I ⟨E,rfl⟩;rw[aU];exact⟨eL.mk (E.ad _) (h.ext E),0,[],aq.nil _ _ _ _,fun r Y=>absurd Y (fun h=>by obtain⟨a,n,c,h,_⟩:=h;cases h),by simp,fun q Z=>by cases Z⟩
  ·intro aa J;rw[au,ag];refine⟨fun _=>?_,fun _=>J _ _ ⟨Ext.refl _,rfl⟩⟩;refine (lF h).mono ?_;rintro _ I _ ⟨rfl,E⟩;exact J _ _ ⟨E,rfl⟩
def rH (z:List Int) (l:List (List Int×Int)) (s:ay):ay:={s with shared:=s.shared++[(z,l)]}
def xF (w:x5) (g gs:Nat):Prop:=∃ (e big E I told:Int) (sv:x4),ak w g bn (eE gs e big E I told sv)∧e≠0
def fm (w:x5) (g gs:Nat) (A:av) (B:av) (clean:Bool) (s:Option ay):Prop:=match s with
 |some s=>cI w g gs A B s clean
 |none=>xF w g gs
theorem cN.q {w:x5} {g gs:Nat} {A:av} {B:av} {clean:Bool} {s:Option ay} (h:cN w g gs A B clean s):fm w g gs A B clean s:=by
 cases s with
 |some s=>exact h
 |none=>
  obtain⟨_,e,big,E,I,told,sv,l,J,O,_⟩:=h;exact⟨e,big,E,I,told,sv,J,O.1⟩
theorem fm.ad {S:Nat→Prop} {w w':x5} {g gs:Nat} {A:av} {B:av} {clean:Bool} {s:Option ay} (h:fm w g gs A B clean s) (E:am S w w') (J:¬S g) (O:∀ r,bu g gs A r→r<w.heap.size→¬S r) (U:∀ r,ce g gs A B r→¬S r):fm w' g gs A B clean s:=by
 cases s with
 |some s=>
  have h:cI w g gs A B s clean:=h;exact cI.ad h E (fun r I=>O r I (h.1.2.2.2.1 r I)) U
 |none=>
  obtain⟨e,big,V,W,told,sv,X,Y⟩:=h;exact⟨e,big,V,W,told,sv,X.ad E J,Y⟩
theorem fm.ext {w w':x5} {g gs:Nat} {A:av} {B:av} {clean:Bool} {s:Option ay} (h:fm w g gs A B clean s) (E:Ext w w'):fm w' g gs A B clean s:=h.ad (E.ad fun _=>False) (fun h=>h) (fun _ _ _ h=>h) (fun _ _ h=>h)
theorem xG {w:x5} {g gs:Nat} {A:av} {B:av} {s:Option ay} {clean:Bool} (h:fm w g gs A B clean s):O y0 ef [.pointer (some ⟨g,0,none⟩)] w fun v w'=>v= .bool s.isSome∧Ext w w':=by
 cases s with
 |none=>
  obtain⟨e,big,U,V,told,sv,E,I⟩:=h;refine (tm E).mono ?_;rintro _ W _ ⟨rfl,J⟩;exact⟨by rw[decide_eq_false I];rfl,J⟩
 |some s=>exact ne h
theorem fE.bz {S:Nat→Prop} {w w':x5} {g:Nat} {R R':Nat→Prop} {toks:List (List Int)} {clean:Bool} (h:fE w g R toks clean) (I:am S w w') (O:¬S g) (U:∀ r,R r→¬S r) (V:∀ r,R r→R' r):fE w' g R' toks clean:=by
 obtain⟨W,p,a,⟨h1,X,Y,Z,aa,ab⟩,J,ac⟩:=h;exact⟨W,p,a,⟨h1,X,Y,Z.ad I O,aa,br ab I fun r E=>U r (J r E)⟩,fun r E=>V r (J r E),ac⟩
theorem jJ {α:Type} [aA α] {m:Bool} {S R:av} {w:x5} {v:x4} {l:List α} (h:aA.rep m S R w [v] l):∃ a n c,v= .slice a n c:=by
 obtain⟨vs,I,F,J,he,E,hm⟩:=ky h;obtain⟨O,b,o,base,cap,rfl,_⟩:=E;exact⟨_,_,_,rfl⟩
def iS (w:x5) (g gs:Nat) (A:av) (B:av) (R:av) (clean:Bool) (s:Option ay):Prop:=match s with
 |some s=>iO w g gs A B∧fE w gs R s.toks clean∧(0≤s.told∧s.told≤ap∧s.shared.length+s.toks.length≤100000)∧
  ∃ big E I told sv,ak w g bn (eE gs 0 big E I told sv)∧((s.big=true↔big≠0)∧(s.big=false→told=s.told))∧dx A R w [sv] (show List gB from s.shared)
 |none=>xF w g gs
theorem iS.ad {S:Nat→Prop} {w w':x5} {g gs:Nat} {A R:av} {B:av} {clean:Bool} {s:Option ay} (h:iS w g gs A B R clean s) (E:am S w w') (V:¬S g) (W:∀ r,bu g gs A r→r<w.heap.size→¬S r) (X:∀ r,R r→¬S r):iS w' g gs A B R clean s:=by
 cases s with
 |some s=>
  obtain⟨h1,Y,Z,big,I,J,told,sv,O,U,aa⟩:=h;have ab:=h1.2.2.2.1;exact⟨h1.ad E,Y.ad E (W gs (.inr (.inl rfl)) (ab _ (.inr (.inl rfl)))) X,Z,big,I,J,told,sv,O.ad E V,U,aA.ad aa E fun r ac h=>h.elim (fun h=>W r (.inr (.inr h)) ac) (X r)⟩
 |none=>
  obtain⟨e,big,I,J,told,sv,O,U⟩:=h;exact⟨e,big,I,J,told,sv,O.ad E V,U⟩
theorem iS.out {w:x5} {g gs:Nat} {A R B E:av} {clean:Bool} {s:Option ay} (h:iS w g gs A B R clean s) (I:∀ r,R r→ce g gs A E r) (J:∀ r,E r→r<w.heap.size):fm w g gs A E clean s:=by
 cases s with
 |some s=>
  obtain⟨⟨O,U,V,W,ai⟩,⟨X,p,a,Y,Z,aa⟩,ab,big,ac,ad,told,sv,ae,af,ag⟩:=h;exact⟨⟨O,U,V,W,J⟩,⟨X,p,a,Y,fun r ah=>I r (Z r ah),aa⟩,ab,big,ac,ad,told,sv,ae,af,aA.mono ag (fun _ _ h=>h) fun r _ h=>I r h⟩
 |none=>exact h
theorem cN.qr {w:x5} {g gs:Nat} {A R:av} {B:av} {clean:Bool} {s:Option ay} (h:cN w g gs A B clean s) (U:∀ r,ce g gs A B r→R r):iS w g gs A B R clean s:=by
 cases s with
 |some s=>
  obtain⟨h1,⟨V,p,a,W,X,Y⟩,Z,big,E,I,told,sv,J,O,aa⟩:=h;exact⟨h1,⟨V,p,a,W,fun r ab=>U r (X r ab),Y⟩,Z,big,E,I,told,sv,J,O,aA.mono aa (fun _ _ h=>h) fun r _ h=>U r h⟩
 |none=>
  obtain⟨_,e,big,E,I,told,sv,l,J,O,_⟩:=h;exact⟨e,big,E,I,told,sv,J,O.1⟩
set_option maxHeartbeats 2000000 in
theorem Dm {w:x5} {g gs ap:Nat} {A B R:av} {s:Option ay} {clean:Bool} {a7 aT u v:x4} {z:List Int} {l:List (List Int×Int)} {K:x5→Prop} (h:cN w g gs A B clean s) (aq:∀ r,ce g gs A B r→R r) (aH:∀ r,R r→ce g gs A (nm w.heap.size) r)
  (aI:∀ t,s=some t→t.shared.length+1+t.toks.length≤100000) (aJ:ak w ap bf [a7,u,aT,v])
  (hu:aA.rep (α:=List Int) false bt R w [u] z) (aK:aA.rep (α:=List (List Int×Int)) false bt R w [v] l)
  (aU:∀ w' J,am (bu g gs A) w w'→(∀ r,J r→A r∨w.heap.size≤r)→iS w' g gs J (nm w.heap.size) R clean (s.map (rH z l))→K w'):
  I y0 (aj (.pointer (some ⟨g,0,none⟩))) w fun au=>
  I y0 (x2 bn au 3) w fun aw=>
  I y0 (x1 dz aw) w fun aL=>
  I y0 (x2 bf (.pointer (some ⟨ap,0,none⟩)) 1) w fun t76=>
  I y0 (x1 ae t76) w fun t77=>
  I y0 (x2 bf (.pointer (some ⟨ap,0,none⟩)) 3) w fun aV=>
  I y0 (x1 eg aV) w fun aW=>
  I y0 (Z3 fX #[(0,t77),(1,aW)]) w fun aX=>
  aa y0 (u9 dz 1 #[(0,aX)]) w fun aY Y=>
   (Ext w Y∨ai y0 (x1 dz aw) aL Y∧ai y0 (x2 bn au 3) aw Y∧ai y0 (aj (.pointer (some ⟨g,0,none⟩))) au Y∧True)∧
   aa y0 (r8 #[dz,dz] dz #[aL,aY]) Y fun aZ ax=>
    I y0 (aj (.pointer (some ⟨g,0,none⟩))) ax fun a1=>
    I y0 (x2 bn a1 3) ax fun a2=>
    aa y0 (x6 dz a2 aZ) ax fun(_:Unit) a6=>K a6:=by
 obtain⟨a8,e,big,O,U,told,sv,ac,V,af,bl,ba⟩:iO w g gs A B∧ ∃ e big O U told sv,∃ ac:List gB,ak w g bn (eE gs e big O U told sv)∧dx A R w [sv] ac∧ac.length≤100000∧
   ∀ w' J W,iO w' g gs J (nm w.heap.size)→am (fun r=>A r∨r=g) w w'→ak w' g bn (eE gs e big O U told W)→dx J R w' [W] (ac++[((z,l):gB)])→iS w' g gs J (nm w.heap.size) R clean (s.map (rH z l)):=by
  cases s with
  |none=>
   obtain⟨h1,e,big,O,U,told,sv,l',aB,ag,aC⟩:=h;exact⟨h1,e,big,O,U,told,sv,l',aB,aA.mono aC (fun _ _ h=>h) fun r _ h=>aq r h,ag.2,fun w' J W aM _ V af=>⟨e,big,O,U,told,W,V,ag.1⟩⟩
  |some s=>
   obtain⟨h1,bb,aN,big,O,U,told,sv,aB,ag,aC⟩:=h;have aI:=aI s rfl;refine⟨h1,0,big,O,U,told,sv,s.shared,aB,aA.mono aC (fun _ _ h=>h) fun r _ h=>aq r h,(show s.shared.length≤100000 by omega),fun w' J W aM bc V af=>⟨aM,?_,⟨aN.1,aN.2.1,?_⟩,big,O,U,told,W,V,ag,af⟩⟩
   ·exact fE.bz bb bc (fun he=>he.elim h1.2.2.1 fun h=>h1.1 h.symm) (fun r E he=>he.elim (fun h=>E.1 (.inr (.inr h))) fun h=>E.1 (.inl h)) aq
   ·show (s.shared++[(z,l)]).length+s.toks.length≤100000;simp;omega
 obtain⟨bd,aD,be,aO,bm⟩:=id a8;rw[az,ah bn.p rfl,al (by kernel_rfl) (V.cell (o:=0+6) rfl),ah bf.p rfl,al (by kernel_rfl) (aJ.cell (o:=0+1) rfl),ah bf.p rfl,al (by kernel_rfl) (aJ.cell (o:=0+3) rfl)];rw[cR (cs:=#[u,v]) (by obtain⟨_,_,_,rfl⟩:=jJ hu;obtain⟨_,_,_,rfl⟩:=jJ aK;kernel_rfl)];have aP:dx (fun _=>False) R w [u,v] ((z,l):gB):=⟨[u],[v],bt,bt,rfl,fun _ h=>h,fun _ h=>h,fun _ _ h _=>h,hu,aK⟩;refine lw (α:=gB) (a:=(z,l)) (cs:=[u,v]) (A:=fun _=>False) (R:=R) dz.u fX.i (by decide) rfl aP fun x bo X _ bg=>?_;have bp:=X.size;refine⟨.inl X,?_⟩;refine mW (α:=gB) (a:=(z,l)) (A:=fun _=>False) (R:=R) dz.u fX.i rfl (dc af X) bg (dc aP X) (fun r _ bh Z=>?_) (by omega) (by omega) fun aQ bi aE aF=>?_
 ·rcases Z with Z|Z
  ·exact Z
  ·exact (aH r Z).1 (.inr (.inr bh))
 have bq:=aF.size;have bj:=(V.ext X).ad aF aD;rw[az,ah bn.p rfl];refine bH (g:=g) (o:=6) dz.i (q4 aE) (sR aE) bj (by simp[eE]) fun ao aR br aG=>?_;have aG:ak ao g bn (eE gs e big O U told aQ):=aG;have aS:am (fun r=>A r∨r=g) w ao:=((X.ad _).trans (aF.mono fun r _ h=>.inl h)).trans (aR.mono fun r _ h=>.inr h);let J:av:=fun r=>(A r∨w.heap.size≤r)∧r<bi.heap.size;have bw:g<w.heap.size:=aO g (.inl rfl);have bx:gs<w.heap.size:=aO gs (.inr (.inl rfl));have bk:=aA.mono (S':=J) (R':=R) aE (fun r E h=>⟨h.elim .inl fun h=>h.elim False.elim fun h=>.inr (by omega),E⟩) (fun r E h=>h);refine aU ao J (aS.mono fun r _ h=>h.elim (fun h=>.inr (.inr h)) .inl) (fun r E=>E.1) (ba ao J aQ ⟨bd,fun h=>h.1.elim aD fun h=>by omega,fun h=>h.1.elim be fun h=>by omega,fun r E=>?_,?_⟩ aS aG (aA.ad bk aR fun r E ab he=>?_))
 ·rcases E with rfl|rfl|E
  ·omega
  ·omega
  ·have:=E.2;omega
 ·intro r E;have E:r<w.heap.size:=E;omega
 ·have he:r=g:=he;subst he;rcases ab with ab|ab
  ·exact ab.1.elim aD fun h=>by omega
  ·exact (aH _ ab).1 (.inl rfl)
set_option maxHeartbeats 2000000 in
theorem Dn {w:x5} {E:Nat} {a7 ac:x4} {scope all:List Int} {aD:x5→Prop} (aE:ak w E bf [a7,.slice none 0 0,.int .i64 0,.slice none 0 0]) (aF:aG .i64 w a7 scope) (aQ:∀ r,leads a7 r→r≠E)
  (aR:aG .i64 w ac all) (aT:∀ r,leads ac r→r≠E) (aU:∀ v∈scope,0≤v∧v<all.length) (bj:scope.length≤100001)
  (aV:∀ w' aw O,am (fun r=>r=E) w w'→ak w' E bf [a7,aw,.int .i64 0,.slice none 0 0]→aq .i64 af w' O aw (scope.map fun v=>all.getD v.toNat 0)→w.heap.size≤O→aD w'):
 bd (.int .i64 0) w fun ax Z k=>
  I y0 (U .lss J false false ax (.int .i64 (scope.length:Int))) Z fun aW=>
  Split aW (I y0 (x7 ae a7 ax) Z fun aX=>
  I y0 (x1 af aX) Z fun aY=>
  aS Z fun W=>
  I y0 (x2 bf (.pointer (some ⟨E,0,none⟩)) 1) W fun t39=>
  I y0 (x1 ae t39) W fun aH=>
  I y0 (x7 ae ac aY) W fun aZ=>
  I y0 (x1 af aZ) W fun a1=>
  aa y0 (u9 ae 1 #[(0,a1)]) W fun t45 aj=>
   (Ext W aj∨ai y0 (x1 ae t39) aH aj∧ai y0 (x2 bf (.pointer (some ⟨E,0,none⟩)) 1) t39 aj∧True)∧
  aa y0 (r8 #[ae,ae] ae #[aH,t45]) aj fun t46 aI=>
   I y0 (x2 bf (.pointer (some ⟨E,0,none⟩)) 1) aI fun a2=>
   aa y0 (x6 ae a2 t46) aI fun(_:Unit) aJ=>
    I y0 (U .add J false true ax (.int .i64 1)) aJ fun a6=>
  k a6 aJ) (aD Z):=by
 have bk:=aE.lt;refine bd.range scope.length (fun i V=>am (fun r=>r=E) w V∧ ∃ aw O,ak V E bf [a7,aw,.int .i64 0,.slice none 0 0]∧aq .i64 af V O aw ((scope.take i).map fun v=>all.getD v.toNat 0)∧w.heap.size≤O) aF.le ⟨am.refl _ _,_,w.heap.size,aE,aq.nil _ _ _ _,o7 _⟩ ?_ ?_
 rotate_left
 ·rintro V a8 ⟨X,aw,O,ao,ap,aK⟩;rw[l5] at ap;rw[au,ag];exact⟨fun h=>by omega,fun _=>aV V aw O X ao ap aK⟩
 rintro i V a8 hi ⟨X,aw,O,ao,ap,aK⟩ ba;obtain⟨v,ay⟩:∃ v,scope[i]? =some v:=⟨_,x3 hi⟩;have bl:=aU v (u5 ay);have bb:all[v.toNat]? =some (all.getD v.toNat 0):=by
  rw[p8,x3 (by omega)];rfl
 have bc:aG .i64 V a7 scope:=hr aF X fun r av a n c az aA=>aQ r ⟨a,n,c,az,aA⟩ av;have be:aG .i64 V ac all:=hr aR X fun r av a n c az aA=>aT r ⟨a,n,c,az,aA⟩ av;rw[au,ag];refine⟨fun _=>?_,fun h=>by omega⟩;rw[bw ae.u af.i (by kernel_rfl) bc ay];intro bm Y _ _;have bn:=X.size;have bo:=Y.size;rw[ah bf.p rfl,al (by kernel_rfl) ((ao.ext Y).cell (o:=0+1) rfl)];rw[eV (y:=v) (i:=v.toNat) (by omega) ae.u af.i (by kernel_rfl) (be.ext Y) bb];refine dT ae.u af.i rfl fun a bp bq br ab bg=>?_;refine⟨.inl ab,?_⟩;have z3:=ab.size;refine gW ae.u af.i rfl ((ap.ext Y).ext ab) bg.ls (by simp;omega) (by simp;omega) fun aM aN bt bu aB aO=>?_;rw[ah bf.p rfl];have bh:=((ao.ext Y).ext ab).ad aO (fun he=>by have he:E=O:=he;omega);refine bH (g:=E) (o:=1) ae.i aB.ls.cells.1 aB.ls.cells.2 bh (by simp) fun bi aP bx aC=>?_;have aC:ak bi E bf [a7,aM,.int .i64 0,.slice none 0 0]:=aC;rw[aL];refine ba _ ⟨(fD (X.trans ((Y.trans ab).ad _)) aO fun r av he=>by have he:r=O:=he;omega).trans aP,aM,aN,aC,?_,by omega⟩;rw[o4,ay,c8,j0];exact aB.ad aP (fun _ he=>by have he:aN=E:=he;omega)
abbrev fH:Type:=Rd (List Int)×Rd (List Int)×Int×Rd (List (List Int×Int))
def fo (f:ca):fH:=(f.scope,f.sizes,f.other,f.lines)
theorem xH {w:x5} {R:av} {a7 aw bP:x4} {o:Int} {sc E:List Int} {l:List (List Int×Int)} (h1:aA.rep (α:=List Int) false bt R w [a7] sc) (I:aA.rep (α:=List Int) false bt R w [aw] E) (J:aA.rep (α:=List (List Int×Int)) false bt R w [bP] l):
  Seen R w [a7,aw,.int .i64 o,bP] ((sc,E,o,l):fH):=
 ⟨[a7],[aw,.int .i64 o,bP],bt,bt,rfl,fun _ h=>h,fun _ h=>h,fun _ _ h _=>h,h1,[aw],[.int .i64 o,bP],bt,bt,rfl,fun _ h=>h,fun _ h=>h,fun _ _ h _=>h,I,[.int .i64 o],[bP],bt,bt,rfl,fun _ h=>h,fun _ h=>h,fun _ _ h _=>h,rfl,J⟩
theorem p0 {w:x5} {R:av} {g:Nat} {v:x4} {l:List Int} {e:o6} (h:aq .i64 e w g v l) (O:∀ r,leads v r→R r):aA.rep (α:=List Int) false bt R w [v] l:=by
 have h1:dx (fun r=>r=g) bt w [v] l:=mX h;obtain⟨vs,U,F,ac,he,V,hm⟩:=ky h1;refine⟨v,rfl,vs,U,fun _ _=>False,⟨fun _ _ h=>h,fun h=>(by cases h),fun h=>by cases h⟩,⟨he.1,fun i c a W X=>?_⟩,?_,fun h=>by cases h⟩
 ·exact he.2 i c a W X
 ·obtain⟨E,b,o,base,cap,rfl,Y,Z,I,ad,aa⟩:=V;refine⟨E,b,o,base,cap,rfl,Y,Z,I,fun J=>.inr (O b ?_),aa⟩;have ab:0<l.length:=by
   rw[E] at J;rcases Nat.eq_zero_or_pos l.length with h|h
   ·rw[h,Nat.zero_mul] at J;omega
   ·exact h
  exact⟨⟨b,o,none⟩,l.length,cap,by rw[I ab],rfl⟩
theorem xI {α:Type} [aA α] {w:x5} {R R':av} {cs:List x4} {a:α} (h:Seen R w cs a) (E:∀ r,r<w.heap.size→R r→R' r):Seen R' w cs a:=aA.mono h (fun _ _ h=>h) E
end Go.Proofs.YtgbkinibgjmodaaGreatDoor
