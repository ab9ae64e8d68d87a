/- own texts, made small by a tool (wip/ holds them as they were written): no statement of the seat. -/
import Derived.Test.YthjegppepbbojaaGreatDoorYa
set_option linter.unusedVariables false
set_option linter.unusedSimpArgs false
set_option linter.unnecessarySimpa false
open Array renaming getElem?_eq_some_iff→o7,getElem?_toList→U5
open BitVec renaming ofInt→V9
open Bool renaming not_true→Y0,not_false→Y9,eq_iff_iff→X8,and_eq_true→W0,or_eq_false_iff→U3
open Decidable renaming not_not→Z6
open Go renaming Value→y0,World→x1,TypeId→u9,IntKind→o4,Builtin→l6,Program→Y3,Oper→W9,Operand→U1
open Go.Addr renaming add_mid→W7
open Go.Builtin renaming append_→l9,len_→Y4
open Go.Instr renaming loadAt→x6,fieldAt→x8,storeAt→n0,indexAt→j9,extract→c9,buildSlice→b6,sliceAt→X4
open Go.IntKind renaming i64→X5,u64→W6
open Go.Proofs.Tryz renaming prog→x5
open Go.Result renaming andThen→Z9
open Go.Sem renaming run_bind→Z8,run_pure→Y5
open Go.Sort renaming Holds→U2
open Go.Value renaming int→X0
open Int renaming toNat_natCast→j6
open List renaming mem_of_getElem?→x2,getElem?_eq_some_iff→x3,getElem?_eq_getElem→x4,getElem?_map→x7,getD_eq_getElem?_getD→u4,take_add_one→u5,replicate→u6,length_append→u7,length_map→r8,mem_append→p8,mem_singleton→p9,take_length→o5,length_take→o6,mem_map→o8,eq_nil_of_length_eq_zero→o9,length_cons→n9,map_append→j4,getElem?_take_of_lt→c7,getElem?_eq_none→c8,take_of_length_le→Z0,range→Z1,getElem?_append_left→Z4,getElem?_append_right→Z7,drop_eq_getElem_cons→Y1,append_assoc→Y2,getElem?_set→Y6,ext_getElem?→Y7,append_nil→Y8,mem_iff_getElem?→X1,pairwise_iff_getElem→X6,length_set→X7,mem_or_eq_of_mem_set→W3,flatMap_cons→V1,length→V3,length_singleton→V5,length_eq_one_iff→V7,getElem?_set_self→V8,mem_cons→U4,getElem_mem→U6
open Nat renaming le_refl→r9,le_trans→Z3,zero_le→Z5,mul_le_mul_right→X2,sub_self→X9,add_mul→W8,zero_add→V0,mul_one→V2,beq→V6
open Option renaming some→l5,toList_some→j5,map_some→c5,isNone_some→c6,map_eq_some_iff→Z2,map→X3,getD_some→V4
open Option.some renaming injEq→b8,inj→b9
open Prod renaming mk→U7
open Prod.mk renaming injEq→W5
variable {e t:u9}{E N gs j m n r:Nat}{at_ c hi k lo o y:Int}{sv v z:y0}{K:y0→Prop}{cs:List y0}{C a ai ks l sizes:List Int}{w w':x1}{clean cx cy:Bool}{R S:Nat→Prop}{toks:List (List Int)}
namespace Go.Vc
open Go Go.RowKit
section
variable {P:Y3} {w:x1}
theorem Ev {J O:u9} {U kn:o4} {b k cap:Nat} {base:Option Addr} {xs:List y0} {K:y0→x1→Prop} (X:y=(k:Int)) (Y:P.underlying t=some (.slice e)) (Z:P.underlying J=some (.int kn)) (hi:aA P e 1 b z) (aa:z.cells= #[z])
  (ab:bM w 1 (.slice base n cap) n xs) (ac:0<k) (V:cap<n+k) (ad:(n+k)*b≤140737488355328) (ae:n+k≤9223372036854775807)
  (af:∀ v g w',g=w.heap.size→Ext w w'→bz w' g e 1 v (n+k) (xs++u6 k z)→K v w'):aw P (l9 #[t,J] O #[.slice base n cap,.int U y]) w K:=by
 subst X;obtain⟨i,hi,ag,rfl,ah⟩:=hi;obtain⟨E,au,o,av,ax,he,ai,ay,aj,ak⟩:=ab;cases he;have al:(l6.firstCells i.size n (.slice base n cap)).run P w.drew= .ok xs.toArray w.drew:=by
  rcases Nat.eq_zero_or_pos n with rfl|am
  ·have:xs=[]:=o9 (by simpa using E);subst this;cases base with
   |none=>exact run_firstCells_none w.drew i.size 0 0 cap
   |some a=>exact run_firstCells_some w.drew i.size 0 a 0 cap [] (by simp) (by simp)
  ·have:=aj am;subst this;refine run_firstCells_some w.drew i.size n _ n cap xs (by rw[ag];exact E) fun j u hu=>?_;rw[W7];exact ak j u hu
 have an:k*i.bytes≤281474976710656:=by
  have:k*i.bytes≤(n+k)*i.bytes:=X2 _ (by omega);omega
 have ao:=Lib.run_append_grow_zeros (P:=P) w t J O e i z U kn Y Z hi ah base n cap xs al k ac (by omega) V (by omega) an (growslice_fits V ad);have ap:n+k≤grownCap w (n+k) cap e:=grownCap_ge w _ _ _;have aq:grownCap w (n+k) cap e≤maxLen:=grownCap_le_maxLen w (n+k) cap e (by simpa[maxLen] using ae);have W:∀ m,l6.zeroCells z.cells m=(u6 m z).toArray:=fun m=>by
  rw[aa];apply Array.ext
  ·simp[size_zeroCells]
  ·intro j h1 ai;simp[l6.zeroCells,Nat.mod_one]
 refine .of ao ((nb w _ (Nat.le_succ _)).trans (ne _ _)) (af _ w.heap.size _ rfl ((oG w _).trans (nc _ _)) ⟨by simp at E;simp[E],.inr ⟨_,xs++u6 k z++u6 (grownCap w (n+k) cap e-(n+k)) z,rfl,?_,ap,aq,?_,?_⟩⟩)
 ·rw[W,W];have:=heap_alloc_new w.drew (.cells (xs.toArray++(u6 k z).toArray++(u6 (grownCap w (n+k) cap e-(n+k)) z).toArray) e);rw[List.append_toArray,List.append_toArray] at this ⊢;exact this
 ·simp at E;simp[E];omega
 ·simp at E;rw[List.take_append_of_le_length (by simp[E]),Z0 (by simp[E])]
theorem wp {E:u9} {base:Option Addr} {c:Nat} (J:P.underlying t=some (.slice e)):
  O P (l6.cap_ #[t] E #[.slice base n c]) w K=K (.int .i64 c):=O.of fun w' _=>by simp[l6.cap_,run_underlying J,goInt]
theorem Ew {g o k c:Nat} (h:aa w g e cs) (U:o+k≤cs.length) (E:k≤c) (J:c≤maxLen):bM w 1 (.slice (some ⟨g,o,none⟩) k c) k ((cs.drop o).take k):=by
 refine⟨by simp;omega,g,o,_,c,rfl,E,J,fun _=>rfl,fun j v ac=>?_⟩;have O:=(x3.1 ac).1;simp at O;rw[c7 (by omega),List.getElem?_drop] at ac;exact h.cell ac
theorem wq {O V:u9} {W g o cap:Nat} {K:y0→x1→Prop} (X:P.underlying t=some (.slice e)) (hi:aA P e 1 W z) (Y:z.cells= #[z]) (h1:z.oneCell'=true)
  (E:aa w g V cs) (Z:0<n) (ag:o+n≤cs.length)
  (ab:∀ w',ad (fun r=>r=g) w w'→w'.heap.size=w.heap.size→aa w' g V (over cs o (u6 n z))→K (.tuple #[]) w'):aw P (l6.clear_ #[t] O #[.slice (some ⟨g,o,none⟩) n cap]) w K:=by
 obtain⟨i,hi,ah,rfl,ac⟩:=hi;have ae:=Lib.run_clear_slice (P:=P) w t e O z X (fun w=>by simp[zeroValue,typeInfo,hi,ac]) Y h1 g o n cap Z
  (fun j ai=>by rw[E.cell (x4 (show o+j<cs.length by omega))];rfl) (fun j _=>E.frozen _ _)
 obtain⟨af,J⟩:=k2 (u6 n z) cs o w E;exact .of ae (J.cD E) (ab _ J.U J.size af)
end
section
variable {P:Y3} {w:x1}
theorem gn {E:u9} {J k:o4} {i b g:Nat} (U:y=(i:Int)) (V:P.underlying t=some (.slice e)) (hi:aA P e 1 b z)
  (h:ak k E w g v l) (W:i<l.length):O P (j9 t v (.int J y)) w K=K (.pointer (some ⟨g,i,none⟩)):=by
 subst U;obtain⟨_,⟨_,X⟩|⟨cap,cs,rfl,_⟩⟩:=h
 ·omega
 ·rw[gl V hi W (fun _=>rfl)];simp
theorem pK {E k:o4} {i b:Nat} {x:Int} (U:y=(i:Int)) (V:P.underlying t=some (.slice e)) (hi:aA P e 1 b z)
  (h:ay k w v l) (J:l[i]? =some x) (W:∀ b o,w.cell? ⟨b,o,none⟩=some (.int k x)→K (.pointer (some ⟨b,o,none⟩))):O P (j9 t v (.int E y)) w K:=by
 subst U;have X:=(x3.1 J).1;obtain⟨_,_,_,_,_,rfl,_,_,Y,Z⟩:=h;rw[gl V hi X Y,V2];exact W _ _ (Z i _ (iX J))
theorem gp {E:u9} {k:o4} {i b g:Nat} {x:Int} {K:Unit→x1→Prop} (hi:aA P e 1 b z)
  (h:ak k E w g v l) (ac:i<l.length) (U:∀ w',ad (fun r=>r=g) w w'→w'.heap.size=w.heap.size→ak k E w' g v (l.set i x)→K () w'):aw P (n0 e (.pointer (some ⟨g,i,none⟩)) (.int k x)) w K:=by
 obtain⟨ae,⟨_,af⟩|⟨cap,full,rfl,V,W,X,J,O⟩⟩:=h
 ·omega
 ·have Y:i<full.length:=by simp at J;omega
  refine aY hi rfl rfl V Y fun w' Z aa ab=>U w' Z aa ⟨by simp,.inr ⟨cap,full.set i (.int k x),by simp,ab,by simpa using W,X,by simpa using J,?_⟩⟩;simp only[X7,V2] at O ⊢;rw[List.take_set,O,ints,ints,List.map_set]
theorem wr {b o:Nat} (E:iW P t=true) (h:w.cell? ⟨b,o,none⟩=some v):bR P (x6 t (.pointer (some ⟨b,o,none⟩))) v w:=fun w' J=>by
 have h':=kY J h;unfold iW at E;cases hu:P.underlying t with
 |none=>rw[hu] at E;cases E
 |some d=>
  rw[hu] at E;cases d <;> first|(cases E;done)|simp[x6,Instr.sureAddr,loadVar,isAgg,run_underlying hu,h']
theorem hQ {k:o4} {S:am} (h:ay k w v l) (J:ad S w w') (U:∀ r,S r→ ∀ a n c,v= .slice (some a) n c→a.block≠r):ay k w' v l:=by
 obtain⟨h1,b,o,base,cap,rfl,V,W,E,X⟩:=h;refine⟨h1,b,o,base,cap,rfl,V,W,E,?_⟩;rcases Nat.eq_zero_or_pos l.length with O|O
 ·intro j u hu;have:=(x3.1 hu).1;simp at this;omega
 ·have Y:=E O;subst Y;exact pt J (fun h=>U _ h _ _ _ rfl rfl) X
end
end Go.Vc
namespace Go.Vc
open Go Go.RowKit
set_option maxRecDepth 100000
theorem Ex:(⟨#[]⟩:ByteArray)=strOfNums []:=rfl
theorem Ey {E:y0→y0→y0→x1→Prop} {B:(y0→y0→y0→x1→Prop)→Prop} (G:y0→y0→y0→x1→Prop) (h1:∀ t u v w,G t u v w→E t u v w)
  (O:∀ J:y0→y0→y0→x1→Prop,(∀ t u v w,G t u v w→J t u v w)→B J):bX E B:=O E h1
theorem ws {E:y0→y0→y0→y0→x1→Prop} {B:(y0→y0→y0→y0→x1→Prop)→Prop} (G:y0→y0→y0→y0→x1→Prop) (h1:∀ s t u v w,G s t u v w→E s t u v w)
  (O:∀ J:y0→y0→y0→y0→x1→Prop,(∀ s t u v w,G s t u v w→J s t u v w)→B J):bX E B:=O E h1
abbrev be (l:List Int):y0:=.string (strOfNums l)
def Bytes (l:List Int):Prop:=∀ b∈l,0≤b∧b<256
theorem ku (l:List Int):(strOfNums l).size=l.length:=strOfNums_size l
theorem Ez (h:Bytes l) {i:Nat} {b:Int} (hi:l[i]? =some b):(strOfNums l)[i]? =some (UInt8.ofNat b.toNat)∧((UInt8.ofNat b.toNat).toNat:Int)=b:=by
 have U:=h b (x2 hi);have J:=x3.1 hi;refine⟨?_,by rw[UInt8.toNat_ofNat'];omega⟩;have O:i<(strOfNums l).size:=by rw[ku];exact J.1
 rw[getElem?_pos (strOfNums l) i O];congr 1;show (strOfNums l).data[i]=_;have E:(strOfNums l).data.toList[i]? =some (UInt8.ofNat b.toNat):=by rw[strOfNums_data,x7,hi];rfl
 rw[U5] at E;exact (o7.1 E).2
theorem str_inj {b:List Int} (E:Bytes a) (O:Bytes b) (h:strOfNums a=strOfNums b):a=b:=by
 have h1:(strOfNums a).data.toList=(strOfNums b).data.toList:=by rw[h]
 rw[strOfNums_data,strOfNums_data] at h1;have key:∀ {l:List Int},Bytes l→(l.map fun n=>UInt8.ofNat n.toNat).map (fun u=>((u.toNat:Nat):Int))=l:=fun {l} U=>by
  rw[List.map_map]
  conv=>rhs;rw[←List.map_id l]
  refine List.map_congr_left fun x J=>?_;have:=U x J;show (((UInt8.ofNat x.toNat).toNat:Nat):Int)=x;rw[UInt8.toNat_ofNat'];omega
 rw[←key E,←key O,h1]
theorem EA (a b:List Int):strOfNums a++strOfNums b=strOfNums (a++b):=by
 apply ByteArray.ext;rw[ByteArray.data_append];simp[strOfNums]
theorem EB (l:List Int) (i j:Nat):(strOfNums l).extract i j=strOfNums ((l.take j).drop i):=by
 apply ByteArray.ext;rw[ByteArray.data_extract];apply Array.toList_inj.1;rw[Array.toList_extract];simp[strOfNums,List.extract_eq_take_drop,List.map_drop,List.map_take,List.drop_take]
theorem wu (l:List Int):(strOfNums l).toList=l.map fun n=>UInt8.ofNat n.toNat:=by
 rw[ByteArray.toList_eq];exact strOfNums_data l
theorem wv {b:List Int} (E:Bytes a) (J:Bytes b):((strOfNums a).toList == (strOfNums b).toList)=decide (a=b):=by
 rw[X8,beq_iff_eq,decide_eq_true_eq,wu,wu];refine⟨fun h=>str_inj E J ?_,fun h=>by rw[h]⟩;unfold strOfNums;rw[h]
section
variable {P:Y3} {w:x1}
theorem lb {E:u9} (J:P.underlying t=some .string):O P (Y4 #[t] E #[be l]) w K=K (.int .i64 l.length):=O.of fun w' _=>by
 simp[Y4,run_underlying J,goInt,ku]
theorem nB {k:o4} {b:Int} {i:Nat} (E:y=(i:Int)) (J:P.underlying t=some .string) (U:Bytes l) (hi:l[i]? =some b):O P (Instr.index t (be l) (.int k y)) w K=K (.int .u8 b):=O.of fun w' _=>by
 subst E;obtain⟨h1,V⟩:=Ez U hi;have e:(0:Int)≤(i:Int):=by omega
 simp only[Instr.index,asIntOf,Z8,Y5,Z9,run_underlying J];rw[if_pos e,j6,h1];simp only[Y5,V]
theorem r5 {b:List Int} (h:a.length+b.length≤9223372036854775807):O P (ax .add t cx cy (be a) (be b)) w K=K (be (a++b)):=O.of fun w' _=>by
 have:=run_string_add_sum (P:=P) (w:=w') (strOfNums a) (strOfNums b) (by rw[ku,ku];exact h);simp only[ax,eqGuard,binOp];simp[this,EA]
theorem r6 {b:List Int} (E:Bytes a) (J:Bytes b):O P (ax .eql t cx cy (be a) (be b)) w K=K (.bool (decide (a=b))):=O.of fun w' _=>by
 simp[ax,eqGuard,binOp,Op.stringOp,wv E J]
theorem r7 {b:List Int} (E:Bytes a) (J:Bytes b):O P (ax .neq t cx cy (be a) (be b)) w K=K (.bool (decide (a≠b))):=O.of fun w' _=>by
 simp[ax,eqGuard,binOp,Op.stringOp,wv E J]
theorem wx {k:o4} {i:Nat} (E:y=(i:Int)) (J:P.underlying t=some .string) (hi:i≤l.length):O P (X4 t (be l) (some (.int k y)) none none) w K=K (be (l.drop i)):=O.of fun w' _=>by
 have U:=pw (P:=P) w' (sl:=false) (n:=(strOfNums l).size) (c:=(strOfNums l).size) (low:=some (.int k y)) (high:=none) (mx:=none) (l:=i) (h:=(strOfNums l).size) (m:=(strOfNums l).size) (kZ i y E) hp ea (by rw[ku];exact hi) (r9 _) (r9 _);have e:(strOfNums l).extract i (strOfNums l).size=strOfNums (l.drop i):=by rw[EB,ku,o5]
 simp[X4,Instr.slice,run_underlying J,U,e]
theorem sa {s:u9} (E:P.underlying s=some (.slice e)) (he:P.underlying e=some (.int .u8)) (U:P.underlying t=some .string) (h:ay .u8 w v l):O P (convert s t v) w K=K (be l):=O.of fun w' J=>by
 obtain⟨V,b,o,base,cap,rfl,_,_,X,Y⟩:=h.ext J;have V:l.length=l.length*1:=by simpa using V
 by_cases Z:0<l.length
 ·rw[X Z];refine run_convert_bytes_arg w' s e E he b o l.length cap l rfl (fun i hi=>?_) t U;have W:l[i]? =some l[i]:=x4 hi;rw[u4,W];exact Y i _ (iX W)
 ·have aa:l=[]:=o9 (by omega);subst aa;cases base with
  |none=>
   rw[run_convert_bytes_nil w' s e E he _ _ t U];rfl
  |some a=>
   rw[run_convert_bytes_string w' s t e _ _ _ E he U];have:=run_bytesToString (P:=P) w' a 0 cap [] (by have:=run_loadCells_list (P:=P) w' a [] (fun j v ab=>by simp at ab);simpa using this);simp only[List.length_nil];rw[this];rfl
theorem sb {s:u9} {u:TypeDesc} {K:y0→x1→Prop} (V:P.underlying s=some u) (W:P.underlying t=some (.slice e)) (he:P.underlying e=some (.int .u8)) (X:Bytes l) (hm:l.length≤1000000000)
  (Y:∀ v w',Ext w w'→ay .u8 w' v l→(∀ r,(∃ a n c,v= .slice (some a) n c∧a.block=r)→w.heap.size≤r)→K v w'):aw P (convert s t (be l)) w K:=by
 have Z:=Lib.bytesWorld_at_new w e (strOfNums l);have O:=fun j E=>Lib.bytesWorld_at_old w e (strOfNums l) j E;have aa:=Lib.bytesWorld_size w e (strOfNums l);refine .of (Lib.run_convert_string_bytes w s t e (strOfNums l) V W he) ⟨rfl,⟨rfl,Nat.le_succ _⟩,rfl,by omega,fun r o J _=>?_⟩ (Y _ _ ⟨by omega,fun r o J _=>?_⟩ ?_ ?_)
 ·rw[O r (o7.1 J).1];exact J
 ·rw[O r (o7.1 J).1];exact J
 ·rw[ku];refine⟨by simp,w.heap.size,0,_,_,rfl,?_,?_,fun _=>rfl,fun j v ac=>?_⟩
  ·exact grownCap_ge w _ _ _
  ·exact grownCap_le_maxLen w _ _ _ (by simp[maxLen];omega)
  ·have E:j<l.length:=by have:=(x3.1 ac).1;simpa using this
   have U:l[j]? =some l[j]:=x4 E;rw[V0,Lib.bytesWorld_cell w e (strOfNums l) j (by rw[ku];exact E)];rw[iX U] at ac;rw[←b9 ac,strOfNums_data,u4,x7,U];have:=X l[j] (U6 E);simp only[c5,V4];congr 2;rw[UInt8.toNat_ofNat'];omega
 ·rintro r ⟨a,n,c,h1,rfl⟩;cases h1;exact r9 _
end
end Go.Vc
namespace Go.Proofs.YthjegppepbbojaaGreatDoor
open Go Go.Vc Go.RowKit Go.Proofs Go.Proofs.Tryz
set_option maxRecDepth 100000
theorem wy {b:Int} (h:bQ b=true):bi b=false:=by
 have h:=of_decide_eq_true h;unfold bi;rw[decide_eq_false_iff_not];omega
theorem wz {b:Int} {p:List Int} (h:bQ b=true):lex (b::p)=lex p:=by
 rw[ik,ik p,List.dropWhile_cons,if_pos h]
theorem EC {b:Int} {p:List Int} (h:bQ b=false) (E:bi b=false):lex (b::p)=([],false):=by
 rw[ik,List.dropWhile_cons,if_neg (by simp[h])];simp only[E,Bool.false_eq_true,if_false]
theorem wA {b:Int} {p:List Int} (h:bi b=true):lex (b::p)=match p.dropWhile bi with
  |[]=>([b::p.takeWhile bi],true)
  |c::r=>if bQ c then ((b::p.takeWhile bi)::(lex (c::r)).1,(lex (c::r)).2) else ([],false):=by
 have E:bQ b=false:=by
  cases J:bQ b with
  |false=>rfl
  |true=>rw[wy J] at h;cases h
 rw[ik,List.dropWhile_cons,if_neg (by simp[E])];simp only[h,if_true,List.dropWhile_cons,List.takeWhile_cons]
 all_goals (cases List.dropWhile bi p <;> rfl)
def gq:List Int→List (List Int)→List Int→Bool→List (List Int)×Bool
 |[],out,w,op=>(if op then out++[w] else out,true)
 |b::p,out,w,op=>
  if bQ b then gq p (if op then out++[w] else out) [] false
  else if bi b then gq p out (if op then w++[b] else[b]) true
  else (out,false)
theorem nC:∀ (p:List Int) (out:List (List Int)) (w:List Int),gq p out w false=(out++(lex p).1,(lex p).2)∧
  gq p out w true=match p.dropWhile bi with
   |[]=>(out++[w++p.takeWhile bi],true)
   |c::r=>if bQ c then (out++[w++p.takeWhile bi]++(lex (c::r)).1,(lex (c::r)).2) else (out,false)
 |[],out,w=>by simp[gq,ik []]
 |b::p,out,w=>by
  by_cases E:bQ b=true
  ·have hw:=wy E;refine⟨?_,?_⟩
   ·rw[gq,if_pos E,(nC p _ _).1,wz E];simp
   ·rw[gq,if_pos E,if_pos rfl,(nC p _ _).1,List.dropWhile_cons,if_neg (by simp[hw])];simp only[E,if_true,wz E,List.takeWhile_cons,hw,Bool.false_eq_true,if_false,Y8]
  ·have O:bQ b=false:=by cases h:bQ b;rfl;exact absurd h E
   by_cases hw:bi b=true
   ·refine⟨?_,?_⟩
    ·rw[gq,if_neg E,if_pos hw,if_neg (by simp),(nC p _ _).2,wA hw];cases p.dropWhile bi with
     |nil=>simp
     |cons c r=>
      simp only;by_cases J:bQ c=true
      ·simp[J]
      ·simp[J]
    ·rw[gq,if_neg E,if_pos hw,if_pos rfl,(nC p _ _).2,List.dropWhile_cons,if_pos hw,List.takeWhile_cons,if_pos hw];cases p.dropWhile bi with
     |nil=>simp
     |cons c r=>
      simp only;by_cases J:bQ c=true
      ·simp[J]
      ·simp[J]
   ·have U:bi b=false:=by cases h:bi b;rfl;exact absurd h hw
    refine⟨?_,?_⟩
    ·rw[gq,if_neg E,if_neg hw,EC O U];simp
    ·rw[gq,if_neg E,if_neg hw,List.dropWhile_cons,if_neg hw];simp[O]
theorem ED (p:List Int):gq p [] [] false=lex p:=by rw[(nC p [] []).1];simp
def ml:Nat→Nat→List Int
 |0,_=>[]
 |k+1,n=>(if n<10 then[] else ml k (n / 10))++[48+((n % 10:Nat):Int)]
def ei (n:Nat):List Int:=ml (n+1) n
theorem wB:∀ {k m n:Nat},n<k→n<m→ml k n=ml m n
 |k+1,m+1,n,h1,E=>by
  unfold ml;by_cases h:n<10
  ·rw[if_pos h,if_pos h]
  ·rw[if_neg h,if_neg h,wB (k:=k) (m:=m) (n:=n / 10) (by omega) (by omega)]
theorem ld (n:Nat):ei n=(if n<10 then[] else ei (n / 10))++[48+((n % 10:Nat):Int)]:=by
 unfold ei;rw[ml];by_cases h:n<10
 ·rw[if_pos h,if_pos h]
 ·rw[if_neg h,if_neg h,wB (k:=n) (m:=n / 10+1) (by omega) (by omega)]
theorem wC:∀ (k n:Nat),n<k→ ∀ b∈ei n,48≤b∧b≤57
 |k+1,n,J,b,E=>by
  rw[ld] at E;rcases p8.1 E with E|E
  ·by_cases h:n<10
   ·rw[if_pos h] at E;simp at E
   ·rw[if_neg h] at E;exact wC k (n / 10) (by omega) b E
  ·rw[p9] at E;omega
theorem wD (n:Nat):∀ b∈ei n,48≤b∧b≤57:=wC (n+1) n (by omega)
def nD (l:List Int):Int:=l.foldl (fun n b=>10*n+(b-48)) 0
theorem EE (l:List Int) (b:Int):nD (l++[b])=10*nD l+(b-48):=by simp[nD]
theorem sd:∀ (k n:Nat),n<k→nD (ei n)=n
 |k+1,n,E=>by
  rw[ld,EE];by_cases h:n<10
  ·rw[if_pos h];have:nD []=0:=rfl;omega
  ·rw[if_neg h,sd k (n / 10) (by omega)];omega
theorem EF {a b:Nat} (h:ei a=ei b):a=b:=by
 have h1:=sd (a+1) a (by omega);have E:=sd (b+1) b (by omega);rw[h,E] at h1;omega
theorem se:∀ (k n:Nat),n<10 ^ k→1≤k→(ei n).length≤k
 |k+1,n,h,_=>by
  rw[ld,u7];by_cases E:n<10
  ·rw[if_pos E];simp
  ·rw[if_neg E];have J:1≤k:=by
    rcases k with _|k
    ·simp at h;omega
    ·omega
   have O:(10:Nat) ^ (k+1)=10*10 ^ k:=by rw[Nat.pow_succ,Nat.mul_comm]
   have:=se k (n / 10) (by omega) J;simp only[V5];omega
def dl (t:List Int):List Int:=t.flatMap fun v=>ei v.toNat++[32]
theorem EG (t:List Int) (v:Int):dl (t++[v])=dl t++(ei v.toNat++[32]):=by simp[dl]
theorem wE {r:List Int} (E:∀ b∈l,b≠32):(l++32::r).takeWhile (fun b=>decide (b≠32))=l∧(l++32::r).dropWhile (fun b=>decide (b≠32))=32::r:=by
 induction l with
 |nil=>simp
 |cons x l O=>
  have J:=E x (.head _);have:=O fun b U=>E b (.tail _ U);simp only[List.cons_append,List.takeWhile_cons,List.dropWhile_cons];simp only[J,ne_eq,not_false_eq_true,decide_true,if_true];exact⟨by rw[this.1],this.2⟩
theorem wF:∀ {a b:List Int},(∀ x∈a,0≤x)→(∀ x∈b,0≤x)→dl a=dl b→a=b
 |[],[],_,_,_=>rfl
 |[],y::b,_,_,h=>by simp[dl] at h
 |x::a,[],_,_,h=>by simp[dl] at h
 |x::a,y::b,U,V,h=>by
  have e:∀ (z:Int) (l:List Int),dl (z::l)=ei z.toNat++32::dl l:=fun z l=>by simp[dl]
  rw[e,e] at h;have d:∀ z:Int,∀ c∈ei z.toNat,c≠32:=fun z c X=>by have:=wD _ c X;omega
  have E:=wE (r:=dl a) (d x);have W:=wE (r:=dl b) (d y);rw[h] at E;have Y:ei x.toNat=ei y.toNat:=E.1.symm.trans W.1;have Z:=E.2.symm.trans W.2;have J:=U x (.head _);have ab:=V y (.head _);have:=EF Y;have aa:x=y:=by omega
  subst aa;rw[wF (fun z O=>U z (.tail _ O)) (fun z O=>V z (.tail _ O)) (List.cons.inj Z).2]
theorem wG (t:List Int):Bytes (dl t):=fun b E=>by
 obtain⟨v,_,E⟩:=List.mem_flatMap.1 E;rcases p8.1 E with E|E
 ·have:=wD _ b E;omega
 ·rw[p9] at E;omega
theorem wH {b:Int}:ag x5 CJ [.int .u8 b] w fun v w'=>v= .bool (bQ b)∧Ext w w':=by
 refine ap func168 ?_;refine aI (fun v J=>v= .bool (bQ b)∧Ext w J) (fun _ _ h=>h) fun O E=>?_;rw[bc,af];refine⟨fun h=>E _ _ ⟨by unfold bQ;rw[decide_eq_true (.inl h)],Ext.refl _⟩,fun h1=>?_⟩;rw[bc,af];refine⟨fun h=>E _ _ ⟨by unfold bQ;rw[decide_eq_true (.inr (.inl h))],Ext.refl _⟩,fun U=>?_⟩;rw[bc,af];refine⟨fun h=>E _ _ ⟨by unfold bQ;rw[decide_eq_true (.inr (.inr (.inl h)))],Ext.refl _⟩,fun V=>?_⟩;rw[bc];refine E _ _ ⟨?_,Ext.refl _⟩;congr 1;unfold bQ;rw[X8,decide_eq_true_eq,decide_eq_true_eq];omega
theorem EH {b:Int}:ag x5 CI [.int .u8 b] w fun v w'=>v= .bool (bi b)∧Ext w w':=by
 refine ap func167 ?_;refine aI (fun v J=>v= .bool (bi b)∧Ext w J) (fun _ _ h=>h) fun O E=>?_;rw[cn,af];refine⟨fun h=>?_,fun h=>E _ _ ⟨by unfold bi;rw[decide_eq_false (by omega)],Ext.refl _⟩⟩;rw[nv];refine E _ _ ⟨?_,Ext.refl _⟩;congr 1;unfold bi;rw[X8,decide_eq_true_eq,decide_eq_true_eq];omega
def jM (w:x1) (g:Nat) (E:y0) (p:List Int) (at_:Nat) (bad:Int):Prop:=Bytes p∧p.length≤100000∧at_≤p.length∧aa w g fU [E,.int .i64 (at_:Int),.int .i64 bad]∧ ∃ J,ak .u8 b4 w J E p
theorem jM.ext {g:Nat} {E:y0} {p:List Int} {at_:Nat} {bad:Int} (h:jM w g E p at_ bad) (J:Ext w w'):jM w' g E p at_ bad:=by
 obtain⟨h1,O,U,V,W,X⟩:=h;exact⟨h1,O,U,V.ext J,W,X.ext J⟩
theorem EI (h:ay .u8 w v l) (ad:l.length≤100000):ag x5 CD [v] w fun J w'=>Ext w w'∧ ∃ g,ak .u8 b4 w' g J l:=by
 have E:=h;obtain⟨ae,b,o,base,cap,rfl,af,hm,U,ah⟩:=h;refine ap func161 ?_;rw[ma b5.u,ca];refine⟨fun W=>⟨Ext.refl _,0,?_⟩,fun _=>?_⟩
 ·have:l=[]:=by
   cases base with
   |none=>
        by_cases E:0<l.length
        ·have:=U E;cases this
        ·exact o9 (by omega)
   |some a=>cases W
  subst this;exact ak.nil _ _ _ _
 ·refine hN (k:=1) (cs:=#[]) b5.u b4.i (by omega) (by kernel_rfl) fun g X ai O Y=>?_;have Z:ak .u8 b4 X g (.slice (some ⟨g,0,none⟩) 0 0) []:=ak.of (n:=0) (bz.full (by simpa using Y) rfl (by simp));refine hr b5.u b4.i rfl Z (E.ext O) (by simp;omega) (by simp;omega) fun J aa V aj ab ac=>?_;exact⟨O.put ac (by omega),aa,by simpa using ab⟩
theorem wI (h:ay .u8 w v l) (X:Bytes l) (J:l.length≤100000):ag x5 vl [v] w fun Y w'=>Ext w w'∧ ∃ g,Y= .pointer (some ⟨g,0,none⟩)∧w.heap.size≤g∧ ∃ E,jM w' g E l 0 (-1):=by
 refine ap func86 ?_;refine (EI h J).mono ?_;rintro E ab _ ⟨O,Z,U⟩;rw[ct (cs:=#[E,.int .i64 0,.int .i64 (-1)]) (by obtain⟨_,_,_,_,_,rfl,_⟩:=U.ls;kernel_rfl)];refine a7 fun g V ac W aa=>?_;have ad:=O.size;exact⟨O.trans W,g,rfl,by omega,E,X,J,Z5 _,aa,Z,U.ext W⟩
def runN (f:Int→Bool) (p:List Int):Nat:=(p.takeWhile f).length
theorem EJ (f:Int→Bool) (p:List Int):runN f p≤p.length:=(List.takeWhile_sublist f).length_le
theorem wJ {f:Int→Bool} {p:List Int} {i:Nat} {b:Int} (hi:p[i]? =some b) (ae:f b=true):i+runN f (p.drop i)=(i+1)+runN f (p.drop (i+1)):=by
 have E:=x3.1 hi;unfold runN;rw[Y1 E.1,E.2,List.takeWhile_cons,if_pos ae,n9];omega
theorem wK {f:Int→Bool} {p:List Int} {i:Nat} (h:∀ b,p[i]? =some b→f b=false):runN f (p.drop i)=0:=by
 unfold runN;cases E:p[i]? with
 |none=>
  rw[List.drop_of_length_le (List.getElem?_eq_none_iff.1 E)];rfl
 |some b=>
  have J:=x3.1 E;rw[Y1 J.1,J.2,List.takeWhile_cons,if_neg (by simp[h b E])];rfl
theorem EK {g at_:Nat} {ab:y0} {p:List Int} {bad:Int} (h:jM w g ab p at_ bad):ag x5 CH [.pointer (some ⟨g,0,none⟩)] w fun v w'=>v= .int .i64 ((at_+runN bQ (p.drop at_):Nat):Int)∧Ext w w':=by
 obtain⟨an,ao,ac,E,aq,U⟩:=h;refine ap func166 ?_;rw[aD fU.p 1 E rfl];refine⟨fun v W=>Ext w W∧ ∃ i:Nat,v= .int .i64 (i:Int)∧i≤p.length∧i+runN bQ (p.drop i)=at_+runN bQ (p.drop at_),fun v _=>p.length-(bk v).toNat,⟨Ext.refl _,at_,rfl,ac,rfl⟩,?_⟩;rintro _ W ⟨O,i,rfl,hi,he⟩;refine aI (fun v V=>Ext w V∧ ∃ c:Bool,v= .bool c∧(c=true↔ ∃ b,p[i]? =some b∧bQ b=true)) ?_ ?_
 ·rintro _ V ⟨X,c,rfl,Y⟩;rw[ca];refine⟨fun ad=>?_,fun ae=>?_⟩
  ·obtain⟨b,J,ah⟩:=Y.1 ad;have ai:=(x3.1 J).1;rw[aB,wrap_i64 (by omega) (by omega)];exact⟨⟨X,i+1,rfl,ai,by rw[←he,wJ J ah]⟩,by simp only[bk];omega⟩
  ·have aj:=wK (f:=bQ) (p:=p) (i:=i) fun b E=>by
    cases ak:bQ b with
    |false=>rfl
    |true=>rw[Y.2 ⟨b,E,ak⟩] at ae;cases ae
   exact⟨by rw[←he,aj,Nat.add_zero],X⟩
 ·intro au Z;have aa:=E.ext O;rw[aD fU.p 0 aa rfl,aK b5.u (U.ext O).ls,aC,af];refine⟨fun av=>?_,fun aw=>Z _ _ ⟨O,false,rfl,⟨fun h=>(by cases h),fun⟨b,E,_⟩=>by have:=(x3.1 E).1;omega⟩⟩⟩;have al:i<p.length:=by omega
  have J:p[i]? =some p[i]:=x4 al;rw[aD fU.p 0 aa rfl,a1 b5.u b4.i (by kernel_rfl) (U.ext O).ls J];refine wH.mono ?_;rintro _ ax _ ⟨rfl,am⟩;exact Z _ _ ⟨O.trans am,_,rfl,⟨fun h=>⟨_,J,h⟩,fun⟨b,E,h⟩=>by rw[J] at E;cases E;exact h⟩⟩
inductive EL where
 |word (from_ to:Nat)
 |none
 |text (at_:Nat)
def e6 (p:List Int) (at_:Nat):Nat:=at_+runN bQ (p.drop at_)
def gL (p:List Int) (a:Nat):Nat:=a+runN bi (p.drop a)
open Classical in
noncomputable def mm (p:List Int) (at_:Nat):EL:=
 if gL p (e6 p at_)<p.length∧(∀ c,p[gL p (e6 p at_)]? =some c→bQ c=false) then .text (gL p (e6 p at_)) else if e6 p at_=gL p (e6 p at_) then .none else .word (e6 p at_) (gL p (e6 p at_))
def nE (w:x1) (g:Nat) (E:y0) (p:List Int) (at_:Nat) (v:y0) (w':x1):Prop:=
 match mm p at_ with
 | .word a b=>v= .tuple #[be ((p.take b).drop a),.int .i64 (a:Int),.int .i64 0]∧ad (fun r=>r=g) w w'∧jM w' g E p b (-1)
 | .none=>∃ n:Nat,v= .tuple #[be [],.int .i64 (n:Int),.int .i64 2]∧Ext w w'
 | .text b=>v= .tuple #[be [],.int .i64 (b:Int),.int .i64 11]∧ad (fun r=>r=g) w w'∧jM w' g E p at_ (b:Int)
theorem fL {aG:Nat→Prop} {a b c:x1} (h:ad S a b) (k:ad aG b c) (U:∀ r,r<a.heap.size→aG r→S r):ad S a c:=
 ⟨Z3 h.size k.size,fun r o E J O=>k.aX r o (h.aX r o E J O) J fun hu=>O (U r (o7.1 E).1 hu)⟩
theorem bE {g J:Nat} {k:o4} {O:u9} (h:ak k e w g v l) (U:aa w J O cs) (W:e≠O) (V:leads v r):r≠J:=by
 obtain⟨rfl,_⟩:=bp h V;obtain⟨_,⟨rfl,_⟩|⟨_,_,_,E,_⟩⟩:=h
 ·obtain⟨a,n,c,h,_⟩:=V;cases h
 ·rintro rfl;unfold aa at U E;rw[U] at E;injection E with h1;injection h1 with Y X;exact W X.symm
theorem EM {s:u9} {J U:o4} {b i:Nat} (V:x5.underlying s=some (.slice t)) (hi:aA x5 t 1 b z)
  (h:ay .u8 w v l) (W:i≤j) (X:j≤l.length) (Y:∀ E,ay .u8 w E ((l.take j).drop i)→K E):O x5 (X4 s v (some (.int J (i:Int))) (some (.int U (j:Int))) none) w K:=by
 refine pJ V hi h (kZ i _ rfl) (k0 j _ rfl) W X fun E h'=>Y E (ay.of (n:=j-i) ?_);have Z:((ints .u8 l).drop (i*1)).take ((j-i)*1)=ints .u8 ((l.take j).drop i):=by
  rw[V2,V2,ints,ints,List.map_drop,List.map_take,List.drop_take]
 rw[Z] at h';exact h'
set_option maxHeartbeats 1000000 in
theorem EN {g at_:Nat} {ah:y0} {p:List Int} (h:jM w g ah p at_ (-1)):ag x5 rE [.pointer (some ⟨g,0,none⟩)] w (nE w g ah p at_):=by
 obtain⟨aw,ax,aU,E,ay,ai⟩:=id h;refine ap func92 ?_;rw[cQ po.u,c6,aR,aD fU.p 2 E rfl,cn,af];refine⟨fun h=>by omega,fun _=>?_⟩;refine (EK h).mono ?_;rintro _ V _ ⟨rfl,aV⟩;obtain⟨a,az⟩:∃ a,a=at_+runN bQ (p.drop at_):=⟨_,rfl⟩;rw[←az];have aW:a≤p.length:=by have:=EJ bQ (p.drop at_);rw[List.length_drop] at this;omega
 refine⟨fun v aj=>Ext V aj∧ ∃ i:Nat,v= .int .i64 (i:Int)∧a≤i∧i≤p.length∧i+runN bi (p.drop i)=a+runN bi (p.drop a),fun v _=>p.length-(bk v).toNat,⟨Ext.refl _,a,rfl,r9 _,aW,rfl⟩,?_⟩;rintro _ aj ⟨aA,i,rfl,aX,hi,he⟩;have ak:=aV.trans aA;have aE:=E.ext ak;have aG:=ai.ext ak;refine aI (fun v Y=>Ext aj Y∧ ∃ c:Bool,v= .bool c∧(c=true↔ ∃ b,p[i]? =some b∧bi b=true)) ?_ ?_
 rotate_left
 ·intro a2 O;rw[aD fU.p 0 aE rfl,aK b5.u aG.ls,aC,af];refine⟨fun a6=>?_,fun a7=>O _ _ ⟨Ext.refl _,false,rfl,⟨fun h=>(by cases h),fun⟨b,E,_⟩=>by have:=(x3.1 E).1;omega⟩⟩⟩;have Z:i<p.length:=by omega
  have J:p[i]? =some p[i]:=x4 Z;rw[aD fU.p 0 aE rfl,a1 b5.u b4.i (by kernel_rfl) aG.ls J];refine EH.mono ?_;rintro _ Y _ ⟨rfl,aa⟩;exact O _ _ ⟨aa,_,rfl,⟨fun h=>⟨_,J,h⟩,fun⟨b,E,h⟩=>by rw[J] at E;cases E;exact h⟩⟩
 rintro _ Y ⟨aa,c,rfl,W⟩;have al:=ak.trans aa;have aH:=E.ext al;have aJ:=ai.ext al;rw[ca];refine⟨fun am=>?_,fun ae=>?_⟩
 ·obtain⟨b,J,a8⟩:=W.1 am;have ba:=(x3.1 J).1;rw[aB,wrap_i64 (by omega) (by omega)];exact⟨⟨aA.trans aa,i+1,rfl,by omega,ba,by rw[←he,wJ J a8]⟩,by simp only[bk];omega⟩
 have bg:=wK (f:=bi) (p:=p) (i:=i) fun b E=>by
  cases an:bi b with
  |false=>rfl
  |true=>rw[W.2 ⟨b,E,an⟩] at ae;cases ae
 have bb:i=a+runN bi (p.drop a):=by omega
 refine aI (fun v ao=>Ext Y ao∧ ∃ c:Bool,v= .bool c∧(c=true↔i<p.length∧ ∀ c,p[i]? =some c→bQ c=false)) ?_ ?_
 rotate_left
 ·intro a2 O;rw[aD fU.p 0 aH rfl,aK b5.u aJ.ls,aC,af];refine⟨fun a6=>?_,fun a7=>O _ _ ⟨Ext.refl _,false,rfl,⟨fun h=>(by cases h),fun h=>by omega⟩⟩⟩;have Z:i<p.length:=by omega
  have J:p[i]? =some p[i]:=x4 Z;rw[aD fU.p 0 aH rfl,a1 b5.u b4.i (by kernel_rfl) aJ.ls J];refine wH.mono ?_;rintro _ ao _ ⟨rfl,aq⟩;rw[bJ];refine O _ _ ⟨aq,_,rfl,⟨fun h=>⟨Z,fun c W=>?_⟩,fun h=>by rw[h.2 _ J];rfl⟩⟩;rw[J] at W;cases W;cases an:bQ p[i] with
  |false=>rfl
  |true=>rw[an] at h;cases h
 rintro _ ao ⟨aq,bh,rfl,aL⟩;have X:=al.trans aq;have ac:=E.ext X;have ad:=ai.ext X;have aM:∀ r,leads ah r→r≠g:=fun r bd=>bE ad ac (by decide) bd;have au:mm p at_=open Classical in if i<p.length∧(∀ c,p[i]? =some c→bQ c=false) then .text i else if a=i then .none else .word a i:=by
  unfold mm;rw[show e6 p at_=a from az.symm,show gL p a=i from bb.symm]
 rw[ca];refine⟨fun am=>?_,fun aN=>?_⟩
 ·rw[bB,aF fU.p rfl];refine aY (g:=g) (o:=2) ab.i rfl rfl ac (by simp) fun bj aO bl be=>?_;unfold nE;rw[au,if_pos (aL.1 am)];exact⟨rfl,(X.U _).trans aO,aw,ax,aU,be,ay,aZ ad aO aM⟩
 ·have aP:¬(i<p.length∧ ∀ c,p[i]? =some c→bQ c=false):=fun h=>by rw[aL.2 h] at aN;cases aN
  rw[bc,af];refine⟨fun bm=>?_,fun bn=>?_⟩
  ·intro bo av _ _;rw[aD fU.p 0 (ac.ext av) rfl,aK b5.u (ad.ext av).ls];unfold nE;rw[au,if_neg aP,if_pos (by omega)];exact⟨p.length,rfl,X.trans av⟩
  ·rw[bB,aF fU.p rfl];refine aY (g:=g) (o:=1) ab.i rfl rfl ac (by simp) fun bp aQ bq aS=>?_;have aT:=aZ ad aQ aM;rw[aD fU.p 0 aS rfl];refine EM (i:=a) (j:=i) b5.u b4.i aT.ls aX hi fun br bf=>?_;rw[sa b5.u b4.u bY.u bf];unfold nE;rw[au,if_neg aP,if_neg (by omega)];exact⟨rfl,(X.U _).trans aQ,aw,ax,hi,aS,ay,aT⟩
abbrev bd:am:=fun _=>False
abbrev dO (n:Nat):am:=fun r=>n≤r
theorem EO {b:List Int} {Z bv:y0} (E:ay .i64 w Z a) (aa:ay .i64 w bv b):
  ag x5 BS [Z,bv] w fun v w'=>v= .bool (decide (a=b))∧Ext w w':=by
 refine ap func73 ?_;rw[aK al.u E,aK al.u aa];simp only[bj,af];refine⟨fun U=>⟨?_,Ext.refl _⟩,fun ac=>?_⟩
 ·rw[decide_eq_false];rintro rfl;exact U rfl
 ·have ac:a.length=b.length:=by omega
  rw[aK al.u E];refine bO.range a.length (fun i _ W=>Ext w W∧a.take i=b.take i) E.le ⟨Ext.refl _,rfl⟩ ?_ ?_
  ·rintro i t4 W k ad ⟨J,X⟩ ae;simp only[aC,af,du];refine⟨fun _ V ah _ _=>?_,fun h=>by omega⟩;have J:=J.trans ah;obtain⟨x,Y⟩:=aE (l:=a) ad;obtain⟨y,O⟩:=aE (l:=b) (i:=i) (by omega);rw[a1 al.u ab.i (by kernel_rfl) (E.ext J) Y,a1 al.u ab.i (by kernel_rfl) (aa.ext J) O];simp only[bj,af,aB];refine⟨fun U=>⟨?_,J⟩,fun ai=>ae _ _ ⟨J,rU X Y O (by omega)⟩⟩;rw[decide_eq_false];rintro rfl;rw[Y] at O;cases O;exact U rfl
  ·rintro _ W k ⟨J,X⟩;simp only[aC,af];refine⟨fun h=>by omega,fun _=>⟨?_,J⟩⟩;rw[decide_eq_true];rwa [o5,ac,o5] at X
def hv (rest:List (List Int)) (i:Nat):List (List Int):=(Z1 i).flatMap fun(v:Nat)=>rest.map fun t=>(v:Int)::t
theorem EP (rest:List (List Int)) (i:Nat):hv rest (i+1)=hv rest i++rest.map fun t=>(i:Int)::t:=by
 simp[hv,List.range_succ]
theorem wL (rest:List (List Int)) (i:Nat):(hv rest i).length=i*rest.length:=by
 simp only[hv,List.length_flatMap,r8];rw[List.map_const',List.length_range,List.sum_replicate_nat]
theorem wM:∀ (s:List Int) {sv:y0} {w:x1},ay .i64 w sv s→bD s→
  ag x5 BI [sv] w fun v w'=>Ext w w'∧dp (dO w.heap.size) bd w' [v] (bo s)
 |[],sv,w,h,Z=>by
  refine ap func52 ?_;rw[aK al.u h];simp only[bc,List.length_nil,Int.natCast_zero,decide_true,bq];refine k6 (α:=List Int) (a:=[]) (cs:=[.slice none 0 0]) (A:=bd) eg.u al.i (by decide) rfl iY fun v w' J E _=>⟨J,au.mono E (fun r _ h=>?_) fun _ _ h=>h⟩;exact h.elim False.elim id
 |k::s,sv,w,h,Z=>by
  have aP:=prod_bound Z;have aa:bD s:=Z.drop 1;have aQ:=Z.2 k (.head _);have an:=i7 aa.2;have aR:=prod_bound aa;obtain⟨kn,rfl⟩:∃ kn:Nat,k=kn:=⟨k.toNat,by omega⟩;have aS:kn*(bo s).length≤1073741824:=by
   have e:((kn*(bo s).length:Nat):Int)=az ((kn:Int)::s):=by
    rw[Int.natCast_mul,an,az,Int.toNat_of_nonneg (by omega)]
   omega
  refine ap func52 ?_;rw[aK al.u h];simp only[bc,af];refine⟨fun ao=>by simp at ao;omega,fun _=>?_⟩;refine Et (i:=1) rfl al.u ab.i h (by simp) fun aq h'=>?_;refine (wM s h' aa).mono ?_;rintro aT V _ ⟨ac,W⟩;have aU:=ko W;refine bO.range kn (fun i out X=>Ext V X∧dp (dO V.heap.size) bd X [out] (hv (bo s) i)) (by omega) ⟨Ext.refl _,iY⟩ ?_ ?_
  ·rintro i out av aw aj ⟨U,E⟩ ax;have aA:=dc W U;rw[fv (y:=0) (i:=0) rfl al.u ab.i (by kernel_rfl) (h.ext (ac.trans U)) (by rfl)];simp only[aC,af];refine⟨fun _=>?_,fun h=>by omega⟩;rw[iZ eg.u aA];refine bO.range (bo s).length (fun j out X=>Ext V X∧dp (dO V.heap.size) bd X [out] (hv (bo s) i++((bo s).take j).map fun t=>(i:Int)::t)) (by omega) ⟨U,by simpa using E⟩ ?_ ?_
   ·rintro j out O aD aF ⟨Y,E⟩ aG;simp only[aC,af];refine⟨fun _=>?_,fun h=>by omega⟩;obtain⟨x,ad⟩:=aE (l:=(bo s)) aF;have aV:x.length≤100:=by
     have:=D6 ad;have:=aa.1;omega
    refine vY rfl rfl eg.u al.i (by kernel_rfl) (dc W Y) ad fun u hu=>?_;refine dM al.u ab.i rfl fun a aW aX aY ae aH=>?_;refine hr al.u ab.i rfl aH (kr (dc hu ae)) (by simp;omega) (by simp;omega) fun b aZ aI a1 ah aJ=>?_;have a2:=ae.size;have ak:Ext O aI:=ae.then aJ (by rintro r W rfl;omega);have a6:=ak.size;refine k6 (α:=List Int) (a:=(i:Int)::x) (cs:=[b]) (A:=dO O.heap.size) (R:=bd) eg.u al.i (by decide) (pA (mf ah (R:=bd))) (au.mono (mf ah) (fun r _ h=>by subst h;show O.heap.size≤r;omega) fun _ _ h=>h) fun c a7 ai _ aL=>?_;have am:=ak.trans ai;have a8:=ai.size;refine me (α:=List Int) (a:=(i:Int)::x) (A:=dO O.heap.size) eg.u al.i rfl (dc (ko E) am) aL (dc (au.mono (mf ah) (fun r _ h=>by subst h;show O.heap.size≤r;omega) fun _ _ h=>h) ai) (fun r _ h h'=>?_) ?_ ?_ fun aq ba aM aN=>?_
    ·rcases h' with h'|h'
     ·have:=h.2;have:O.heap.size≤r:=h';omega
     ·exact h'
    ·have aO:(hv (bo s) i++((bo s).take j).map fun t=>(i:Int)::t).length+1≤kn*(bo s).length:=by
      simp only[u7,wL,r8,o6];have:(i+1)*(bo s).length≤kn*(bo s).length:=X2 _ aj;rw[W8] at this;omega
     omega
    ·have aO:(hv (bo s) i++((bo s).take j).map fun t=>(i:Int)::t).length+1≤kn*(bo s).length:=by
      simp only[u7,wL,r8,o6];have:(i+1)*(bo s).length≤kn*(bo s).length:=X2 _ aj;rw[W8] at this;omega
     omega
    ·simp only[aB];have bb:=Y.size;refine aG _ _ ⟨(Y.trans am).then aN (fun r W h=>?_),?_⟩
     ·have:=h.1;have:V.heap.size≤r:=this;omega
     ·have e:hv (bo s) i++((bo s).take (j+1)).map (fun t=>(i:Int)::t)=(hv (bo s) i++((bo s).take j).map fun t=>(i:Int)::t)++[(i:Int)::x]:=by
       rw[u5,ad];simp
      rw[e];refine au.mono aM (fun r _ h=>?_) fun _ _ h=>h;show V.heap.size≤r;rcases h with h|h|h
      ·exact h.1
      ·have:O.heap.size≤r:=h;omega
      ·omega
   ·rintro out O aD ⟨Y,E⟩;simp only[aC,af,aB];refine⟨fun h=>by omega,fun _=>ax _ _ ⟨Y,?_⟩⟩;rw[EP];simpa using E
  ·rintro out av aw ⟨U,E⟩;rw[fv (y:=0) (i:=0) rfl al.u ab.i (by kernel_rfl) (h.ext (ac.trans U)) (by rfl)];simp only[aC,af];refine⟨fun h=>by omega,fun _=>⟨ac.trans U,?_⟩⟩;have be:=ac.size;have e:bo ((kn:Int)::s)=hv (bo s) kn:=by simp[bo,hv]
   rw[e];exact au.mono E (fun r _ h=>by have:V.heap.size≤r:=h;show w.heap.size≤r;omega) fun _ _ h=>h
end Go.Proofs.YthjegppepbbojaaGreatDoor
namespace Go.Proofs.YthjegppepbbojaaGreatDoor
open Go Go.Vc Go.RowKit Go.Proofs Go.Proofs.Tryz
set_option maxRecDepth 100000
theorem EQ:∀ (x:Nat),0<x→ ∃ k m,x=2 ^ k*(2*m+1):=by
 intro x;induction x using Nat.strongRecOn with
 |_ x E=>
  intro h;by_cases O:x % 2=1
  ·exact⟨0,x / 2,by omega⟩
  ·obtain⟨k,m,J⟩:=E (x / 2) (by omega) (by omega);refine⟨k+1,m,?_⟩;rw[Nat.pow_succ,Nat.mul_assoc,Nat.mul_comm 2,←Nat.mul_assoc,←J];omega
theorem sf {k i:Nat}:(2 ^ k*(2*m+1)).testBit i=(decide (i=k)||decide (k<i)&&m.testBit (i-k-1)):=by
 rw[Nat.testBit_two_pow_mul];by_cases h:k≤i
 ·obtain⟨d,rfl⟩:=Nat.exists_eq_add_of_le h;cases d with
  |zero=>simp
  |succ d=>
   have e:(2*m+1).testBit (d+1)=m.testBit d:=by rw[Nat.testBit_succ];congr 1;omega
   simp[e,show k+(d+1)-k=d+1 by omega]
 ·simp[h,show i≠k by omega,show ¬k<i by omega]
theorem ER {k:Nat} (J:2 ^ k*(2*m+1)<2 ^ 64):(2 ^ k*(2*m+1)) &&& (2 ^ 64-2 ^ k*(2*m+1))=2 ^ k:=by
 have X:0<2 ^ k:=Nat.two_pow_pos k;have O:k<64:=by
  rcases Nat.lt_or_ge k 64 with h|h
  ·exact h
  ·have:2 ^ 64≤2 ^ k:=Nat.pow_le_pow_right (by omega) h;have:2 ^ k*1≤2 ^ k*(2*m+1):=Nat.mul_le_mul_left _ (by omega);omega
 have U:2 ^ k*(2*m+1)=(2 ^ k*(2*m)+(2 ^ k-1))+1:=by rw[Nat.mul_add];omega
 apply Nat.eq_of_testBit_eq;intro i;rw[Nat.testBit_and,sf]
 conv=>lhs;rhs;rw[U]
 rw[Nat.testBit_two_pow_sub_succ (by omega),Nat.testBit_two_pow_mul_add _ (by omega),Nat.testBit_two_pow];by_cases h1:i=k
 ·subst h1;simp[O]
 ·by_cases E:k<i
  ·have V:(2*m).testBit (i-k)=m.testBit (i-k-1):=by
    obtain⟨d,W⟩:∃ d,i-k=d+1:=⟨i-k-1,by omega⟩;rw[W,Nat.testBit_succ];congr 1;omega
   simp[h1,E,show ¬i<k by omega,V,show k≠i by omega];intro h;simp[h]
  ·simp[h1,E,show k≠i by omega]
def hR (a c:Nat):Nat:=(BitVec.ofNat 64 a &&& ~~~BitVec.ofNat 64 c).toNat
theorem wN (a c i:Nat):(hR a c).testBit i=(decide (i<64)&&(a.testBit i&& !c.testBit i)):=by
 unfold hR;rw[BitVec.testBit_toNat,BitVec.getLsbD_and,BitVec.getLsbD_not,BitVec.getLsbD_ofNat,BitVec.getLsbD_ofNat];by_cases h:i<64 <;> simp[h]
theorem ES (a c:Nat):hR a c<2 ^ 64:=BitVec.isLt _
theorem ET {a:Nat} (h:∀ i,n≤i→a.testBit i=false):a<2 ^ n:=Nat.lt_pow_two_of_testBit a h
theorem wO {a i:Nat} (h:a<2 ^ n) (hi:n≤i):a.testBit i=false:=Nat.testBit_lt_two_pow (Nat.lt_of_lt_of_le h (Nat.pow_le_pow_right (by omega) hi))
def e7 (b n:Nat):List Nat:=(Z1 n).filter fun i=>b.testBit i
theorem wP (b n:Nat):(e7 b n).Pairwise (·< ·):=List.Pairwise.filter _ List.pairwise_lt_range
theorem EU {b i:Nat}:i∈e7 b n↔i<n∧b.testBit i=true:=by simp[e7]
def lf:Option Nat→Int
 |some i=>(i:Int)
 |none=>-1
def hS (b n:Nat) (v:Int):Int:=lf ((Z1 n).find? (fun i:Nat=>decide (v<(i:Int))&&b.testBit i))
theorem wQ:∀ {l:List Nat} {k x:Nat},l.Pairwise (·< ·)→l[k]? =some x→l.filter (fun i=>decide (x<i))=l.drop (k+1)
 |y::l,0,x,h,E=>by
  simp at E;subst E;rw[List.pairwise_cons] at h;simp only[List.drop_succ_cons,List.drop_zero];rw[List.filter_cons_of_neg (by simp),List.filter_eq_self.2 fun a J=>by simpa using h.1 a J]
 |y::l,k+1,x,h,E=>by
  simp only[List.getElem?_cons_succ] at E;rw[List.pairwise_cons] at h;have:y<x:=h.1 x (x2 E);rw[List.filter_cons_of_neg (by simp;omega),List.drop_succ_cons];exact wQ h.2 E
theorem wR (b n:Nat) (v:Int):hS b n v=lf (((e7 b n).filter (fun i:Nat=>decide (v<i))).head?):=by
 unfold hS e7;rw[←List.head?_filter,List.filter_filter]
theorem EV (b n:Nat):hS b n (-1)=lf ((e7 b n)[0]?):=by
 rw[wR,List.filter_eq_self.2 (fun a _=>by simp;omega),List.head?_eq_getElem?]
theorem wS {b k x:Nat} (h:(e7 b n)[k]? =some x):hS b n x=lf ((e7 b n)[k+1]?):=by
 have e:(fun i:Nat=>decide ((x:Int)<i))=fun i=>decide (x<i):=by funext i;simp
 rw[wR,e,wQ (wP b n) h,List.head?_eq_getElem?,List.getElem?_drop]
theorem EW {b:Nat} {v:Int} (h:(n:Int)-1≤v):hS b n v= -1:=by
 unfold hS;rw[List.find?_eq_none.2 fun i hi=>by simp at hi ⊢;omega];rfl
theorem EX {b k s:Nat} (Z:n≤64) (U:b<2 ^ n) (J:∀ i,r.testBit i=(decide (s≤i)&&b.testBit i)) (O:r=2 ^ k*(2*m+1)) {v:Int} (ac:v+1=s):hS b n v=k:=by
 have V:r.testBit k=true:=by rw[O,sf];simp
 have W:∀ i,i<k→r.testBit i=false:=fun i hi=>by rw[O,sf];simp[show i≠k by omega,show ¬k<i by omega]
 have E:=V;rw[J] at E;simp at E;have X:k<n:=by
  rcases Nat.lt_or_ge k n with h|h
  ·exact h
  ·rw[wO U h] at E;cases E.2
 unfold hS;have:(Z1 n).find? (fun i:Nat=>decide (v<(i:Int))&&b.testBit i)=some k:=by
  rw[List.find?_range_eq_some];refine⟨by simp[E.2];omega,by simpa using X,fun j Y=>?_⟩;have:=W j Y;rw[J] at this;simp only[Bool.not_eq_true',Bool.and_eq_false_iff,decide_eq_false_iff_not] at this ⊢;rcases this with h|h
  ·exact .inl (by omega)
  ·exact .inr h
 rw[this];rfl
theorem EY {b s:Nat} (E:∀ i,r.testBit i=(decide (s≤i)&&b.testBit i)) (J:r=0) {v:Int} (ac:v+1=s):hS b n v= -1:=by
 unfold hS;rw[List.find?_eq_none.2]
 ·rfl
 ·intro i hi;have:=E i;rw[J,Nat.zero_testBit] at this;simp at hi this ⊢;intro h;exact this (by omega)
end Go.Proofs.YthjegppepbbojaaGreatDoor
namespace Go.Proofs.YthjegppepbbojaaGreatDoor
open Go Go.Vc Go.RowKit Go.Proofs Go.Proofs.Tryz
set_option maxRecDepth 100000
section
variable {P:Y3} {w:x1} {t:u9} {cx cy:Bool} {a b:Nat} {K:y0→Prop}
theorem mn (a:Nat):V9 64 (a:Int)=BitVec.ofNat 64 a:=BitVec.ofInt_natCast _ _
theorem wT (x:BitVec 64):W6.wrap (x.toNat:Int)=(x.toNat:Int):=by
 have:=x.isLt;rw[wrap_u64 (by omega) (by omega)]
theorem u64_and (E:a<2 ^ 64) (J:b<2 ^ 64):O P (ax .and t cx cy (.int .u64 a) (.int .u64 b)) w K=K (.int .u64 ((a &&& b:Nat):Int)):=O.of fun w' _=>by
 have e:(V9 64 (a:Int) &&& V9 64 (b:Int)).toNat=a &&& b:=by
  rw[mn,mn,BitVec.toNat_and,BitVec.toNat_ofNat,BitVec.toNat_ofNat,Nat.mod_eq_of_lt E,Nat.mod_eq_of_lt J]
 have hw:W6.wrap ((a &&& b:Nat):Int)=((a &&& b:Nat):Int):=by rw[←e];exact wT _
 have U:(V9 W6.bits (a:Int) &&& V9 W6.bits (b:Int)).toNat=a &&& b:=e;simp only[ax,eqGuard,binOp,Op.intBits,U,hw];rfl
theorem wU:O P (ax .andNot t cx cy (.int .u64 a) (.int .u64 b)) w K=K (.int .u64 (hR a b:Int)):=O.of fun w' _=>by
 have e:(V9 64 (a:Int) &&& ~~~V9 64 (b:Int)).toNat=hR a b:=by rw[mn,mn];rfl
 have hw:W6.wrap (hR a b:Int)=(hR a b:Int):=wT _;have E:(V9 W6.bits (a:Int) &&& ~~~V9 W6.bits (b:Int)).toNat=hR a b:=e;simp only[ax,eqGuard,binOp,Op.intBits,E,hw];rfl
theorem pL {k:o4} (E:n<64):O P (ax .shr t cx cy (.int .u64 (a:Int)) (.int k (n:Int))) w K=K (.int .u64 ((a / 2 ^ n:Nat):Int)):=O.of fun w' _=>by
 have e:(a:Int).fdiv (2 ^ min n W6.bits)=((a / 2 ^ n:Nat):Int):=by
  have:min n W6.bits=n:=Nat.min_eq_left (by show n≤64;omega);rw[this,Int.fdiv_eq_ediv_of_nonneg _ (by exact Int.le_of_lt (Int.pow_pos (by omega)))];simp
 simp only[ax,eqGuard,binOp,Op.shift,j6,e];simp[show ¬(n:Int)<0 by omega]
theorem sg {k:o4} (E:n<64):O P (ax .shl t cx cy (.int .u64 1) (.int k (n:Int))) w K=K (.int .u64 ((2 ^ n:Nat):Int)):=by
 rw[DU (by omega)];have e:min ((n:Int).toNat) W6.bits=n:=Nat.min_eq_left (by show n≤64;omega);have J:2 ^ n<2 ^ 64:=Nat.pow_lt_pow_right (by omega) E;rw[e,Int.one_mul,show ((2:Int) ^ n)=((2 ^ n:Nat):Int) by simp];generalize 2 ^ n=q at J ⊢;rw[wrap_u64 (by omega) (by omega)]
end
def pM:List Int:=[0,1,56,2,57,49,28,3,61,58,42,50,38,29,17,4,62,47,59,36,45,43,51,22,53,39,33,30,24,18,12,5,63,55,48,27,60,41,37,16,46,35,44,21,52,32,23,11,54,26,40,15,34,20,31,10,25,14,19,9,13,8,7,6]
def Laid (w:x1):Prop:=w.rangeAt 0 0 (ints .u8 pM)
theorem Laid.ext (h:Laid w) (J:Ext w w'):Laid w':=l8 J h
theorem EZ:∀ k:Nat,k<64→pM[(2 ^ k*285870213051353865 % 2 ^ 64) / 2 ^ 58]? =some (k:Int):=by decide
theorem E0 {x k:Nat} (O:Laid w) (J:x=2 ^ k*(2*m+1)) (U:x<2 ^ 64):
  ag x5 Dd [.int .u64 (x:Int)] w fun v w'=>v= .int .i64 (k:Int)∧Ext w w':=by
 have aa:0<2 ^ k:=Nat.two_pow_pos k;have ac:2 ^ k≤x:=by
  have:2 ^ k*1≤2 ^ k*(2*m+1):=Nat.mul_le_mul_left _ (by omega);omega
 have V:k<64:=by
  rcases Nat.lt_or_ge k 64 with h|h
  ·exact h
  ·have:2 ^ 64≤2 ^ k:=Nat.pow_le_pow_right (by omega) h;omega
 refine ap func221 ?_;simp only[bc,af];refine⟨fun h=>by omega,fun _=>?_⟩;rw[jJ];have W:W6.wrap (0-(x:Int))=((2 ^ 64-x:Nat):Int):=by
  simp only[o4.wrap,o4.bits,o4.signed];simp;omega
 rw[W,u64_and U (by omega),J,ER (by omega)];simp only[fV];have X:W6.wrap (((2 ^ k:Nat):Int)*285870213051353865)=((2 ^ k*285870213051353865 % 2 ^ 64:Nat):Int):=by
  have e:((2 ^ k:Nat):Int)*285870213051353865=((2 ^ k*285870213051353865:Nat):Int):=by simp
  rw[e];simp only[o4.wrap,o4.bits,o4.signed];simp
 have Y:(58:Int)=((58:Nat):Int):=rfl;rw[X,Y,pL (by omega)];have E:=EZ k V;have Z:=(x3.1 E).1;rw[pv (t:=pq) pq.u b4.i Z,av (by kernel_rfl) (by rw[V2];exact O _ _ (iX E)),ft b4.u ab.u,wrap_i64 (by omega) (by omega)];exact⟨rfl,Ext.refl _⟩
def hT (b n:Nat):y0:=.agg #[.int .u64 (b:Int),.int .i64 (n:Int)]
def kv (b n:Nat):Prop:=n≤32∧b<2 ^ n
theorem wV (s i:Nat):(2 ^ s-1).testBit i=decide (i<s):=Nat.testBit_two_pow_sub_one s i
theorem wW {b:Nat} {v:Int}:ag x5 C8 [hT b n,.int .i64 v] w fun r w'=>r= .bool (decide (0≤v∧v<n))∧Ext w w':=by
 refine ap func213 ?_;refine a7 fun g O U E J=>?_;simp only[bX,cn,af];refine⟨fun h=>?_,fun h=>⟨?_,E⟩⟩
 ·rw[aP bx.p 1 J rfl];simp only[aC];exact⟨by simp[h],E⟩
 ·rw[decide_eq_false];omega
theorem wX {b:Nat}:ag x5 BV [hT b n] w fun r w'=>r= .int .i64 n∧Ext w w':=by
 refine ap func80 ?_;refine a7 fun g O U E J=>?_;rw[aP bx.p 1 J rfl];exact⟨rfl,E⟩
theorem E1 {n:Int}:ag x5 Cw [.int .i64 n] w fun r w'=>Ext w w'∧r=(if 1≤n∧n≤32 then .tuple #[hT (2 ^ n.toNat-1) n.toNat,.int .i64 0] else .tuple #[hT 0 0,.int .i64 1]):=by
 refine ap func149 ?_;refine bg bx.i fun g X ab O U=>?_;refine aI (fun v V=>v= .bool (decide (¬(1≤n∧n≤32)))∧X=V) ?_ ?_
 ·rintro _ _ ⟨rfl,rfl⟩;simp only[af];refine⟨fun h=>?_,fun h=>?_⟩
  ·rw[ct (cs:=#[.int .u64 0,.int .i64 0]) (by kernel_rfl)];refine bP (vs:=[.int .u64 0,.int .i64 0]) bx.i rfl rfl (by intro u hu;simp at hu;rcases hu with rfl|rfl <;> rfl) U fun Y E Z J=>?_;rw[eO bx.p bx.i rfl J.range,if_neg h];exact⟨O.then E (by rintro r aa rfl;omega),rfl⟩
  ·have h:1≤n∧n≤32:=Z6.1 h;obtain⟨m,rfl⟩:∃ m:Nat,n=m:=⟨n.toNat,by omega⟩;rw[sg (by omega)];have ac:0<2 ^ m:=Nat.two_pow_pos m;have ad:2 ^ m≤2 ^ 32:=Nat.pow_le_pow_right (by omega) (by omega);simp only[dk];rw[wrap_u64 (by omega) (by omega),show (((2 ^ m:Nat):Int)-1)=((2 ^ m-1:Nat):Int) by omega];rw[ct (cs:=#[.int .u64 ((2 ^ m-1:Nat):Int),.int .i64 m]) (by kernel_rfl)];refine bP (vs:=[.int .u64 ((2 ^ m-1:Nat):Int),.int .i64 m]) bx.i rfl rfl (by intro u hu;simp at hu;rcases hu with rfl|rfl <;> rfl) U fun Y E Z J=>?_;rw[eO bx.p bx.i rfl J.range,if_pos h];exact⟨O.then E (by rintro r aa rfl;omega),rfl⟩
 ·intro ae W;simp only[aC,br,af];refine⟨fun h=>W _ _ ⟨?_,rfl⟩,fun h=>W _ _ ⟨?_,rfl⟩⟩
  ·rw[decide_eq_true];omega
  ·congr 1;simp;omega
theorem wY {b:Nat} {v:Int} (aa:kv b n) (ab:Laid w) (ac: -1≤v):ag x5 CA [hT b n,.int .i64 v] w fun r w'=>r= .int .i64 (hS b n v)∧Ext w w':=by
 obtain⟨ak,J⟩:=aa;have O:b<2 ^ 64:=Nat.lt_of_lt_of_le J (Nat.pow_le_pow_right (by omega) (by omega));refine ap func154 ?_;refine a7 fun g ad al E U=>?_;rw[aP bx.p 1 U rfl];simp only[dk,cn,af];rw[wrap_i64 (by omega) (by omega)];refine⟨fun h=>⟨by rw[EW h],E⟩,fun am=>?_⟩;rw[aP bx.p 0 U rfl];refine aI (fun u V=>ad=V∧ ∃ r s:Nat,u= .int .u64 (r:Int)∧r<2 ^ 64∧v+1=s∧ ∀ i,r.testBit i=(decide (s≤i)&&b.testBit i)) ?_ ?_
 ·rintro _ _ ⟨rfl,r,s,rfl,ae,W,X⟩;simp only[bc,af];refine⟨fun ah=>⟨by rw[EY X (by omega) W],E⟩,fun ah=>?_⟩;obtain⟨k,m,Y⟩:=EQ r (by omega);refine (E0 (ab.ext E) Y ae).mono ?_;rintro _ an _ ⟨rfl,ai⟩;exact⟨by rw[EX (by omega) J X Y W],E.trans ai⟩
 ·intro ao Z;refine⟨fun h=>?_,fun h=>?_⟩
  ·obtain⟨s,rfl⟩:∃ s:Nat,v=s:=⟨v.toNat,by omega⟩;have aq:0<2 ^ (s+1):=Nat.two_pow_pos _;have au:2 ^ (s+1)≤2 ^ 32:=Nat.pow_le_pow_right (by omega) (by omega);simp only[aB];rw[wrap_i64 (by omega) (by omega),show ((s:Int)+1)=((s+1:Nat):Int) by omega,sg (by omega)];simp only[dk];rw[wrap_u64 (by omega) (by omega),show (((2 ^ (s+1):Nat):Int)-1)=((2 ^ (s+1)-1:Nat):Int) by omega,wU];refine Z _ _ ⟨rfl,_,s+1,rfl,ES _ _,by omega,fun i=>?_⟩;rw[wN,wV];by_cases aj:i<64
   ·by_cases hi:s+1≤i
    ·simp[aj,hi,show ¬i<s+1 by omega]
    ·simp[hi,show i<s+1 by omega]
   ·rw[wO O (by omega)];simp
  ·exact Z _ _ ⟨rfl,b,0,rfl,O,by omega,fun i=>by simp⟩
theorem E2 {b:Nat} (J:kv b n) (O:Laid w):ag x5 Cz [hT b n] w fun r w'=>r= .int .i64 (hS b n (-1))∧Ext w w':=by
 refine ap func153 ?_;refine a7 fun g X Y E U=>?_;rw[bn bx.p bx.i rfl U.range];refine (wY J (O.ext E) (by omega)).mono ?_;rintro _ V _ ⟨rfl,W⟩;exact⟨rfl,E.trans W⟩
theorem E3 {b:Nat} {v:Int} (aj:kv b n):ag x5 Cy [hT b n,.int .i64 v] w fun r w'=>r=hT (if 0≤v∧v<n then hR b (2 ^ v.toNat) else b) n∧Ext w w':=by
 refine ap func151 ?_;refine a7 fun g aw ax Y Z=>?_;refine bg bx.i fun ak V ay ab ac=>?_;have az:=Y.size;have aA:=Z.lt;refine cX (fun J=>∃ O,aa J g bx [.int .u64 ((O:Nat):Int),.int .i64 (n:Int)]∧aa J ak bx [.int .u64 0,.int .i64 0]∧Ext w J∧O=(if 0≤v∧v<n then hR b (2 ^ v.toNat) else b)) ?_ ?_
 ·rintro J ⟨O,al,am,an,rfl⟩;rw[bn bx.p bx.i rfl al.range];refine bP (vs:=[_,_]) bx.i rfl rfl (by intro u hu;simp at hu;rcases hu with rfl|rfl <;> rfl) am fun aB ao aC aq=>?_;rw[eO bx.p bx.i rfl aq.range];exact⟨rfl,an.then ao (by rintro r au rfl;omega)⟩
 ·intro aD ad;have W:=Z.ext ab;rw[bn bx.p bx.i rfl W.range];refine wW.mono ?_;rintro _ aE _ ⟨rfl,E⟩;have ae:=(Y.trans ab).trans E;simp only[af,du];refine⟨fun h aG X _ _=>?_,fun h=>ad _ ⟨b,W.ext E,ac.ext E,ae,by rw[if_neg h]⟩⟩;have ah:=(W.ext E).ext X;rw[aP bx.p 0 ah rfl];obtain⟨s,rfl⟩:∃ s:Nat,v=s:=⟨v.toNat,by omega⟩;have aH:=aj.1;rw[sg (by omega),wU,aF bx.p rfl];refine aY fq.i rfl rfl ah (by simp[hT,y0.cells]) fun aI ai aJ av=>?_;refine ad _ ⟨_,av,((ac.ext E).ext X).U ai (by omega),(ae.trans X).then ai (by rintro r au rfl;omega),?_⟩;rw[if_pos h,j6]
def mo (v:Int):Nat:=if v<0 then 0 else 40-v.toNat
theorem sh (x:Nat):mo x=40-x:=by unfold mo;rw[if_neg (by omega)];omega
theorem pN {b g:Nat} (E:kv b n):
  lU x5 iQ [.pointer (some ⟨g,0,none⟩)] (e7 b n).length (fun k vs _=>∃ v:Nat,(e7 b n)[k]? =some v∧vs=[.int .i64 (v:Int)])
   (fun w=>aa w g bx [.int .u64 (b:Int),.int .i64 (n:Int)]∧Laid w):=by
 refine⟨iQ.enters,fun l ae aq w W _ ag ⟨X,Y⟩ ah=>?_⟩;have au:=E.1;refine ps func152 ?_;rw[bn bx.p bx.i rfl X.range];refine (E2 E Y).free.mono ?_;rintro _ av ⟨ai,rfl,J⟩;refine⟨fun v V=>∃ k,k≤(e7 b n).length∧v= .int .i64 (lf (e7 b n)[k]?)∧ae k V∧aa V g bx [.int .u64 (b:Int),.int .i64 (n:Int)]∧Laid V,
  fun v _=>mo (bk v),⟨0,Z5 _,by rw[EV],W 0 _ _ J ai.b ah,X.ext J,Y.ext J⟩,?_⟩
 rintro _ V ⟨k,aw,rfl,Z,aj,ak⟩;cases ac:(e7 b n)[k]? with
 |none=>
  have:k=(e7 b n).length:=by
   have:=List.getElem?_eq_none_iff.1 ac;omega
  subst this;simp only[lf,cn,af];exact⟨fun h=>by omega,fun _=>.inl Z⟩
 |some x=>
  have O:=(x3.1 ac).1;have ax:=(EU.1 (x2 ac)).1;simp only[lf,cn,af];refine⟨fun _=>?_,fun h=>by omega⟩;refine⟨rfl,(ag k _ V O ⟨aj,ak⟩ ⟨x,ac,rfl⟩ Z).mono ?_⟩;rintro _ ay (⟨rfl,⟨ab,ad⟩,al⟩|⟨rfl,am⟩)
  ·simp only[bJ,Y0,aR];rw[bn bx.p bx.i rfl ab.range];refine (wY E ad (by omega)).free.mono ?_;rintro _ az ⟨an,rfl,U⟩;refine⟨⟨k+1,O,congrArg (X0 .i64) (wS ac),W _ _ _ U an.b al.1,ab.ext U,ad.ext U⟩,?_⟩;rw[wS ac];cases ao:(e7 b n)[k+1]? with
   |none=>show 0<mo x;rw[sh];omega
   |some y=>
    have aA:x<y:=by
     have h1:=(x3.1 ac).2;have ap:=(x3.1 ao).2;rw[←h1,←ap];exact X6.1 (wP b n) k (k+1) _ _ (by omega)
    show mo y<mo x;rw[sh,sh];omega
  ·simp only[bJ,Y9,bq];exact .inr ⟨k,O,am⟩
theorem pO {b:Nat}:ag x5 BO [hT b n] w fun r w'=>Ext w w'∧ ∃ g,r= .func (.func iQ) #[] #[.pointer (some ⟨g,0,none⟩)]∧w.heap.size≤g∧aa w' g bx [.int .u64 (b:Int),.int .i64 (n:Int)]:=by
 refine ap func65 ?_;refine a7 fun g O U E J=>?_;rw[hM];exact⟨E,g,rfl,by omega,J⟩
end Go.Proofs.YthjegppepbbojaaGreatDoor
namespace Go.Proofs.YthjegppepbbojaaGreatDoor
open Go Go.Vc Go.RowKit Go.Proofs Go.Proofs.Tryz
set_option maxRecDepth 100000
abbrev dF (s:List Int):Prop:=∀ x∈s,1≤x∧x≤32
theorem dF.tail {s:List Int} (h:dF (k::s)):dF s:=fun x J=>h x (.tail _ J)
theorem jN {s:List Int} (h:dF s):1≤az s:=(nx s h).1
theorem mp:∀ (s t:List Int) (m:Int),cp s t m=(cp s t 0).map fun n=>n+m*az s
 |[],[],m=>by simp[cp,az]
 |k::s,v::t,m=>by
  unfold cp;split
  ·rw[mp s t (m*k+v),mp s t (0*k+v)];simp only[Option.map_map,az];congr 1;funext n;simp only[Function.comp];rw[Int.add_mul,Int.add_mul,←Int.mul_assoc];simp;omega
  ·rfl
 |[],_::_,_=>rfl
 |_::_,[],_=>rfl
theorem si {L j:Nat} {rest:List (List Int)} (O:rest.length=L):∀ {kn v:Nat},v<kn→ ∀ {x:List Int},rest[j]? =some x→
  ((Z1 kn).flatMap fun(v:Nat)=>rest.map fun t=>(v:Int)::t)[v*L+j]? =some ((v:Int)::x)
 |0,v,h,_,_=>by omega
 |kn+1,v,h,x,J=>by
  have U:=(x3.1 J).1;have E:((Z1 kn).flatMap fun(v:Nat)=>rest.map fun t=>(v:Int)::t).length=kn*L:=by
   simp only[List.length_flatMap,r8,O];rw[List.map_const',List.length_range,List.sum_replicate_nat]
  rw[List.range_succ,List.flatMap_append];by_cases ac:v<kn
  ·have:(v+1)*L≤kn*L:=X2 _ ac;rw[W8] at this;rw[Z4 (by rw[E];omega)];exact si O ac J
  ·have ac:v=kn:=by omega
   subst ac;rw[Z7 (by rw[E];omega),E,show v*L+j-v*L=j by omega];simp[J]
theorem sj:∀ {s:List Int},dF s→ ∀ {i:Nat} {t:List Int},(bo s)[i]? =some t→cp s t 0=some (i:Int)
 |[],_,i,t,h=>by
  cases i with
  |zero=>simp[bo] at h;subst h;rfl
  |succ i=>simp[bo] at h
 |k::s,E,i,t,h=>by
  have Y:=E k (.head _);have O:=i7 E.tail;have Z:=jN E.tail;obtain⟨kn,rfl⟩:∃ kn:Nat,k=kn:=⟨k.toNat,by omega⟩;have hi:=(x3.1 h).1;rw[i7 E,az,Int.toNat_mul (by omega) (by omega),←O,j6] at hi;have V:0<(bo s).length:=by omega
  have ac:i / (bo s).length<kn:=Nat.div_lt_of_lt_mul (by rw[Nat.mul_comm];exact hi);have W:i % (bo s).length<(bo s).length:=Nat.mod_lt _ V;obtain⟨x,J⟩:∃ x,(bo s)[i % (bo s).length]? =some x:=⟨_,x4 W⟩;have U:=si (kn:=kn) rfl ac J;rw[Nat.mul_comm,Nat.div_add_mod] at U;have h':((Z1 ((kn:Int).toNat)).flatMap fun(v:Nat)=>(bo s).map fun t=>(v:Int)::t)[i]? =some t:=h;rw[j6,U] at h';cases h';unfold cp;rw[if_pos ⟨Int.natCast_nonneg _,Int.ofNat_lt.2 ac⟩,mp,sj E.tail J];simp only[c5,b8,Int.zero_mul,Int.zero_add];have X:az s=((bo s).length:Int):=by rw[O];omega
  rw[X,←Int.natCast_mul,←Int.natCast_add];congr 1;rw[Nat.mul_comm,Nat.add_comm,Nat.div_add_mod]
theorem pP:∀ {s:List Int},dF s→ ∀ {t:List Int} {n:Int},cp s t 0=some n→(bo s)[n.toNat]? =some t
 |[],_,[],n,h=>by simp[cp] at h;subst h;rfl
 |k::s,J,v::t,n,h=>by
  have X:=J k (.head _);have U:=i7 J.tail;have Y:=jN J.tail;obtain⟨kn,rfl⟩:∃ kn:Nat,k=kn:=⟨k.toNat,by omega⟩;unfold cp at h;split at h
  ·rename_i ac;rw[mp] at h;cases O:cp s t 0 with
   |none=>rw[O] at h;cases h
   |some q=>
    rw[O] at h;simp only[c5,b8,Int.zero_mul,Int.zero_add] at h;have V:=k8 J.tail O;simp only[Int.zero_mul,Int.zero_add,Int.one_mul] at V;obtain⟨E,rfl⟩:∃ E:Nat,v=E:=⟨v.toNat,by omega⟩;have W:=si (kn:=kn) (v:=E) rfl (by omega) (pP J.tail O);have e:n.toNat=E*(bo s).length+q.toNat:=by
     rw[←h,U];have:((E*(az s).toNat:Nat):Int)=(E:Int)*az s:=by rw[Int.natCast_mul,Int.toNat_of_nonneg (by omega)]
     omega
    rw[e];show ((Z1 ((kn:Int).toNat)).flatMap fun(v:Nat)=>(bo s).map fun t=>(v:Int)::t)[_]? =_;rw[j6];exact W
  ·cases h
 |[],_,_::_,_,h=>by cases h
 |_::_,_,[],_,h=>by cases h
theorem wZ:∀ (s:List Int),dF s→ ∀ (n c:Int),cq s (n+c*az s)=cq s n
 |[],_,_,_=>rfl
 |k::s,E,n,c=>by
  have J:=jN E.tail;simp only[cq,az];rw[←Int.mul_assoc,wZ s E.tail,Int.add_mul_ediv_right _ _ (by omega),Int.add_mul_emod_self_right]
theorem pQ:∀ {s:List Int},dF s→ ∀ {n:Int},0≤n→n<az s→cp s (cq s n) 0=some n
 |[],_,n,J,h1=>by simp[az] at h1;simp[cq,cp];omega
 |k::s,E,n,J,h1=>by
  have V:=E k (.head _);have W:=jN E.tail;simp only[cq,az] at h1 ⊢;have O:n / az s<k:=Int.ediv_lt_of_lt_mul (by omega) h1;have U:0≤n / az s:=Int.ediv_nonneg J (by omega);have hm:n / az s % k=n / az s:=Int.emod_eq_of_lt U O;rw[hm];unfold cp;rw[if_pos ⟨U,O⟩,mp];have e:cq s n=cq s (n % az s):=by
   have:=wZ s E.tail (n % az s) (n / az s);rw[←this];congr 1;have:=Int.emod_add_mul_ediv n (az s);rw[Int.mul_comm (n / az s)];omega
  rw[e,pQ E.tail (Int.emod_nonneg _ (by omega)) (Int.emod_lt_of_pos _ (by omega))];simp only[c5,b8,Int.zero_mul,Int.zero_add];have:=Int.emod_add_mul_ediv n (az s);rw[Int.mul_comm (n / az s)];omega
theorem pR {s:List Int} (E:dF s) {i:Nat} (h:(i:Int)<az s):(bo s)[i]? =some (cq s i):=by
 have:=pP E (pQ E (n:=(i:Int)) (by omega) h);simpa using this
end Go.Proofs.YthjegppepbbojaaGreatDoor
namespace Go.Proofs.YthjegppepbbojaaGreatDoor
open Go Go.Vc Go.RowKit Go.Proofs Go.Proofs.Tryz
set_option maxRecDepth 100000
def cV (s cs t:List Int):Int:=match cp s t 0 with
 |some n=>cs.getD n.toNat 0
 |none=>0
def upto {α:Type} (l:List α) (d:α) (i:Nat):List α:=l.take i++u6 (l.length-i) d
theorem nF {α:Type} (l:List α) (d:α) (i:Nat):(upto l d i).length=l.length:=by simp[upto];omega
theorem nG {α:Type} (l:List α) (d:α):upto l d 0=u6 l.length d:=by simp[upto]
theorem nH {α:Type} (l:List α) (d:α):upto l d l.length=l:=by simp[upto]
theorem nI {α:Type} {l:List α} {d x:α} {i:Nat} (h:l[i]? =some x):(upto l d i).set i x=upto l d (i+1):=by
 have hi:=(x3.1 h).1;unfold upto;rw[List.set_append_right _ _ (by simp;omega),u5,h];have e:i-(l.take i).length=0:=by simp;omega
 obtain⟨m,hm⟩:∃ m,l.length-i=m+1:=⟨l.length-i-1,by omega⟩;rw[e,hm,show l.length-(i+1)=m by omega];simp[List.replicate_succ]
theorem E4 {α:Type} {l:List α} {i:Nat} {x:α} (h:l[i]? =some x):l.set i x=l:=by
 apply Y7;intro j;rw[Y6];split
 ·rename_i E;subst E;rw[if_pos (x3.1 h).1,h]
 ·rfl
end Go.Proofs.YthjegppepbbojaaGreatDoor
namespace Go.Proofs.YthjegppepbbojaaGreatDoor
open Go Go.Vc Go.RowKit Go.Proofs Go.Proofs.Tryz
set_option maxRecDepth 100000
def sk:List Int→Int
 |[]=>0
 |x::l=>l.foldl min x
def w1 (P:Int→Prop) (m:Int):Prop:=P m∧ ∀ x,P x→m≤x
def cJ (s t:List Int):Prop:=∃ n,cp s t 0=some n
theorem E5 (k v:Int) (s t:List Int):cp (k::s) (v::t) 0=if 0≤v∧v<k then (cp s t 0).map (fun n=>n+(0*k+v)*az s) else none:=by
 conv=>lhs;unfold cp
 rw[mp]
theorem w2 {v:Int} {s t:List Int}:cJ (k::s) (v::t)↔(0≤v∧v<k)∧cJ s t:=by
 unfold cJ;rw[E5];constructor
 ·rintro⟨n,h⟩;split at h
  ·rename_i ac;cases E:cp s t 0 with
   |none=>rw[E] at h;cases h
   |some q=>exact⟨ac,q,rfl⟩
  ·cases h
 ·rintro⟨ac,q,E⟩;rw[if_pos ac,E];exact⟨_,rfl⟩
theorem w3 {t:List Int}:cJ [] t↔t=[]:=by
 cases t with
 |nil=>exact⟨fun _=>rfl,fun _=>⟨0,rfl⟩⟩
 |cons v t=>
  constructor
  ·rintro⟨_,h⟩;cases h
  ·intro h;cases h
theorem pS {s t:List Int} (h:cJ s t):s.length=t.length:=by
 obtain⟨n,h⟩:=h;rcases Nat.decEq s.length t.length with E|E
 ·rw[rY s t 0 E] at h;cases h
 ·exact E
theorem w4 {s t:List Int} (E:dF s) {n:Int} (h:cp s t 0=some n):cq s n=t:=by
 have O:=k8 E h;have h1:=pP E h;simp only[Int.zero_mul,Int.zero_add,Int.one_mul] at O;have J:=pR E (i:=n.toNat) (by omega);rw[h1] at J;have e:((n.toNat:Nat):Int)=n:=by omega
 rw[e] at J;exact (b9 J).symm
theorem pT {s cs:List Int} (E:dF s) (J:cs.length=(az s).toNat):cs=(Z1 (az s).toNat).map fun(q:Nat)=>cV s cs (cq s q):=by
 apply List.ext_getElem
 ·simp[J]
 ·intro i h1 O;rw[List.getElem_map,List.getElem_range];have U:=jN E;have hi:(i:Int)<az s:=by omega
  unfold cV;rw[pQ E (by omega) hi];simp only[j6];rw[u4,x4 h1];rfl
theorem sm {s:List Int} (E:dF s) {q:Nat} (J:q<(az s).toNat):cJ s (cq s q):=⟨_,pQ E (by omega) (by have:=jN E;omega)⟩
theorem E6 {s cs E:List Int} (J:dF s) (O:cs.length=(az s).toNat) (U:E.length=(az s).toNat) (h:∀ t,cJ s t→cV s cs t=cV s E t):cs=E:=by
 rw[pT J O,pT J U];apply List.map_congr_left;intro q V;exact h _ (sm J (by simpa using V))
theorem E7 (h:l≠[]):w1 (fun c=>c∈l) (sk l):=by
 obtain⟨x,r,rfl⟩:∃ v r,l=v::r:=by cases l with
  |nil=>exact absurd rfl h
  |cons v r=>exact⟨v,r,rfl⟩
 clear h;show w1 (fun c=>c∈x::r) (r.foldl min x);induction r generalizing x with
 |nil=>exact⟨.head _,fun y O=>by simp at O;simp[O]⟩
 |cons y r U=>
  rw[List.foldl_cons];obtain⟨h1,J⟩:=U (min x y);refine⟨?_,fun z E=>?_⟩
  ·rcases U4.1 h1 with h1|h1
   ·rw[h1];rcases Int.le_total x y with h|h
    ·rw[Int.min_eq_left h];exact .head _
    ·rw[Int.min_eq_right h];exact .tail _ (.head _)
   ·exact .tail _ (.tail _ h1)
  ·rcases U4.1 E with rfl|E
   ·have:=J _ (.head _);omega
   ·rcases U4.1 E with rfl|E
    ·have:=J _ (.head _);omega
    ·exact J _ (.tail _ E)
end Go.Proofs.YthjegppepbbojaaGreatDoor
namespace Go.Proofs.YthjegppepbbojaaGreatDoor
open Go Go.Vc Go.RowKit Go.Proofs Go.Proofs.Tryz
set_option maxRecDepth 100000
def mq (m:List Int) (i j:Nat):Prop:=∀ (p q:Nat) (x y:Int),p<q→q≤i→q≠j→m[p]? =some x→m[q]? =some y→x≤y
def nJ (m:List Int) (i:Nat):Prop:=∀ (p q:Nat) (x y:Int),p<q→q<i→m[p]? =some x→m[q]? =some y→x≤y
theorem E8 {m:List Int} {i:Nat} (h:nJ m i):mq m i i:=fun p q x y h1 O U E J=>h p q x y h1 (by omega) E J
theorem E9 {m:List Int} {i:Nat} (h:mq m i 0):nJ m (i+1):=fun p q x y h1 O E J=>h p q x y h1 (by omega) (by omega) E J
theorem Fa {m:List Int} {i:Nat} {a b:Int} (h:mq m i j) (Y:0<j) (O:m[j-1]? =some a) (V:m[j]? =some b) (W:a≤b):nJ m (i+1):=by
 intro p q x y h1 Z E J;by_cases U:q=j
 ·subst U;rw[V] at J;cases J;by_cases X:p=q-1
  ·subst X;rw[O] at E;cases E;exact W
  ·have:=h p (q-1) x a (by omega) (by omega) (by omega) E O;omega
 ·exact h p q x y h1 (by omega) U E J
theorem Fb {m:List Int} {i:Nat} {a b:Int} (h:mq m i j) (ac:0<j) (hi:j≤i) (V:m[j-1]? =some a) (W:m[j]? =some b) (ad:b<a):mq ((m.set j a).set (j-1) b) i (j-1):=by
 intro p q x y h1 U X E J;have Y:=(x3.1 W).1;have Z:∀ (r:Nat),((m.set j a).set (j-1) b)[r]? =if r=j-1 then some b else if r=j then some a else m[r]?:=fun r=>by
  by_cases h:r=j-1
  ·subst h;rw[V8 (by simp;omega),if_pos rfl]
  ·rw[List.getElem?_set_ne (Ne.symm h),if_neg h];by_cases h':r=j
   ·subst h';rw[V8 Y,if_pos rfl]
   ·rw[List.getElem?_set_ne (Ne.symm h'),if_neg h']
 rw[Z] at E J;rw[if_neg X] at J;by_cases O:q=j
 ·rw[if_pos O] at J;cases J;split at E
  ·cases E;omega
  ·split at E
   ·omega
   ·exact h p (j-1) x a (by omega) (by omega) (by omega) E V
 ·rw[if_neg O] at J;split at E
  ·cases E;have:=h j q b y;by_cases aa:j<q
   ·exact this aa U O W J
   ·omega
  ·split at E
   ·rename_i ab;subst ab;cases E;exact h (p-1) q a y (by omega) U O V J
   ·exact h p q x y h1 U O E J
theorem swap_perm {m:List Int} {i:Nat} {a b:Int} (U:i<j) (J:m[i]? =some a) (E:m[j]? =some b):((m.set j a).set i b).Perm m:=by
 induction m generalizing i j with
 |nil=>simp at J
 |cons x m O=>
  cases j with
  |zero=>omega
  |succ j=>
   cases i with
   |zero=>
    simp at J E ⊢;subst J;obtain⟨V,E⟩:=x3.1 E;rw[show m=m.take j++m[j]::m.drop (j+1) by simp];rw[List.set_append_right _ _ (by simp;omega)];have e:j-(m.take j).length=0:=by simp;omega
    rw[e,E];simp only[List.set_cons_zero];refine (List.Perm.cons b (List.perm_middle)).trans ?_;refine (List.Perm.swap x b _).trans ?_;exact List.Perm.cons x List.perm_middle.symm
   |succ i=>
    simp at J E ⊢;exact O (by omega) J E
theorem Fc {m:List Int} (h:nJ m m.length):m.Pairwise (·≤ ·):=by
 rw[X6];intro i j hi E J;exact h i j _ _ J E (x4 hi) (x4 E)
end Go.Proofs.YthjegppepbbojaaGreatDoor
namespace Go.Proofs.YthjegppepbbojaaGreatDoor
open Go Go.Vc Go.RowKit Go.Proofs Go.Proofs.Tryz
set_option maxRecDepth 100000
def Good (o:List Int) (n:Nat):Prop:=o.length=n∧ ∀ (i:Nat) (p:Int),o[i]? =some p→(0≤p∧p<n)∧ ∀ j,j<i→o[j]? ≠some p
theorem Good.inj {o:List Int} {i:Nat} {p:Int} (h:Good o n) (hi:o[i]? =some p) (E:o[j]? =some p):i=j:=by
 rcases Nat.lt_trichotomy i j with h1|h1|h1
 ·exact absurd hi ((h.2 j p E).2 i h1)
 ·exact h1
 ·exact absurd E ((h.2 i p hi).2 j h1)
def w5 (m:List Int):Prop:=∀ i:Nat,i<m.length→m[i]? =some (i:Int)
theorem w6 {o m:List Int} (h:Good o n) (E:m.Perm o) (X:m.Pairwise (·≤ ·)):w5 m:=by
 have Y:o.Nodup:=X6.2 fun i j hi Z ad he=>by
  have:=h.inj (i:=i) (j:=j) (p:=o[j]) (by rw[x4 hi,he]) (x4 Z);omega
 have aa:m.Nodup:=E.nodup_iff.2 Y;have ae:m.length=n:=by rw[E.length_eq,h.1]
 have V:∀ x∈m,0≤x∧x<(n:Int):=fun x J=>by
  obtain⟨i,hi,he⟩:=List.getElem_of_mem (E.mem_iff.1 J);exact (h.2 i x (by rw[x4 hi,he])).1
 have W:∀ (i:Nat) (hi:i+1<m.length),m[i]<m[i+1]:=fun i hi=>by
  have h1:=X6.1 X i (i+1) (by omega) hi (by omega);have O:=X6.1 aa i (i+1) (by omega) hi (by omega);omega
 have ab:∀ (i:Nat) (hi:i<m.length),(i:Int)≤m[i]:=by
  intro i;induction i with
  |zero=>intro hi;exact (V _ (U6 hi)).1
  |succ i U=>
   intro hi;have h1:=U (by omega);have O:=W i hi;omega
 have ac:∀ (d i:Nat) (hi:i<m.length),i+d+1=m.length→m[i]≤(i:Int):=by
  intro d;induction d with
  |zero=>
   intro i hi he;have:=(V _ (U6 hi)).2;omega
  |succ d U=>
   intro i hi he;have h1:=U (i+1) (by omega) (by omega);have O:=W i (by omega);omega
 intro i hi;rw[x4 hi];have h1:=ab i hi;have O:=ac (m.length-i-1) i hi (by omega);congr 1;omega
theorem Fe {o m:List Int} (h:w5 m) (J:m.Perm o):Good o m.length:=by
 have X:m.Nodup:=X6.2 fun i j hi E Z he=>by
  have h1:=h i hi;have O:=h j E;rw[x4 hi] at h1;rw[x4 E] at O;have h1:=b9 h1;have O:=b9 O;omega
 have Y:o.Nodup:=J.nodup_iff.1 X;refine⟨J.length_eq.symm,fun i p hi=>⟨?_,fun j E U=>?_⟩⟩
 ·obtain⟨k,V,he⟩:=List.getElem_of_mem (J.mem_iff.2 (x2 hi));have h1:=h k V;rw[x4 V,he] at h1;cases h1;omega
 ·have W:i<o.length:=(x3.1 hi).1;have:=X6.1 Y j i (by omega) W E;rw[x4 W] at hi;rw[x4 (show j<o.length by omega)] at U;exact this ((b9 U).trans (b9 hi).symm)
theorem Good.w7 {o:List Int} {p:Nat} (h:Good o n) (J:p<n):∃ j:Nat,o[j]? =some (p:Int):=by
 let le:Int→Int→Bool:=fun a b=>decide (a≤b);have h1:(o.mergeSort le).Perm o:=List.mergeSort_perm o le;have E:(o.mergeSort le).Pairwise (·≤ ·):=by
  refine (List.pairwise_mergeSort (le:=le) (fun a b c h1 E=>?_) (fun a b=>?_) o).imp fun h=>by simpa[le] using h
  ·simp[le] at*;omega
  ·simp[le];omega
 have O:=w6 h h1 E p (by rw[h1.length_eq,h.1];exact J);obtain⟨j,U,he⟩:=List.getElem_of_mem (h1.mem_iff.1 (x2 O));exact⟨j,by rw[x4 U,he]⟩
def jO (o x:List Int):List Int:=(Z1 o.length).map fun(p:Nat)=>x.getD (o.idxOf (p:Int)) 0
theorem w8 (o x:List Int):(jO o x).length=o.length:=by simp[jO]
theorem w9 {o x:List Int} {p:Int} (h:Good o n) (J:x.length=n) (E:o[j]? =some p):(jO o x)[p.toNat]? =x[j]?:=by
 have h1:=(h.2 j p E).1;have W:j<o.length:=(x3.1 E).1;have hm:p∈o:=x2 E;have O:=List.idxOf_lt_length_of_mem hm;have U:o.idxOf p=j:=h.inj (by rw[x4 O,List.getElem_idxOf O]) E;have V:((p.toNat:Nat):Int)=p:=by omega
 have X:=h.1;unfold jO;rw[x7,List.getElem?_range (by omega)];simp only[c5,V,U];rw[u4,x4 (show j<x.length by omega)];rfl
theorem xa {o x y:List Int} (h:Good o n) (J:x.length=n) (W:y.length=n) (U:∀ (j:Nat) (p:Int),o[j]? =some p→y[p.toNat]? =x[j]?):y=jO o x:=by
 refine Y7 fun p=>?_;have X:=h.1;by_cases V:p<n
 ·obtain⟨j,E⟩:=h.w7 V;have h1:=U j p E;have O:=w9 h J E;rw[j6] at h1 O;rw[h1,O]
 ·rw[c8 (by omega),c8 (by rw[w8];omega)]
theorem lg:∀ {s t:List Int},cJ s t↔s.length=t.length∧ ∀ (i:Nat) (a v:Int),s[i]? =some a→t[i]? =some v→0≤v∧v<a
 |[],t=>by
  rw[w3];exact⟨fun h=>⟨by rw[h],fun i a v h _=>by simp at h⟩,fun h=>o9 h.1.symm⟩
 |k::s,[]=>⟨fun h=>absurd (pS h) (by simp),fun h=>absurd h.1 (by simp)⟩
 |k::s,v::t=>by
  rw[w2,lg (s:=s) (t:=t)];refine⟨fun⟨h1,J,O⟩=>⟨by simp[J],fun i a u E hu=>?_⟩,fun⟨h1,J⟩=>⟨J 0 k v rfl rfl,by simpa using h1,fun i a u E hu=>J (i+1) a u (by simpa using E) (by simpa using hu)⟩⟩;cases i with
  |zero=>simp at E hu;subst E;subst hu;exact h1
  |succ i=>exact O i a u (by simpa using E) (by simpa using hu)
def dr (s o:List Int):List Int:=o.map fun p=>s.getD p.toNat 0
theorem pU (s o:List Int):(dr s o).length=o.length:=by simp[dr]
theorem xb {s o:List Int} {p:Int} (h:Good o n) (J:s.length=n) (E:o[j]? =some p):(dr s o)[j]? =s[p.toNat]?:=by
 have h1:=(h.2 j p E).1;unfold dr;rw[x7,E,c5,u4,x4 (show p.toNat<s.length by omega)];rfl
theorem Ff {s o:List Int} (h:Good o n) (U:s.length=n) {x:Int} (J:x∈dr s o):x∈s:=by
 obtain⟨p,E,rfl⟩:=o8.1 J;obtain⟨j,O,he⟩:=List.getElem_of_mem E;have h1:=(h.2 j p (by rw[x4 O,he])).1;rw[u4,x4 (show p.toNat<s.length by omega)];exact U6 _
theorem bD.Fg {s o:List Int} (E:bD s) (h:Good o n) (O:s.length=n):bD (dr s o):=
 ⟨by rw[pU,h.1,←O];exact E.1,fun x J=>E.2 x (Ff h O J)⟩
theorem Fh {s o x:List Int} (h:Good o n) (E:s.length=n) (J:cJ (dr s o) x):cJ s (jO o x):=by
 obtain⟨h1,X⟩:=lg.1 J;rw[pU,h.1] at h1;refine lg.2 ⟨by rw[w8,h.1,E],fun p a v O ac=>?_⟩;have Y:p<n:=by have:=(x3.1 O).1;omega
 obtain⟨j,U⟩:=h.w7 Y;have V:=xb h E U;have W:=w9 h h1.symm U;rw[j6] at V W;exact X j a v (by rw[V,O]) (by rw[←W,ac])
def lh (s cs o:List Int):List Int:=(Z1 (az (dr s o)).toNat).map fun(q:Nat)=>cV s cs (jO o (cq (dr s o) q))
theorem xc (s cs o:List Int):(lh s cs o).length=(az (dr s o)).toNat:=by simp[lh]
theorem sn {f:Int→Bool} {x:Int}:runN f (x::l)=if f x=true then runN f l+1 else 0:=by
 unfold runN;rw[List.takeWhile_cons];by_cases h:f x=true
 ·rw[if_pos h,if_pos h,n9]
 ·rw[if_neg h,if_neg h];rfl
theorem sq (f:Int→Bool):∀ l:List Int,l.dropWhile f=l.drop (runN f l)
 |[]=>rfl
 |x::l=>by
  rw[List.dropWhile_cons,sn];by_cases h:f x=true
  ·rw[if_pos h,if_pos h,sq f l];rfl
  ·rw[if_neg h,if_neg h];rfl
theorem xd (f:Int→Bool):∀ l:List Int,l.takeWhile f=l.take (runN f l)
 |[]=>rfl
 |x::l=>by
  rw[List.takeWhile_cons,sn];by_cases h:f x=true
  ·rw[if_pos h,if_pos h,List.take_succ_cons,xd f l]
  ·rw[if_neg h,if_neg h];rfl
theorem xe {f:Int→Bool}:∀ {l:List Int} {b:Int} {q:List Int},l.dropWhile f=b::q→f b=false
 |x::l,b,q,h=>by
  rw[List.dropWhile_cons] at h;by_cases J:f x=true
  ·rw[if_pos J] at h;exact xe h
  ·rw[if_neg J] at h;have:=(List.cons.inj h).1;subst this;cases ae:f x
   ·rfl
   ·exact absurd ae J
theorem sr {p:List Int} {a:Nat} {b:Int} {q:List Int} (h:p.drop a=b::q):p[a]? =some b:=by
 have:=List.getElem?_drop (xs:=p) (i:=a) (j:=0);rw[h] at this;simpa using this.symm
theorem Fi (p:List Int) (at_:Nat):match mm p at_ with
  | .word a b=>lex (p.drop at_)=(((p.take b).drop a)::(lex (p.drop b)).1,(lex (p.drop b)).2)
  | .none=>lex (p.drop at_)=([],true)
  | .text _=>lex (p.drop at_)=([],false):=by
 have U:(p.drop at_).dropWhile bQ=p.drop (e6 p at_):=by rw[sq,List.drop_drop];rfl
 have V:(p.drop (e6 p at_)).dropWhile bi=p.drop (gL p (e6 p at_)):=by rw[sq,List.drop_drop];rfl
 have X:(p.drop (e6 p at_)).takeWhile bi=(p.take (gL p (e6 p at_))).drop (e6 p at_):=by
  rw[xd,List.drop_take];congr 1;unfold gL;omega
 have O:runN bi (p.drop (e6 p at_))=gL p (e6 p at_)-e6 p at_:=by unfold gL;omega
 have ai:e6 p at_≤gL p (e6 p at_):=by unfold gL;omega
 unfold mm;generalize e6 p at_=a at*;generalize gL p a=b at*;by_cases h1:b<p.length∧(∀ c,p[b]? =some c→bQ c=false)
 ·rw[if_pos h1];simp only;rw[ik,U];cases E:p.drop a with
  |nil=>
   have:=List.drop_eq_nil_iff.1 E;omega
  |cons x q=>
   simp only;rw[E] at V X O;by_cases J:bi x=true
   ·rw[if_pos J,V];cases W:p.drop b with
    |nil=>have:=List.drop_eq_nil_iff.1 W;omega
    |cons c r=>
     simp only;rw[h1.2 c (sr W)];rfl
   ·rw[if_neg J]
 ·rw[if_neg h1];by_cases Y:a=b
  ·rw[if_pos Y];simp only;subst Y;rw[ik,U];cases E:p.drop a with
   |nil=>rfl
   |cons x q=>
    exfalso;have Z:=sr E;have ad:=(x3.1 Z).1;rw[E] at O;rw[E] at U;have ae:=xe U;refine h1 ⟨ad,fun c aa=>?_⟩;rw[Z] at aa;cases aa;exact ae
  ·rw[if_neg Y];simp only;rw[ik (p.drop at_),U];cases E:p.drop a with
   |nil=>
    rw[E] at O;have:runN bi []=0:=rfl;omega
   |cons x q=>
    simp only;rw[E] at V X O;have J:bi x=true:=by
     rw[sn] at O;by_cases J:bi x=true
     ·exact J
     ·rw[if_neg J] at O;omega
    rw[if_pos J,V,X];cases W:p.drop b with
    |nil=>simp only;rw[ik []];rfl
    |cons c r=>
     simp only;have ab:=sr W;have af:=(x3.1 ab).1;have ag:bQ c=true:=by
      cases ah:bQ c with
      |true=>rfl
      |false=>exact absurd ⟨af,fun d ac=>by rw[ab] at ac;cases ac;exact ah⟩ h1
     rw[if_pos ag]
def fM (w:x1) (g:Nat) (R:Nat→Prop) (toks:List (List Int)) (clean:Bool):Prop:=∃ E p at_,jM w g E p at_ (-1)∧(∀ r,leads E r→R r)∧lex (p.drop at_)=(toks,clean)
theorem fM.U {g:Nat} (h:fM w g R toks clean) (J:ad S w w') (O:¬S g) (V:∀ r,R r→¬S r):fM w' g R toks clean:=by
 obtain⟨W,p,a,⟨h1,X,Y,Z,aa,ab⟩,E,ac⟩:=h;exact⟨W,p,a,⟨h1,X,Y,Z.U J O,aa,aZ ab J fun r ae=>V r (E r ae)⟩,E,ac⟩
theorem fM.words {g:Nat} (h:fM w g R toks clean):toks.length≤100000∧ ∀ t∈toks,Bytes t∧t≠[]∧t.length≤100000:=by
 obtain⟨W,p,a,⟨X,Y,Z,_⟩,_,J⟩:=h;have aa:(p.drop a).length≤100000:=by rw[List.length_drop];omega
 have E:=mj _ (p.drop a) (r9 _);rw[J] at E;refine⟨by show toks.length≤_;have E:toks.length≤_:=E;omega,fun t U=>?_⟩;have O:=pF _ (p.drop a) (r9 _) t (by rw[J];exact U);refine⟨fun b V=>?_,O.1,by omega⟩;have:=of_decide_eq_true (O.2.1 b V);omega
def Fj (w:x1) (g:Nat) (R:Nat→Prop) (toks:List (List Int)) (clean:Bool) (v:y0) (w':x1):Prop:=ad (fun r=>r=g) w w'∧match toks with
 |t::l=>fM w' g R l clean∧ ∃ n:Int,v= .tuple #[be t,.int .i64 n,.int .i64 0]
 |[]=>∃ n:Int,v= .tuple #[be [],.int .i64 n,.int .i64 (if clean then 2 else 11)]
theorem nK {g:Nat} (h:fM w g R toks clean):ag x5 rE [.pointer (some ⟨g,0,none⟩)] w (Fj w g R toks clean):=by
 obtain⟨Z,p,a,h1,aa,W⟩:=h;refine (EN h1).mono ?_;intro v w' _ hw;have E:=Fi p a;unfold nE at hw;cases X:mm p a with
 |word x y=>
  rw[X] at hw E;simp only at hw E;rw[W] at E;obtain⟨rfl,Y,ab⟩:=hw;obtain⟨O,V⟩:=U7.inj E;subst O V;exact⟨Y,⟨Z,p,y,ab,aa,rfl⟩,_,rfl⟩
 |none=>
  rw[X] at hw E;simp only at hw E;rw[W] at E;obtain⟨O,V⟩:=U7.inj E;subst O V;obtain⟨n,rfl,J⟩:=hw;exact⟨J.U _,_,rfl⟩
 |text b=>
  rw[X] at hw E;simp only at hw E;rw[W] at E;obtain⟨O,V⟩:=U7.inj E;subst O V;obtain⟨rfl,Y,_⟩:=hw;exact⟨Y,_,rfl⟩
def im (w:List Int):y0:=match e5 w with
 |some n=>.tuple #[.int .i64 n,.int .i64 0]
 |none=>.tuple #[.int .i64 0,.int .i64 4]
theorem xf {i:Nat} {b:Int} (hi:l[i]? =some b):(l.take (i+1)).all e4=((l.take i).all e4&&e4 b):=by
 rw[u5,hi,List.all_append];simp
theorem xg {i:Nat} {b:Int} (hi:l[i]? =some b):(l.take (i+1)).foldl dT 0=dT ((l.take i).foldl dT 0) b:=by
 rw[u5,hi,List.foldl_append];rfl
theorem xh (E:l≠[]) (h:l.all e4=true):il l=some (l.foldl dT 0):=by
 unfold il;cases l with
 |nil=>exact absurd rfl E
 |cons x l=>simp only[h,if_true]
theorem xi {i:Nat} {b:Int} (hi:l[i]? =some b) (E:e4 b=false):il l=none:=by
 unfold il;cases l with
 |nil=>simp at hi
 |cons x l=>
  simp only;rw[if_neg];intro h;have:=List.all_eq_true.1 h b (x2 hi);rw[E] at this;cases this
def mr (w l:List Int) (s:Int):Prop:=(s=1∨s= -1)∧e5 w=(il l).map fun n=>s*n
theorem xj:mr (45::l) l (-1):=⟨.inr rfl,by simp only[e5];congr 1;funext n;omega⟩
theorem xk {w:List Int} (h:∀ b,w[0]? =some b→b≠45):mr w w 1:=⟨.inl rfl,by
 have e:e5 w=il w:=by
  unfold e5;cases w with
  |nil=>rfl
  |cons x l=>
   have:=h x rfl;split
   ·rename_i l' he;exact absurd (List.cons.inj he).1 this
   ·rfl
 rw[e];cases il w with
 |none=>rfl
 |some n=>simp⟩
theorem pV {w:List Int} {s:Int} (h:mr w l s) (E:il l=none):im w= .tuple #[.int .i64 0,.int .i64 4]:=by
 unfold im;rw[h.2,E];rfl
theorem xl {w:List Int} {s n:Int} (h:mr w l s) (E:il l=some n):im w= .tuple #[.int .i64 (s*n),.int .i64 0]:=by
 unfold im;rw[h.2,E];rfl
set_option maxHeartbeats 1000000 in
theorem Fk (aa:Bytes l) (am:l.length≤100000):ag x5 CE [be l] w fun v w'=>v=im l∧Ext w w':=by
 refine ap func162 ?_;rw[Ex];refine fS (fun ax ay an=>Ext w an∧ ∃ (m:List Int) (s:Int),ax=be m∧ay= .int .i64 s∧Bytes m∧m.length≤100000∧mr l m s) ?_ ?_
 ·rintro _ _ an ⟨ai,m,s,rfl,rfl,ak,aO,ab⟩;rw[r6 ak (fun b E=>by cases E),af];refine⟨fun J=>⟨by rw[pV ab (by rw[J];rfl)],ai⟩,fun J=>?_⟩;refine sb bY.u b5.u b4.u ak (by omega) fun bv V ao aq _=>?_;rw[aK b5.u aq];refine oS.range m.length (fun i _ _ c ac=>Ext V ac∧c= .int .i64 ((m.take i).foldl dT 0)∧(m.take i).all e4=true) (by omega) ⟨Ext.refl _,rfl,rfl⟩ ?_ ?_
  ·rintro i az t3 _ ac aA hi ⟨O,rfl,U⟩ aD;obtain⟨b,X⟩:=aE (l:=m) hi;have aP:=ak b (x2 X);refine bC (by omega) ?_;refine Ey (fun _ _ c ad=>Ext V ad∧c= .int .i64 ((m.take (i+1)).foldl dT 0)∧(m.take (i+1)).all e4=true) ?_ ?_
   ·rintro aQ aS c ad aF;rw[aB];exact aD _ _ _ _ aF
   intro aG W;rw[a1 b5.u b4.i (by kernel_rfl) (aq.ext O) X];refine aI (fun v ad=>ac=ad∧v= .bool (!e4 b)) ?_ ?_
   rotate_left
   ·intro aH Y;rw[aC,af];refine⟨fun h=>Y _ _ ⟨rfl,by unfold e4;rw[decide_eq_false (by omega)];rfl⟩,fun h=>?_⟩;rw[br];refine Y _ _ ⟨rfl,?_⟩;unfold e4;congr 1;by_cases au:57<b
    ·rw[decide_eq_true au,decide_eq_false (by omega)];rfl
    ·rw[decide_eq_false au,decide_eq_true (by omega)];rfl
   rintro _ _ ⟨rfl,rfl⟩;cases al:e4 b with
   |false=>
    rw[Y9,bq];exact⟨by rw[pV ab (xi X al)],(ai.trans ao).trans O⟩
   |true=>
    rw[Y0,aR];have aT:=of_decide_eq_true al;have Z:=pG (l:=m.take i) (n:=0) U ⟨Int.le_refl _,by decide⟩;rw[xg X,xf X,U,al] at W;generalize (m.take i).foldl dT 0=n at*;have Z:0≤n∧n≤4611686018427387904:=Z;rw[dk,wrap_u8 (by omega) (by omega),ft b4.u aj.u,wrap_i64 (x:=b-48) (by omega) (by omega),dk,wrap_i64 (by omega) (by omega),pu (by decide),Int.tdiv_eq_ediv_of_nonneg (by omega)];rw[wrap_i64 (by omega) (by omega),br,af];refine⟨fun aJ=>W _ _ _ _ ⟨O,?_,rfl⟩,fun aJ=>?_⟩
    ·congr 1;unfold dT ah;omega
    ·rw[fV,wrap_i64 (by omega) (by omega),aB,wrap_i64 (by omega) (by omega)];refine W _ _ _ _ ⟨O,?_,rfl⟩;congr 1;unfold dT ah;omega
  ·rintro az t3 _ ac aA ⟨O,rfl,U⟩;rw[o5] at U ⊢;refine cH (by omega) ?_;have Z:=pG (l:=m) (n:=0) U ⟨Int.le_refl _,by decide⟩;have Z:0≤m.foldl dT 0∧m.foldl dT 0≤4611686018427387904:=Z;rw[fV];have hw:X5.wrap (s*m.foldl dT 0)=s*m.foldl dT 0:=by
    rcases ab.1 with rfl|rfl <;> exact wrap_i64 (by omega) (by omega)
   rw[hw];exact⟨by rw[xl ab (xh J U)],(ai.trans ao).trans O⟩
 ·intro aG W;refine aI (fun v V=>w=V∧ ∃ c:Bool,v= .bool c∧(c=true↔l[0]? =some 45)) ?_ ?_
  ·rintro _ _ ⟨rfl,c,rfl,av⟩;rw[ca];refine⟨fun aL=>?_,fun ae=>?_⟩
   ·intro aU aM _ _;have aw:=av.1 aL;cases l with
    |nil=>simp at aw
    |cons x r=>
     have aN:x=45:=by simpa using aw
     subst aN;rw[wx (y:=1) (i:=1) rfl bY.u (by simp)];exact W _ _ _ ⟨aM,r,-1,rfl,rfl,fun b E=>aa b (.tail _ E),by simp at am;omega,xj⟩
   ·refine W _ _ _ ⟨Ext.refl _,l,1,rfl,rfl,aa,am,xk fun b E he=>?_⟩;subst he;rw[av.2 E] at ae;cases ae
  ·intro aH Y;rw[r7 aa (fun b E=>by cases E),af];refine⟨fun J=>?_,fun J=>Y _ _ ⟨rfl,false,rfl,⟨fun h=>(by cases h),fun h=>by rw[Z6.1 J] at h;simp at h⟩⟩⟩;cases l with
   |nil=>exact absurd rfl J
   |cons x r=>
    rw[nB (y:=0) (i:=0) (b:=x) rfl bY.u aa rfl,bc];exact Y _ _ ⟨rfl,_,rfl,by simp⟩
theorem nL {s s':aq} {w:List Int} (h:c0 s=some (w,s')):s.toks=w::s'.toks∧s'={s with toks:=s'.toks}:=by
 unfold c0 at h;cases E:s.toks with
 |nil=>rw[E] at h;cases h
 |cons x l=>
  rw[E] at h;simp only[b8,W5] at h;obtain⟨rfl,rfl⟩:=h;exact⟨rfl,rfl⟩
theorem fW {n:Int} {s s':aq} (h:aS lo hi s=some (n,s')):(lo≤n∧n≤hi)∧(∃ w,s.toks=w::s'.toks∧e5 w=some n)∧s'={s with toks:=s'.toks}:=by
 unfold aS at h;cases hw:c0 s with
 |none=>rw[hw] at h;cases h
 |some q=>
  obtain⟨w,U⟩:=q;rw[hw] at h;simp only at h;obtain⟨h1,J⟩:=nL hw;cases E:e5 w with
  |none=>rw[E] at h;cases h
  |some m=>
   rw[E] at h;simp only at h;split at h
   ·rename_i O;simp only[b8,W5] at h;obtain⟨rfl,rfl⟩:=h;exact⟨O,⟨w,h1,E⟩,J⟩
   ·cases h
def gu (k:Nat) (s s':aq):Prop:=s.toks.length=s'.toks.length+k∧s'={s with toks:=s'.toks}
theorem gu.refl (s:aq):gu 0 s s:=⟨rfl,rfl⟩
theorem gu.trans {a b:Nat} {r s t:aq} (h:gu a r s) (k:gu b s t):gu (a+b) r t:=⟨by have:=h.1;have:=k.1;omega,by rw[k.2,h.2]⟩
theorem cB {n:Int} {s s':aq} (h:aS lo hi s=some (n,s')):gu 1 s s':=by
 obtain⟨_,⟨w,h1,_⟩,E⟩:=fW h;exact⟨by rw[h1];simp,E⟩
theorem gu.eqs {k:Nat} {s s':aq} (h:gu k s s'):s'.told=s.told∧s'.big=s.big∧s'.shared=s.shared:=by rw[h.2];exact⟨rfl,rfl,rfl⟩
theorem gM {α:Type} {f:List α→aq→Option (α×aq)} (I:List α→aq→Prop) (ae:∀ acc s a s',I acc s→f acc s=some (a,s')→I (acc++[a]) s'):
  ∀ (n:Nat) (acc:List α) (s:aq) (l:List α) (s':aq),I acc s→bZ f n acc s=some (l,s')→I l s'∧l.length=acc.length+n
 |0,acc,s,l,s',E,h=>by
  simp only[bZ,b8,W5] at h;obtain⟨rfl,rfl⟩:=h;exact⟨E,by omega⟩
 |n+1,acc,s,l,s',E,h=>by
  simp only[bZ] at h;cases J:f acc s with
  |none=>rw[J] at h;cases h
  |some q=>
   obtain⟨a,O⟩:=q;rw[J] at h;have:=gM I ae n _ _ _ _ (ae _ _ _ _ E J) h;exact⟨this.1,by rw[this.2];simp;omega⟩
theorem pW {n:Int} {k:Nat} {s s':aq} (h:dN n k s=some (l,s')):gu l.length s s'∧l.length=k∧l.Nodup∧ ∀ v∈l,0≤v∧v<n:=by
 have:=gM (fun acc t=>gu acc.length s t∧acc.Nodup∧ ∀ v∈acc,0≤v∧v<n) (fun acc t a X ⟨h1,U,V⟩ h=>by
  cases E:aS 0 (n-1) t with
  |none=>rw[E] at h;cases h
  |some q=>
   obtain⟨v,Y⟩:=q;rw[E] at h;simp only at h;split at h
   ·cases h
   ·rename_i W;simp only[b8,W5] at h;obtain⟨rfl,rfl⟩:=h;have Z:=(fW E).1;refine⟨by rw[u7];exact h1.trans (cB E),List.nodup_append.2 ⟨U,by simp,fun x J y O he=>?_⟩,fun x J=>?_⟩
    ·rw[p9] at O;subst O;subst he;exact W J
    ·rcases p8.1 J with J|J
     ·exact V x J
     ·rw[p9.1 J];omega) k [] s l s' ⟨gu.refl s,List.nodup_nil,fun v ac=>by cases ac⟩ h
 exact⟨this.1.1,by simpa using this.2,this.1.2.1,this.1.2.2⟩
theorem ss:∀ {ks acc:List Int} {s s':aq} {t:List Int},gK ks acc s=some (t,s')→ ∃ u,t=acc++u∧cJ ks u∧gu u.length s s'
 |[],acc,s,s',t,h=>by
  simp only[gK,b8,W5] at h;obtain⟨rfl,rfl⟩:=h;exact⟨[],by simp,w3.2 rfl,gu.refl s⟩
 |k::ks,acc,s,s',t,h=>by
  simp only[gK] at h;cases E:aS 0 (k-1) s with
  |none=>rw[E] at h;cases h
  |some q=>
   obtain⟨v,O⟩:=q;rw[E] at h;obtain⟨u,rfl,hu,J⟩:=ss h;have U:=(fW E).1;exact⟨v::u,by simp,w2.2 ⟨by omega,hu⟩,by rw[n9,Nat.add_comm];exact (cB E).trans J⟩
def kw (sizes:List Int) (l:List (List Int×Int)):Prop:=(l.map (·.1)).Nodup∧ ∀ p∈l,cJ sizes p.1∧0≤p.2
theorem lj {acc:List (List Int×Int)} {s s':aq} {a:List Int×Int} (h:dd sizes acc s=some (a,s')):a.1∉acc.map (·.1)∧cJ sizes a.1∧0≤a.2∧gu (a.1.length+1) s s':=by
 unfold dd at h;cases J:gK sizes [] s with
 |none=>rw[J] at h;cases h
 |some q=>
  obtain⟨t,O⟩:=q;rw[J] at h;simp only at h;obtain⟨u,hu,ac,U⟩:=ss J;rw[List.nil_append] at hu;subst hu;cases E:aS 0 ah O with
  |none=>rw[E] at h;cases h
  |some q=>
   obtain⟨c,W⟩:=q;rw[E] at h;simp only at h;split at h
   ·cases h
   ·rename_i V;simp only[b8,W5] at h;obtain⟨rfl,rfl⟩:=h;exact⟨V,ac,(fW E).1.1,U.trans (cB E)⟩
structure xm (s s':aq):Prop where
 toks:s'.toks.length<s.toks.length
 big:s.big=true→s'.big=true
theorem Fl {s s':aq} {l:List (List Int×Int)} (ab:∀ q∈s.shared,kw q.1 q.2∧q.2.length≤N) (al:s.toks.length≤N) (h:cR sizes s=some (l,s')):
  kw sizes l∧l.length≤N∧s'.shared=s.shared∧xm s s':=by
 unfold cR at h;cases W:aS (-ah) ah s with
 |none=>rw[W] at h;cases h
 |some q=>
  obtain⟨n,O⟩:=q;rw[W] at h;simp only at h;have h1:=cB W;obtain⟨am,ac,X⟩:=h1.eqs;split at h
  ·cases Y:O.shared[(-n-1).toNat]? with
   |none=>rw[Y] at h;cases h
   |some q=>
    obtain⟨z,l'⟩:=q;rw[Y] at h;simp only at h;split at h
    ·rename_i af;simp only[b8,W5] at h;obtain⟨rfl,rfl⟩:=h;subst af;have hm:=x2 Y;rw[X] at hm;exact⟨(ab _ hm).1,(ab _ hm).2,X,by have:=h1.1;omega,fun U=>by rw[ac];exact U⟩
    ·cases h
  ·have:=gM (fun acc t=>kw sizes acc∧t.shared=s.shared∧t.toks.length+acc.length≤O.toks.length∧(s.big=true→t.big=true)) (fun acc t a an ⟨V,Z,ag,aa⟩ g=>by
    obtain⟨ai,aj,ak,ad⟩:=lj g;obtain⟨f1,f2,f3⟩:=ad.eqs;refine⟨⟨?_,fun p E=>?_⟩,by rw[f3,Z],by have:=ad.1;simp only[u7,V5];omega,fun U=>by rw[f2];exact aa U⟩
    ·rw[j4];exact List.nodup_append.2 ⟨V.1,by simp,fun x J y ae he=>by
      simp only[List.map_cons,List.map_nil,p9] at ae;subst ae;subst he;exact ai J⟩
    ·rcases p8.1 E with E|E
     ·exact V.2 p E
     ·rw[p9.1 E];exact⟨aj,ak⟩) n.toNat [] (aM (decide (16384<min (O.told+n) ah)) {O with told:=min (O.told+n) ah}) l s' ⟨⟨by simp,fun p E=>by cases E⟩,X,by simp[aM],fun U=>by simp[aM,ac,U]⟩ h
   obtain⟨⟨V,Z,ag,aa⟩,_⟩:=this;have:=h1.1;exact⟨V,by omega,Z,⟨by omega,aa⟩⟩
structure pX (all:List Int) (N:Nat) (f:bG):Prop where
 scope:f.scope.Nodup∧ ∀ v∈f.scope,0≤v∧v<all.length
 sizes:f.sizes=f.scope.map fun v=>all.getD v.toNat 0
 other:0≤f.other
 lines:kw f.sizes f.lines
 len:f.lines.length≤N
theorem Fm {all:List Int} {s s':aq} {f:bG} (aa:∀ q∈s.shared,kw q.1 q.2∧q.2.length≤N) (az:s.toks.length≤N) (h:ck all s=some (f,s')):
  pX all N f∧(∀ q∈s'.shared,kw q.1 q.2∧q.2.length≤N)∧xm s s'∧(s'.big=false→f.scope.length≤6∧cI f.sizes=false):=by
 unfold ck at h;cases ab:aS (-ah) ah s with
 |none=>rw[ab] at h;cases h
 |some q=>
 obtain⟨a,am⟩:=q;rw[ab] at h;simp only at h;have t0:=cB ab;obtain⟨aA,an,ao⟩:=t0.eqs;cases h1:dN all.length a.natAbs am with
 |none=>rw[h1] at h;cases h
 |some q=>
 obtain⟨sc,V⟩:=q;rw[h1] at h;simp only at h;obtain⟨ad,aB,ap,au⟩:=pW h1;obtain⟨aC,av,aw⟩:=ad.eqs;generalize ax:sc.map (fun v=>all.getD v.toNat 0)=sizes at h;cases X:aS 0 ah (aM (decide (6<a.natAbs)||cI sizes) V) with
 |none=>rw[X] at h;cases h
 |some q=>
 obtain⟨other,O⟩:=q;rw[X] at h;simp only at h;have ae:=cB X;obtain⟨aD,Y,W⟩:=ae.eqs;have W:O.shared=s.shared:=by rw[W];show V.shared=_;rw[aw,ao]
 have aE:O.toks.length<s.toks.length:=by
  have:=t0.1;have:=ad.1;have Z:=ae.1;have:(aM (decide (6<a.natAbs)||cI sizes) V).toks.length=V.toks.length:=rfl;omega
 cases Z:cR sizes O with
 |none=>rw[Z] at h;cases h
 |some q=>
 obtain⟨lines,J⟩:=q;rw[Z] at h;simp only[b8,W5] at h;obtain⟨rfl,rfl⟩:=h;obtain⟨af,ag,ai,aj⟩:=Fl (N:=N) (by rw[W];exact aa) (by omega) Z;have ay:=aj.big;have gt:=aj.toks;have ak:O.big=true→ ∀ ac:aq,ac=(if a<0 then {J with shared:=J.shared++[(sizes,lines)]} else J)→ac.big=true:=fun U ac he=>by
  rw[he];split <;> exact ay U
 have Y:O.big=(s.big||(decide (6<a.natAbs)||cI sizes)):=by
  rw[Y];show (V.big||_)=_;rw[av,an]
 refine⟨⟨⟨ap,au⟩,ax.symm,(fW X).1.1,af,ag⟩,fun q E=>?_,⟨?_,fun U=>ak (by rw[Y,U];rfl) _ rfl⟩,fun U=>?_⟩
 ·split at E
  ·rcases p8.1 E with E|E
   ·rw[show J.shared=s.shared by rw[ai,W]] at E;exact aa q E
   ·rw[p9.1 E];exact⟨af,ag⟩
  ·rw[show J.shared=s.shared by rw[ai,W]] at E;exact aa q E
 ·have:(if a<0 then {J with shared:=J.shared++[(sizes,lines)]} else J).toks=J.toks:=by split <;> rfl
  rw[this];omega
 ·have al:O.big=false:=by
   cases E:O.big with
   |false=>rfl
   |true=>rw[ak E _ rfl] at U;cases U
  rw[Y,U3,U3,decide_eq_false_iff_not] at al;show sc.length≤6∧_;exact⟨by omega,al.2.2⟩
structure dU (N:Nat) (f:bu):Prop where
 name:f.name.length≤64
 k:1≤f.k∧f.k≤2147483648
 sizes:1≤f.sizes.length∧f.sizes.length≤64∧ ∀ z∈f.sizes,1≤z∧z≤32
 jb:f.funs.length≤256
 funs:∀ x∈f.funs,pX f.sizes N x∧x.scope.length≤6∧cI x.sizes=false
theorem nM {b:Bool} {s:aq} (h:(aM b s).big=false):s.big=false∧b=false:=by
 have h:(s.big||b)=false:=h;exact U3.1 h
theorem Fo {a b:aq} (h:a.big=true→b.big=true) (E:b.big=false):a.big=false:=by
 cases J:a.big with
 |false=>rfl
 |true=>rw[h J] at E;cases E
set_option maxHeartbeats 800000 in
theorem xn {s s':aq} {f:bu} (aA:s.shared=[]) (h:fw s=some (f,s')) (E:s'.big=false):dU s.toks.length f∧f.name∈s.toks:=by
 unfold fw at h;cases ag:c0 s with
 |none=>rw[ag] at h;cases h
 |some q=>
 obtain⟨name,s0⟩:=q;rw[ag] at h;simp only at h;obtain⟨av,V⟩:=nL ag;cases h1:aS 1 ah (aM (decide (64<name.length)) s0) with
 |none=>rw[h1] at h;cases h
 |some q=>
 obtain⟨n,aa⟩:=q;rw[h1] at h;simp only at h;have U:=cB h1;cases ai:aS 1 ah (aM (decide (64<n)) aa) with
 |none=>rw[ai] at h;cases h
 |some q=>
 obtain⟨most,aB⟩:=q;rw[ai] at h;simp only at h;have aj:=cB ai;cases ak:aS 0 ah aB with
 |none=>rw[ak] at h;cases h
 |some q=>
 obtain⟨ab,ac⟩:=q;rw[ak] at h;simp only at h;have t3:=cB ak;cases ad:aS 1 ah (aM (decide (256<ab)) ac) with
 |none=>rw[ad] at h;cases h
 |some q=>
 obtain⟨k,X⟩:=q;rw[ad] at h;simp only at h;have t4:=cB ad;cases al:bZ (eb most) n.toNat [] (aM (decide (2147483648<k)) X) with
 |none=>rw[al] at h;cases h
 |some q=>
 obtain⟨sizes,ae⟩:=q;rw[al] at h;simp only at h;cases am:bZ (fun _ s=>ck sizes s) ab.toNat [] ae with
 |none=>rw[am] at h;cases h
 |some q=>
 obtain⟨funs,aC⟩:=q;rw[am] at h;simp only[b8,W5] at h;obtain⟨rfl,rfl⟩:=h;have aD:=gM (fun(acc:List Int) t=>t.shared=[]∧t.toks.length≤s.toks.length∧(t.big=false→X.big=false∧k≤2147483648∧ ∀ z∈acc,1≤z∧z≤32)) (fun acc t a aE ⟨an,aw,ao⟩ g=>by
  unfold eb at g;cases W:aS 1 most t with
  |none=>rw[W] at g;cases g
  |some q=>
   obtain⟨z,U⟩:=q;rw[W] at g;simp only[b8,W5] at g;obtain⟨rfl,rfl⟩:=g;have ax:=cB W;obtain⟨a6,aF,aG⟩:=ax.eqs;have a7:=(fW W).1;refine⟨by show U.shared=[];rw[aG,an],by show U.toks.length≤_;have:=ax.1;omega,fun E=>?_⟩;obtain⟨O,Y⟩:=nM E;rw[aF] at O;obtain⟨ap,au,aH⟩:=ao O;refine⟨ap,au,fun y Z=>?_⟩;rcases p8.1 Z with Z|Z
   ·exact aH y Z
   ·rw[p9.1 Z];have:=of_decide_eq_false Y;omega) n.toNat [] (aM (decide (2147483648<k)) X) sizes ae ⟨by
     show X.shared=[];rw[t4.eqs.2.2];show ac.shared=[];rw[t3.eqs.2.2,aj.eqs.2.2];show aa.shared=[];rw[U.eqs.2.2];show s0.shared=[];rw[V];exact aA,by
     show X.toks.length≤_;have aI:=U.1;have aJ:=aj.1;have a3:=t3.1;have a4:=t4.1;have O:(aM (decide (64<name.length)) s0).toks=s0.toks:=rfl;have Y:(aM (decide (64<n)) aa).toks=aa.toks:=rfl;have af:(aM (decide (256<ab)) ac).toks=ac.toks:=rfl;rw[O] at aI;rw[Y] at aJ;rw[af] at a4;rw[av,n9];omega,fun E=>by
     obtain⟨O,Y⟩:=nM E;have:=of_decide_eq_false Y;exact⟨O,by omega,fun z aK=>by cases aK⟩⟩ al
 obtain⟨⟨aL,aN,aO⟩,aP⟩:=aD;have aQ:=gM (fun(acc:List bG) t=>(∀ q∈t.shared,kw q.1 q.2∧q.2.length≤s.toks.length)∧t.toks.length≤s.toks.length∧(t.big=false→ae.big=false∧ ∀ x∈acc,pX sizes s.toks.length x∧x.scope.length≤6∧cI x.sizes=false)) (fun acc t a aE ⟨an,aw,ao⟩ g=>by
  obtain⟨aR,aT,ay,aU⟩:=Fm an aw g;refine⟨aT,by have:=ay.toks;omega,fun E=>?_⟩;obtain⟨ap,au⟩:=ao (Fo ay.big E);refine⟨ap,fun x J=>?_⟩;rcases p8.1 J with J|J
  ·exact au x J
  ·rw[p9.1 J];exact⟨aR,aU E⟩) ab.toNat [] ae funs aC ⟨(by rw[aL];intro q W;cases W),aN,fun E=>⟨E,fun x J=>by cases J⟩⟩ am
 obtain⟨⟨_,_,d3⟩,d4⟩:=aQ;obtain⟨aV,d5⟩:=d3 E;obtain⟨af,aW,aX⟩:=aO aV;rw[t4.eqs.2.1] at af;obtain⟨az,aY⟩:=nM af;rw[t3.eqs.2.1,aj.eqs.2.1] at az;obtain⟨O,aZ⟩:=nM az;rw[U.eqs.2.1] at O;obtain⟨_,a1⟩:=nM O;have:=of_decide_eq_false aY;have:=of_decide_eq_false aZ;have:=of_decide_eq_false a1;have a8:=(fW h1).1;have a2:=(fW ad).1;simp only[List.length_nil,V0] at aP d4;exact⟨⟨by show name.length≤64;omega,⟨a2.1,aW⟩,⟨by show 1≤sizes.length;omega,by show sizes.length≤64;omega,aX⟩,by show funs.length≤256;omega,d5⟩,by rw[av];exact .head _⟩
def hU (x:bG) (k:Int) (t:List Int):Int:=min (match x.lines.find? (fun p=>decide (p.1=t)) with
 |some p=>p.2
 |none=>x.other) k
def aW (l:List Int):List Int:=((Z1 64).map fun(v:Nat)=>(v:Int)).filter fun v=>decide (v∈l)
def bK (sizes scope:List Int):List Int:=scope.map fun v=>sizes.getD v.toNat 0
def mu (scope E t:List Int):List Int:=scope.map fun v=>t.getD (E.idxOf v) 0
abbrev b1:Type:=List Int×List Int
def fX (sizes:List Int) (k:Int) (x:bG):b1:=(aW x.scope,(bo (bK sizes (aW x.scope))).map fun t=>hU x k (mu x.scope (aW x.scope) t))
def dh (k:Int) (a b:List Int):List Int:=List.zipWith (fun x y=>min (x+y) k) a b
def gv (k:Int) (acc:List b1) (g:b1):List b1:=if g.1∈acc.map (·.1) then acc.map fun h=>if h.1=g.1 then (h.1,dh k h.2 g.2) else h else acc++[g]
def hx:List Int→Int
 |[]=>0
 |x::l=>x*64 ^ l.length+hx l
def cw (l:List Int):Int:=l.length*64 ^ 6+hx l
def fN (g:b1):List b1→List b1
 |[]=>[g]
 |h::l=>if cw h.1<cw g.1 then h::fN g l else g::h::l
def ej (g:b1):Bool:=g.2.any fun c=>decide (0<c)
def ec (f:bu):List b1:=(f.funs.map (fX f.sizes f.k)).foldl (gv f.k) []
def ek (f:bu):List b1:=((ec f).filter ej).foldl (fun l g=>fN g l) []
structure aV where
 k:Int
 sizes:List Int
 zero:Int
 unary:List (List Int)
 funs:List b1
deriving DecidableEq
def dm (f:bu):aV:=(ek f).foldl (fun n g=>match g.1 with
 |[]=>{n with zero:=g.2.getD 0 0}
 |[v]=>{n with unary:=n.unary.set v.toNat g.2}
 |_=>{n with funs:=n.funs++[g]}) ⟨f.k,f.sizes,0,f.sizes.map fun z=>u6 z.toNat 0,[]⟩
abbrev gN:Type:=Rd (List Int)×Rd (List (List Int×Int))
def bf (g gs:Nat) (A:am):am:=fun r=>r=g∨r=gs∨A r
def eB (gs:Nat) (e big E J told:Int) (sv:y0):List y0:=[.pointer (some ⟨gs,0,none⟩),.int .i64 e,.int .i64 big,.int .i64 E,.int .i64 J,.int .i64 told,sv]
def bW (g gs:Nat) (A:am) (B:am):am:=fun r=>¬bf g gs A r∧B r
def jc (w:x1) (g gs:Nat) (A:am) (B:am):Prop:=g≠gs∧¬A g∧¬A gs∧(∀ r,bf g gs A r→r<w.heap.size)∧ ∀ r,B r→r<w.heap.size
def cE (w:x1) (g gs:Nat) (A:am) (B:am) (s:aq) (clean:Bool):Prop:=jc w g gs A B∧fM w gs (bW g gs A B) s.toks clean∧(0≤s.told∧s.told≤ah∧s.shared.length+s.toks.length≤100000)∧
 ∃ big E J told sv,aa w g bF (eB gs 0 big E J told sv)∧((s.big=true↔big≠0)∧(s.big=false→told=s.told))∧dp A (bW g gs A B) w [sv] (show List gN from s.shared)
def dz (w:x1) (g gs:Nat) (A:am) (B:am):Prop:=jc w g gs A B∧ ∃ (e big E J told:Int) (sv:y0) (l:List gN),aa w g bF (eB gs e big E J told sv)∧(e≠0∧l.length≤100000)∧dp A (bW g gs A B) w [sv] l
theorem jc.U {g:Nat} {A:am} {B:am} (h:jc w g gs A B) (J:ad S w w'):jc w' g gs A B:=by
 obtain⟨h1,O,V,W,X⟩:=h;exact⟨h1,O,V,fun r E=>Nat.lt_of_lt_of_le (W r E) J.size,fun r E=>Nat.lt_of_lt_of_le (X r E) J.size⟩
theorem xo {g:Nat} {A:am} {B:am} (E:∀ r,A r→¬S r) (J:∀ r,bW g gs A B r→¬S r):∀ r,A r∨bW g gs A B r→¬S r:=fun r h=>h.elim (E r) (J r)
theorem cE.U {g:Nat} {A:am} {B:am} {s:aq} (h:cE w g gs A B s clean) (J:ad S w w') (E:∀ r,bf g gs A r→¬S r) (O:∀ r,bW g gs A B r→¬S r):cE w' g gs A B s clean:=by
 obtain⟨h1,V,W,big,X,Y,told,sv,Z,aa,ab⟩:=h;exact⟨h1.U J,V.U J (E gs (.inr (.inl rfl))) O,W,big,X,Y,told,sv,Z.U J (E g (.inl rfl)),aa,au.U ab J fun r _ h=>xo (fun r ac=>E r (.inr (.inr ac))) O r h⟩
theorem dz.U {g:Nat} {A:am} {B:am} (h:dz w g gs A B) (J:ad S w w') (E:∀ r,bf g gs A r→¬S r) (O:∀ r,bW g gs A B r→¬S r):dz w' g gs A B:=by
 obtain⟨h1,e,big,V,W,told,sv,l,X,Y,Z⟩:=h;exact⟨h1.U J,e,big,V,W,told,sv,l,X.U J (E g (.inl rfl)),Y,au.U Z J fun r _ h=>xo (fun r aa=>E r (.inr (.inr aa))) O r h⟩
theorem cE.ext {g:Nat} {A:am} {B:am} {s:aq} (h:cE w g gs A B s clean) (J:Ext w w'):cE w' g gs A B s clean:=h.U (J.U fun _=>False) (fun _ _ h=>h) (fun _ _ h=>h)
theorem dz.ext {g:Nat} {A:am} {B:am} (h:dz w g gs A B) (J:Ext w w'):dz w' g gs A B:=h.U (J.U fun _=>False) (fun _ _ h=>h) (fun _ _ h=>h)
def eP (w:x1) (g gs:Nat) (A:am) (B:am) (clean:Bool) (s':Option aq) (w':x1):Prop:=ad (bf g gs A) w w'∧match s' with
 |some s'=>cE w' g gs A B s' clean
 |none=>dz w' g gs A B
theorem su {g:Nat} {e big E J told:Int} (O:aa w g bF (eB gs e big E J told sv)):ag x5 iP [.pointer (some ⟨g,0,none⟩)] w fun v w'=>v= .bool (decide (e=0))∧Ext w w':=by
 refine ap func90 ?_;rw[bB,aF bF.p rfl,aF dS.p rfl,av (by kernel_rfl) (O.cell (o:=0+1+0) rfl),bc];exact⟨rfl,Ext.refl _⟩
theorem mv {g:Nat} {A:am} {B:am} {s:aq} (h:cE w g gs A B s clean):ag x5 iP [.pointer (some ⟨g,0,none⟩)] w fun v w'=>v= .bool true∧Ext w w':=by
 obtain⟨_,_,_,big,J,O,told,sv,E,_⟩:=h;exact (su E).mono fun _ _ _ h=>h
theorem lk {g:Nat} {A:am} {B:am} (h:dz w g gs A B):ag x5 iP [.pointer (some ⟨g,0,none⟩)] w fun v w'=>v= .bool false∧Ext w w':=by
 obtain⟨_,e,big,U,V,told,sv,l,E,O,_⟩:=h;refine (su E).mono ?_;rintro _ W _ ⟨rfl,J⟩;exact⟨by rw[decide_eq_false O.1],J⟩
theorem pY {g:Nat} {A B:am} (h:A r∨bW g gs A B r) (E:¬A g):r≠g:=by
 rintro rfl;rcases h with h|h
 ·exact E h
 ·exact h.1 (.inl rfl)
theorem pZ {g:Nat} {A:am} {B:am} {big X E told e:Int} {l:List gN} (Y:jc w g gs A B) (Z:aa w g bF (eB gs 0 big X E told sv)) (ac:dp A (bW g gs A B) w [sv] l) (he:e≠0) (ae:l.length≤100000):
  ag x5 kV [.pointer (some ⟨g,0,none⟩),.int .i64 e,.int .i64 at_] w fun _ w'=>ad (fun r=>r=g) w w'∧dz w' g gs A B:=by
 refine ap func93 ?_;rw[bB,aF bF.p rfl,aF dS.p rfl,av (by kernel_rfl) (Z.cell (o:=0+1+0) rfl),bc,af];refine⟨fun _=>?_,fun h=>absurd rfl h⟩;rw[bB,aF bF.p rfl,aF dS.p rfl];refine aY (g:=g) (o:=1) hK.i rfl rfl Z (by simp[eB]) fun ah ai al J=>?_;have J:aa ah g bF (eB gs e big X E told sv):=J;rw[bB,aF bF.p rfl,aF dS.p rfl];refine aY (g:=g) (o:=3) ab.i rfl rfl J (by simp[eB]) fun V aj an O=>?_;have O:aa V g bF (eB gs e big at_ E told sv):=O;have W:=ai.trans aj;exact⟨W,Y.U W,e,big,at_,E,told,sv,l,O,⟨he,ae⟩,au.U ac W fun r _ h ak=>pY h Y.2.1 ak⟩
theorem p0 {g:Nat} {A:am} {B:am} {s:aq} {e:Int} (h:cE w g gs A B s clean) (he:e≠0):ag x5 kV [.pointer (some ⟨g,0,none⟩),.int .i64 e,.int .i64 at_] w fun _ w'=>ad (fun r=>r=g) w w'∧dz w' g gs A B:=by
 obtain⟨E,_,J,big,V,W,told,sv,O,_,U⟩:=h;exact pZ E O U he (by have:=J.2.2;show s.shared.length≤_;omega)
theorem Fp {g:Nat} {A:am} {B:am} {e:Int} (h:dz w g gs A B):ag x5 kV [.pointer (some ⟨g,0,none⟩),.int .i64 e,.int .i64 at_] w fun _ w'=>Ext w w':=by
 obtain⟨_,J,big,O,U,told,sv,l,h1,E,_⟩:=h;refine ap func93 ?_;rw[bB,aF bF.p rfl,aF dS.p rfl,av (by kernel_rfl) (h1.cell (o:=0+1+0) rfl),bc,af];exact⟨fun h=>absurd h E.1,fun _=>Ext.refl _⟩
theorem p1 {g:Nat} {A:am} {B:am} {s:aq} {b:Bool} (h:cE w g gs A B s clean):ag x5 ns [.pointer (some ⟨g,0,none⟩),.bool b,.int .i64 at_] w fun _ w'=>ad (fun r=>r=g) w w'∧cE w' g gs A B (aM b s) clean:=by
 obtain⟨J,ai,aj,big,O,ak,told,sv,W,al,an⟩:=id h;refine ap func88 ?_;refine aI (fun v Y=>w=Y∧v= .bool (b&&decide (big=0))) ?_ ?_
 rotate_left
 ·intro aA Z;cases b with
  |false=>rw[aR];exact Z _ _ ⟨rfl,rfl⟩
  |true=>
   rw[bq,bB,aF bF.p rfl,aF dS.p rfl,av (by kernel_rfl) (W.cell (o:=0+1+1) rfl),bc,af];refine⟨fun E=>?_,fun E=>Z _ _ ⟨rfl,by rw[decide_eq_false E];rfl⟩⟩;rw[bB,aF bF.p rfl,aF dS.p rfl,av (by kernel_rfl) (W.cell (o:=0+1+0) rfl),bc];exact Z _ _ ⟨rfl,by rw[decide_eq_true E];rfl⟩
 rintro _ _ ⟨rfl,rfl⟩;rw[ca];refine⟨fun ao=>?_,fun ae=>?_⟩
 ·obtain⟨rfl,E⟩:=Bool.and_eq_true_iff.1 ao;rw[bB,aF bF.p rfl,aF dS.p rfl];refine aY (g:=g) (o:=2) hK.i rfl rfl W (by simp[eB]) fun Y aw aB ac=>?_;have ac:aa Y g bF (eB gs 0 5 O ak told sv):=ac;rw[bB,aF bF.p rfl,aF dS.p rfl];refine aY (g:=g) (o:=4) ab.i rfl rfl ac (by simp[eB]) fun V ax aC ah=>?_;have ah:aa V g bF (eB gs 0 5 O at_ told sv):=ah;have X:=aw.trans ax;exact⟨X,J.U X,ai.U X (fun he=>J.1 he.symm) (fun r ay he=>ay.1 (.inl he)),aj,5,O,at_,told,sv,ah,⟨⟨fun _=>by omega,fun _=>by simp[aM]⟩,fun h=>by simp[aM] at h⟩,au.U an X fun r _ h az=>pY h J.2.1 az⟩
 ·refine⟨ad.refl _ _,J,ai,aj,big,O,ak,told,sv,W,⟨?_,fun h=>al.2 (by
   have h:(s.big||b)=false:=h;exact (U3.1 h).1)⟩,an⟩
  show (s.big||b)=true↔big≠0;cases b with
  |false=>rw[Bool.or_false];exact al.1
  |true=>
   have E:big≠0:=of_decide_eq_false (by simpa using ae);simp[E]
theorem xp {g:Nat} {A:am} {B:am} {b:Bool} (h:dz w g gs A B):ag x5 ns [.pointer (some ⟨g,0,none⟩),.bool b,.int .i64 at_] w fun _ w'=>Ext w w':=by
 obtain⟨_,V,big,W,X,told,sv,l,h1,J,_⟩:=h;refine ap func88 ?_;refine aI (fun v O=>w=O∧v= .bool false) ?_ ?_
 ·rintro _ _ ⟨rfl,rfl⟩;rw[aR];exact Ext.refl _
 intro Y E;cases b with
 |false=>rw[aR];exact E _ _ ⟨rfl,rfl⟩
 |true=>
  rw[bq,bB,aF bF.p rfl,aF dS.p rfl,av (by kernel_rfl) (h1.cell (o:=0+1+1) rfl),bc,af];refine⟨fun U=>?_,fun U=>E _ _ ⟨rfl,rfl⟩⟩;rw[bB,aF bF.p rfl,aF dS.p rfl,av (by kernel_rfl) (h1.cell (o:=0+1+0) rfl),bc];exact E _ _ ⟨rfl,by rw[decide_eq_false J.1]⟩
theorem cE.scan {g:Nat} {A:am} {B:am} {s:aq} {l:List (List Int)} (h:cE w g gs A B s clean) (E:ad (fun r=>r=gs) w w') (V:fM w' gs (bW g gs A B) l clean) (ab:l.length≤s.toks.length):cE w' g gs A B {s with toks:=l} clean:=by
 obtain⟨h1,_,J,big,W,X,told,sv,Y,Z,aa⟩:=h;refine⟨h1.U E,V,⟨J.1,J.2.1,by have:=J.2.2;show s.shared.length+l.length≤100000;omega⟩,big,W,X,told,sv,Y.U E h1.1,Z,au.U aa E fun r _ h O=>?_⟩;have O:r=gs:=O;subst O;rcases h with h|h
 ·exact h1.2.2.1 h
 ·exact h.1 (.inr (.inl rfl))
theorem xq {g:Nat} {A:am} {B:am} {s:aq} (h:cE w g gs A B s clean):ag x5 vm [.pointer (some ⟨g,0,none⟩)] w fun v w'=>eP w g gs A B clean ((c0 s).map (·.2)) w'∧ ∃ (t:List Int) (n:Int),v= .tuple #[be t,.int .i64 n]∧Bytes t∧t.length≤100000∧ ∀ q,c0 s=some q→t=q.1:=by
 refine ap func87 ?_;refine (mv h).mono ?_;rintro _ aG _ ⟨rfl,ai⟩;rw[bJ,Y0,aR];have h1:=h.ext ai;obtain⟨_,aj,_,big,an,ao,told,sv,X,_⟩:=id h1;have av:=aj.words.2;rw[aD bF.p 0 X rfl];refine (nK aj).mono ?_;rintro v V _ ⟨O,ac⟩;have ak:ad (bf g gs A) w V:=(ai.U _).trans (O.mono fun r _ h=>.inr (.inl h));cases J:s.toks with
 |cons t l=>
  rw[J] at ac;obtain⟨aw,n,rfl⟩:=ac;have ax:=h1.scan O aw (by rw[J];simp);have Y:c0 s=some (t,{s with toks:=l}):=by unfold c0;rw[J]
  have al:=av t (by rw[J];exact .head _);rw[e1,e2,e3];refine aI (fun v Z=>V=Z∧v= .int .i64 0) ?_ ?_
  ·rintro _ _ ⟨rfl,rfl⟩;refine cX (fun W=>V=W) ?_ ?_
   ·rintro _ rfl;rw[Y];exact⟨⟨ak,ax⟩,t,n,rfl,al.1,al.2.2,fun q aa=>by cases aa;rfl⟩
   ·intro ab E;rw[bj,af];exact⟨fun h=>absurd rfl h,fun _=>E _ rfl⟩
  ·intro ab E;rw[bc,af];exact⟨fun h=>by omega,fun _=>E _ _ ⟨rfl,rfl⟩⟩
 |nil=>
  rw[J] at ac;obtain⟨n,rfl⟩:=ac;have Y:c0 s=none:=by unfold c0;rw[J]
  obtain⟨ae,_,ay,big,an,ao,told,sv,X,aH,az⟩:=id h1;have aA:=X.U O ae.1;have aB:=au.U az O fun r _ h ah=>by
   have ah:r=gs:=ah;subst ah;rcases h with h|h
   ·exact ae.2.2.1 h
   ·exact h.1 (.inr (.inl rfl))
  rw[e1,e2,e3];refine aI (fun v Z=>V=Z∧ ∃ e:Int,v= .int .i64 e∧e≠0) ?_ ?_
  ·rintro _ _ ⟨rfl,e,rfl,he⟩;refine cX (fun W=>ad (fun r=>r=g) V W∧dz W g gs A B) ?_ ?_
   ·rintro W ⟨aC,aE⟩;rw[Y];exact⟨⟨ak.trans (aC.mono fun r _ h=>.inl h),aE⟩,[],n,rfl,fun b aF=>(by cases aF),by simp,fun q aa=>by cases aa⟩
   ·intro ab E;rw[bj,af];refine⟨fun _=>?_,fun h=>absurd he h⟩;exact (pZ (ae.U O) aA aB he (by have:=ay.2.2;show s.shared.length≤_;omega)).mono fun _ w' _ h=>E _ h
  ·intro ab E;rw[bc,af];cases clean with
   |true=>exact⟨fun _=>E _ _ ⟨rfl,4,rfl,by omega⟩,fun h=>absurd rfl h⟩
   |false=>exact⟨fun h=>by simp at h,fun _=>E _ _ ⟨rfl,11,rfl,by omega⟩⟩
theorem Fq {g:Nat} {A:am} {B:am} (h:dz w g gs A B):ag x5 vm [.pointer (some ⟨g,0,none⟩)] w fun v w'=>Ext w w'∧v= .tuple #[be [],.int .i64 0]:=by
 refine ap func87 ?_;refine (lk h).mono ?_;rintro _ J _ ⟨rfl,E⟩;rw[bJ,Y9,bq];exact⟨E,rfl⟩
theorem sw {g:Nat} {A:am} {B:am} {s:aq} (h:cE w g gs A B s clean):ag x5 kU [.pointer (some ⟨g,0,none⟩),.int .i64 lo,.int .i64 hi] w fun v w'=>eP w g gs A B clean ((aS lo hi s).map (·.2)) w'∧ ∃ n at_:Int,v= .tuple #[.int .i64 n,.int .i64 at_]∧(∀ q,aS lo hi s=some q→n=q.1)∧(aS lo hi s=none→n=0):=by
 refine ap func89 ?_;refine (xq h).mono ?_;rintro _ Y _ ⟨⟨Z,J⟩,t,n,rfl,ak,al,hw⟩;rw[a8,ba];cases O:c0 s with
 |none=>
  have E:aS lo hi s=none:=by unfold aS;rw[O]
  rw[O] at J;have J:dz Y g gs A B:=J;refine (lk J).mono ?_;rintro _ V _ ⟨rfl,W⟩;rw[bJ,Y9,bq,E];exact⟨⟨Z.trans (W.U _),J.ext W⟩,0,n,rfl,fun q h=>(by cases h),fun _=>rfl⟩
 |some q=>
  obtain⟨av,aa⟩:=q;have:=hw _ O;subst this;rw[O] at J;have J:cE Y g gs A B aa clean:=J;refine (mv J).mono ?_;rintro _ V _ ⟨rfl,W⟩;rw[bJ,Y0,aR];refine (Fk ak al).mono ?_;rintro _ ab _ ⟨rfl,ae⟩;have ah:=(J.ext W).ext ae;have ai:ad (bf g gs A) w ab:=(Z.trans (W.U _)).trans (ae.U _);obtain⟨m,e,ac,hm⟩:∃ m e:Int,im t= .tuple #[.int .i64 m,.int .i64 e]∧((e5 t=some m∧e=0)∨(e5 t=none∧e=4)):=by
   unfold im;cases aw:e5 t with
   |none=>exact⟨0,4,rfl,.inr ⟨rfl,rfl⟩⟩
   |some m=>exact⟨m,0,rfl,.inl ⟨rfl,rfl⟩⟩
  rw[ac,a8,ba];refine aI (fun v an=>ab=an∧v= .bool (aS lo hi s).isNone) ?_ ?_
  ·rintro _ _ ⟨rfl,rfl⟩;cases E:aS lo hi s with
   |none=>
    rw[Option.isNone_none,bq];refine (p0 ah (by omega)).mono ?_;rintro _ ax _ ⟨ao,au⟩;exact⟨⟨ai.trans (ao.mono fun r _ h=>.inl h),au⟩,0,n,rfl,fun q h=>(by cases h),fun _=>rfl⟩
   |some q=>
    rw[c6,aR];unfold aS at E;rw[O] at E;simp only at E;rcases hm with⟨hm,_⟩|⟨hm,_⟩
    ·rw[hm] at E;simp only at E;split at E
     ·cases E;exact⟨⟨ai,ah⟩,m,n,rfl,fun q h=>(by cases h;rfl),fun h=>(by cases h)⟩
     ·cases E
    ·rw[hm] at E;cases E
  ·intro ay X;have E:aS lo hi s=match e5 t with
     |none=>none
     |some n=>if lo≤n∧n≤hi then some (n,aa) else none:=by
    unfold aS;rw[O];simp only;cases e5 t <;> rfl
   rw[bj,af];rcases hm with⟨hm,rfl⟩|⟨hm,rfl⟩
   ·rw[hm] at E;simp only at E;refine⟨fun h=>absurd rfl h,fun _=>?_⟩;rw[aC,af];refine⟨fun h=>X _ _ ⟨rfl,by rw[E,if_neg (by omega)];rfl⟩,fun h=>?_⟩;rw[br];refine X _ _ ⟨rfl,?_⟩;rw[E];by_cases aj:hi<m
    ·rw[decide_eq_true aj,if_neg (by omega)];rfl
    ·rw[decide_eq_false aj,if_pos (by omega)];rfl
   ·rw[hm] at E;exact⟨fun _=>X _ _ ⟨rfl,by rw[E];rfl⟩,fun h=>absurd (by omega:(4:Int)≠0) h⟩
theorem Fr {g:Nat} {A:am} {B:am} (h:dz w g gs A B):ag x5 kU [.pointer (some ⟨g,0,none⟩),.int .i64 lo,.int .i64 hi] w fun v w'=>Ext w w'∧v= .tuple #[.int .i64 0,.int .i64 0]:=by
 refine ap func89 ?_;refine (Fq h).mono ?_;rintro _ O _ ⟨E,rfl⟩;rw[a8,ba];refine (lk (h.ext E)).mono ?_;rintro _ V _ ⟨rfl,J⟩;rw[bJ,Y9,bq];exact⟨E.trans J,rfl⟩
theorem Fs {x:Int} (h:ay .i64 w sv l):ag x5 Dy [sv,.int .i64 x] w fun v w'=>Ext w w'∧ ∃ r:Int,v= .int .i64 r∧(0≤r↔x∈l):=by
 refine ap func262 ?_;rw[aK an.u h];refine bO.range l.length (fun i _ O=>Ext w O∧x∉l.take i) h.le ⟨Ext.refl _,by simp⟩ ?_ ?_
 ·rintro i _ O k hi ⟨E,J⟩ V;refine bC (by omega) ?_;obtain⟨y,U⟩:=aE (l:=l) hi;rw[a1 an.u aj.i (by kernel_rfl) (h.ext E) U,bc,af];refine⟨fun he=>⟨E,i,rfl,⟨fun _=>he▸x2 U,fun _=>by omega⟩⟩,fun he=>?_⟩;rw[aB];refine V _ _ ⟨E,fun hm=>?_⟩;rw[u5,U] at hm;rcases p8.1 hm with hm|hm
  ·exact J hm
  ·simp at hm;exact he hm
 ·rintro _ O k ⟨E,J⟩;rw[o5] at J;rw[aC,af];exact⟨fun h=>by omega,fun _=>⟨E,-1,rfl,⟨fun h=>by omega,fun h=>absurd h J⟩⟩⟩
theorem Ft {x:Int} (h:ay .i64 w sv l):ag x5 Df [sv,.int .i64 x] w fun v w'=>v= .bool (decide (x∈l))∧Ext w w':=by
 refine ap func225 ?_;refine (Fs h).mono ?_;rintro _ O _ ⟨J,r,rfl,E⟩;rw[cn];exact⟨by congr 1;rw[X8,decide_eq_true_eq,decide_eq_true_eq];exact E,J⟩
theorem p2:∀ {l:List Int},(∀ z∈l,1≤z)→ ∀ i,az ((l.take i).map fun k=>min k 4097)≤az (l.map fun k=>min k 4097)∧1≤az ((l.take i).map fun k=>min k 4097)
 |[],_,i=>by simp[az]
 |z::l,h,0=>by
  have E:=p2 (l:=l) (fun x J=>h x (.tail _ J)) l.length;rw[o5] at E;have O:=h z (.head _);simp only[List.take_zero,List.map_nil,List.map_cons,az];have:=Int.mul_le_mul_of_nonneg_left E.2 (show 0≤min z 4097 by omega);omega
 |z::l,h,i+1=>by
  have E:=p2 (l:=l) (fun x J=>h x (.tail _ J)) i;have O:=h z (.head _);simp only[List.take_succ_cons,List.map_cons,az];have h1:=Int.mul_le_mul_of_nonneg_left E.1 (show 0≤min z 4097 by omega);have U:=Int.mul_le_mul_of_nonneg_left E.2 (show 0≤min z 4097 by omega);exact⟨h1,by omega⟩
theorem xr (l:List Int) (x:Int):az (l++[x])=az l*x:=by
 induction l with
 |nil=>simp[az]
 |cons a l E=>rw[List.cons_append,az,E,az,Int.mul_assoc]
theorem xt (h:ay .i64 w sv l) (h1:∀ z∈l,1≤z):ag x5 CF [sv] w fun v w'=>v= .bool (cI l)∧Ext w w':=by
 refine ap func164 ?_;rw[aK an.u h];refine lS.range l.length (fun i _ n J=>Ext w J∧n= .int .i64 (az ((l.take i).map fun k=>min k 4097))∧az ((l.take i).map fun k=>min k 4097)≤4096) h.le ⟨Ext.refl _,by simp[az],by simp[az]⟩ ?_ ?_
 ·rintro i _ _ J V hi ⟨E,rfl,O⟩ W;refine bC (by omega) ?_;obtain⟨z,U⟩:=aE (l:=l) hi;have Y:=h1 z (x2 U);have Z:=p2 h1 i;have aa:=p2 h1 (i+1);have e:az ((l.take (i+1)).map fun k=>min k 4097)=az ((l.take i).map fun k=>min k 4097)*min z 4097:=by
   rw[u5,U,j5,j4,List.map_cons,List.map_nil,xr]
  rw[a1 an.u aj.i (by kernel_rfl) (h.ext E) U,kk,fV,←e];have ab:az ((l.take (i+1)).map fun k=>min k 4097)≤4096*4097:=by
   rw[e];have ac:=Int.mul_le_mul_of_nonneg_right O (show 0≤min z 4097 by omega);have ad:=Int.mul_le_mul_of_nonneg_left (show min z 4097≤4097 by omega) (show (0:Int)≤4096 by omega);omega
  rw[wrap_i64 (by omega) (by omega),br,af];refine⟨fun X=>⟨?_,E⟩,fun X=>?_⟩
  ·unfold cI;rw[decide_eq_true];omega
  ·rw[aB];exact W _ _ _ ⟨E,rfl,by omega⟩
 ·rintro _ _ J V ⟨E,rfl,O⟩;rw[o5] at O;rw[aC,af];refine⟨fun h=>by omega,fun _=>⟨?_,E⟩⟩;unfold cI;rw[decide_eq_false];omega
def io (n:Int) (acc:List Int) (s:aq):Option (Int×aq):=match aS 0 (n-1) s with
 |none=>none
 |some (v,s)=>if v∈acc then none else some (v,s)
theorem mw {α:Type} {f:List α→aq→Option (α×aq)} {acc:List α} {s:aq} (h:f acc s=none):bZ f (n+1) acc s=none:=by
 simp only[bZ,h]
theorem p3 {α:Type} {f:List α→aq→Option (α×aq)} {acc:List α} {s s':aq} {a:α} (h:f acc s=some (a,s')):bZ f (n+1) acc s=bZ f n (acc++[a]) s':=by
 simp only[bZ,h]
theorem cE.nN {g:Nat} {A:am} {B:am} {s:aq} (h:cE w g gs A B s clean):(∀ r,bf g gs A r→r<w.heap.size)∧(∀ r,B r→r<w.heap.size):=⟨h.1.2.2.2.1,h.1.2.2.2.2⟩
set_option maxHeartbeats 1600000 in
theorem Fu {g k:Nat} {A B:am} {s:aq} {m:Int} (h:cE w g gs A B s clean) (bD:k≤4611686018427387904) (hm:0≤m∧m≤1000000):
  ag x5 vv [.pointer (some ⟨g,0,none⟩),.int .i64 (k:Int),.int .i64 m] w fun v w'=>eP w g gs A B clean ((dN m k s).map (·.2)) w'∧
   ∃ gr l,ak .i64 aj w' gr v l∧(∀ r,leads v r→w.heap.size≤r)∧l.length≤100001∧ ∀ q,dN m k s=some q→l=q.1:=by
 obtain⟨aJ,aX⟩:=h.nN;have aY:=h.2.1.words.1;refine ap func163 ?_;refine⟨fun out ay ae=>∃ i:Nat,ay= .int .i64 (i:Int)∧i≤k∧ad (bf g gs A) w ae∧ ∃ gr l,ak .i64 aj ae gr out l∧w.heap.size≤gr∧l.length≤100001∧
  ((∃ st,cE ae g gs A B st clean∧bZ (io m) (k-i) l st=dN m k s∧l.length+st.toks.length≤100000)∨(dz ae g gs A B∧dN m k s=none)),fun _ ay _=>k-(bk ay).toNat,
  ⟨0,rfl,Z5 _,ad.refl _ _,w.heap.size,[],ak.nil _ _ _ _,r9 _,by simp,.inl ⟨s,h,rfl,by simpa using aY⟩⟩,?_⟩
 rintro out _ ae ⟨i,rfl,a1,aK,gr,l,aL,bE,bF,aM⟩;have bG:=aK.size;have az:∀ r,leads out r→w.heap.size≤r:=fun r Y=>by have:=bp aL Y;omega
 refine aI (fun v V=>Ext ae V∧((v= .bool true∧i<k∧ ∃ st,cE V g gs A B st clean∧bZ (io m) (k-i) l st=dN m k s∧l.length+st.toks.length≤100000)∨
  (v= .bool false∧((∃ st,cE V g gs A B st clean∧dN m k s=some (l,st))∨(dz V g gs A B∧dN m k s=none))))) ?_ ?_
 rotate_left
 ·intro bH al;rw[aC,af];refine⟨fun bI=>?_,fun bJ=>?_⟩
  ·rcases aM with⟨st,Z,X,aA⟩|⟨ab,aD⟩
   ·refine (mv Z).mono ?_;rintro _ V _ ⟨rfl,aa⟩;exact al _ _ ⟨aa,.inl ⟨rfl,by omega,st,Z.ext aa,X,aA⟩⟩
   ·refine (lk ab).mono ?_;rintro _ V _ ⟨rfl,aa⟩;exact al _ _ ⟨aa,.inr ⟨rfl,.inr ⟨ab.ext aa,aD⟩⟩⟩
  ·have a2:k-i=0:=by omega
   rcases aM with⟨st,Z,X,aA⟩|a6
   ·rw[a2] at X;exact al _ _ ⟨Ext.refl _,.inr ⟨rfl,.inl ⟨st,Z,X.symm⟩⟩⟩
   ·exact al _ _ ⟨Ext.refl _,.inr ⟨rfl,.inr a6⟩⟩
 rintro _ V ⟨aa,a7⟩;have aE:ad (bf g gs A) w V:=aK.trans (aa.U _);have ao:=aL.ext aa;rcases a7 with⟨rfl,a1,st,Z,X,aA⟩|⟨rfl,bb⟩
 rotate_left
 ·rw[aR];rcases bb with⟨st,Z,ah⟩|⟨ab,ah⟩
  ·rw[ah];exact⟨⟨aE,Z⟩,gr,l,ao,az,by omega,fun q J=>by cases J;rfl⟩
  ·rw[ah];exact⟨⟨aE,ab⟩,gr,l,ao,az,by omega,fun q J=>by cases J⟩
 rw[bq,dk,wrap_i64 (by omega) (by omega)];have bc:k-i=(k-(i+1))+1:=by omega
 rw[bc] at X;refine (sw Z).mono ?_;rintro _ au _ ⟨⟨av,aw⟩,n,at_,rfl,bd,bK⟩;rw[a8,ba];have aN:∀ r,leads out r→¬bf g gs A r:=fun r Y be=>by have:=aJ r be;have:=az r Y;omega
 have bL:∀ r,g=r→bf g gs A r:=fun r h=>.inl h.symm;refine cX (fun E=>ad (bf g gs A) V E∧((∃ W,cE E g gs A B W clean∧bZ (io m) (k-(i+1)) (l++[n]) W=dN m k s∧l.length+1+W.toks.length≤100000)∨(dz E g gs A B∧dN m k s=none))∧l.length+1≤100001) ?_ ?_
 ·rintro E ⟨aO,bg,aP⟩;have bh:=aZ ao aO aN;have aQ:=aE.trans aO;have bM:=aQ.size;refine dM an.u aj.i rfl fun a bN aT bO ac bi=>?_;refine hr an.u aj.i rfl (bh.ext ac) bi.ls (by simp;omega) (by simp;omega) fun bj bl bm bP bn aF=>?_;have bQ:=ac.size;rw[aB,wrap_i64 (by omega) (by omega)];have bo:ad (bf g gs A) w bm:=fL (aQ.trans (ac.U _)) aF fun r Y he=>by have he:r=gr:=he;omega
  have aU:∀ r,bf g gs A r→¬(fun r=>r=gr) r:=fun r Y he=>by have:=aJ r Y;have he:r=gr:=he;omega
  have aV:∀ r,bW g gs A B r→¬(fun r=>r=gr) r:=fun r Y he=>by have:=aX r Y.2;have he:r=gr:=he;omega
  refine⟨⟨i+1,rfl,by omega,bo,bl,l++[n],bn,by omega,by simp;omega,?_⟩,by simp only[bk];omega⟩;rcases bg with⟨W,ax,br,bR⟩|⟨bt,aD⟩
  ·exact .inl ⟨W,(ax.ext ac).U aF aU aV,br,by simp;omega⟩
  ·exact .inr ⟨(bt.ext ac).U aF aU aV,aD⟩
 ·intro bS aG;cases J:aS 0 (m-1) st with
  |none=>
   rw[J] at aw;have ab:dz au g gs A B:=aw;have ai:io m l st=none:=by unfold io;rw[J]
   have ah:dN m k s=none:=by rw[←X];exact mw ai
   refine aI (fun v E=>Ext au E∧v= .bool false) ?_ ?_
   rotate_left
   ·intro bu aH;refine (lk ab).mono ?_;rintro _ E _ ⟨rfl,O⟩;rw[aR];exact aH _ _ ⟨O,rfl⟩
   rintro _ E ⟨O,rfl⟩;rw[aR];exact aG _ ⟨av.trans (O.U _),.inr ⟨ab.ext O,ah⟩,by omega⟩
  |some q=>
   obtain⟨bj,W⟩:=q;have bw:=bd _ J;subst bw;rw[J] at aw;have aW:cE au g gs A B W clean:=aw;have bx:=cB J;have aP:l.length+1+W.toks.length≤100000:=by have:=bx.1;omega
   refine aI (fun v E=>Ext au E∧v= .bool (decide (n∈l))) ?_ ?_
   rotate_left
   ·intro bu aH;refine (mv aW).mono ?_;rintro _ E _ ⟨rfl,O⟩;rw[bq];refine (Ft ((aZ ao av aN).ext O).ls).mono ?_;rintro _ aT _ ⟨rfl,ac⟩;exact aH _ _ ⟨O.trans ac,rfl⟩
   rintro _ E ⟨O,rfl⟩;have ax:=aW.ext O;rw[af];refine⟨fun bz=>?_,fun bA=>?_⟩
   ·have ai:io m l st=none:=by unfold io;rw[J];simp only;rw[if_pos bz]
    refine (p0 ax (by omega)).mono ?_;rintro _ aT _ ⟨bB,bC⟩;exact aG _ ⟨(av.trans (O.U _)).trans (bB.mono fun r _ h=>.inl h),.inr ⟨bC,by rw[←X];exact mw ai⟩,by omega⟩
   ·have ai:io m l st=some (n,W):=by unfold io;rw[J];simp only;rw[if_neg bA]
    exact aG _ ⟨av.trans (O.U _),.inl ⟨W,ax,by rw[←X];exact (p3 ai).symm,aP⟩,by omega⟩
theorem Fv {a b:Int} (E:0≤a∧a≤4294967296) (J:0≤b∧b≤4294967296):ag x5 CY [.int .i64 a,.int .i64 b,.int .i64 k] w fun v w'=>v= .int .i64 (min (a+b) k)∧Ext w w':=by
 refine ap func191 ?_;simp only[aB,br,af];rw[wrap_i64 (by omega) (by omega)];exact⟨fun h=>⟨by rw[Int.min_eq_right (by omega)],Ext.refl _⟩,fun h=>⟨by rw[Int.min_eq_left (by omega)],Ext.refl _⟩⟩
def ll (a b k:Int):y0:=if cv a k∧cv b k then .tuple #[.int .i64 (min (a+b) k),.int .i64 0] else .tuple #[.int .i64 0,.int .i64 3]
theorem sx {a b:Int}:ag x5 vt [.int .i64 a,.int .i64 b,.int .i64 k] w fun v w'=>v=ll a b k∧Ext w w':=by
 refine ap func117 ?_;refine aI (fun v E=>Ext w E∧v= .bool (decide (¬(cv a k∧cv b k)))) ?_ ?_
 ·rintro _ E ⟨J,rfl⟩;simp only[af,aB,kk];refine⟨fun h=>⟨by unfold ll;rw[if_neg h],J⟩,fun h=>?_⟩;have h:=Z6.1 h;obtain⟨⟨h1,Y⟩,Z,aa⟩:=id h;have:=h1.2;rw[wrap_i64 (by omega) (by omega)];exact⟨by unfold ll;rw[if_pos h],J⟩
 ·intro ab O;refine k7.mono ?_;rintro _ V _ ⟨rfl,U⟩;simp only[bJ,ca];refine⟨fun h=>O _ _ ⟨U,?_⟩,fun h=>?_⟩
  ·have:¬cv a k:=by simpa using h
   rw[decide_eq_true];exact fun h=>this h.1
  ·have W:cv a k:=by simpa using h
   refine k7.mono ?_;rintro _ ac _ ⟨rfl,X⟩;simp only[bJ];exact O _ _ ⟨U.trans X,by simp[W]⟩
theorem Fw (h:ay .i64 w sv l) (O:l≠[]):
  ag x5 DF [sv] w fun v w'=>v= .int .i64 (sk l)∧Ext w w':=by
 obtain⟨x,l,rfl⟩:∃ x r,l=x::r:=by cases l with
  |nil=>exact absurd rfl O
  |cons x r=>exact⟨x,r,rfl⟩
 have U:=h.le;refine ap func280 ?_;refine cX (fun W=>w=W) ?_ ?_
 ·rintro _ rfl;rw[fv (y:=0) (i:=0) rfl an.u aj.i (by kernel_rfl) h (by rfl)];refine⟨fun m i V=>Ext w V∧ ∃ k:Nat,i= .int .i64 (k+1:Nat)∧k≤l.length∧m= .int .i64 ((l.take k).foldl min x),fun _ i _=>l.length+1-(bk i).toNat,⟨Ext.refl _,0,rfl,Z5 _,rfl⟩,?_⟩;rintro _ _ V ⟨E,k,rfl,Y,rfl⟩;rw[aK an.u (h.ext E)];simp only[n9,aC,af] at U ⊢;refine⟨fun Z=>?_,fun aa=>⟨?_,E⟩⟩
  ·obtain⟨y,J⟩:=aE (l:=l) (i:=k) (by omega);rw[a1 an.u aj.i (by kernel_rfl) (h.ext E) (show (x::l)[k+1]? =some y from J),kk];simp only[aB];rw[wrap_i64 (by omega) (by omega)];refine⟨⟨E,k+1,by congr 1,by omega,?_⟩,?_⟩
   ·rw[u5,J,List.foldl_append];rfl
   ·simp only[bk];omega
  ·have:k=l.length:=by omega
   subst this;rw[o5];rfl
 ·intro ab X;rw[aK an.u h];simp only[aC,af];exact⟨fun h=>by simp at h;omega,fun _=>X _ rfl⟩
theorem xu {g:Nat} {cs:List Int} (h:cA w g E sv ai k cs):ag x5 rH [.pointer (some ⟨g,0,none⟩)] w fun v w'=>v= .int .i64 k∧Ext w w':=by
 obtain⟨⟨aJ,gs,J,hm,O⟩,_⟩:=h;refine ap func138 ?_;rw[cQ dJ.u];simp only[c6,aR];rw[aD ci.p 1 J rfl];exact⟨rfl,Ext.refl _⟩
theorem kx {g J:Nat} {cs:List Int} (h:cA w g J sv ai k cs):
  ag x5 B3 [.pointer (some ⟨g,0,none⟩)] w fun v w'=>Ext w w'∧ ∃ E,w.heap.size≤E∧ak .i64 aj w' E v cs:=by
 obtain⟨⟨aJ,gs,O,hm,U⟩,⟨_,_,V⟩,W,X⟩:=h;refine ap func104 ?_;rw[cQ dJ.u];simp only[c6,aR];rw[aD ci.p 2 O rfl];exact r0 U.ls (by omega)
theorem my {g J:Nat} {cs:List Int} (h:cA w g J sv ai k cs):
  ag x5 Cr [.pointer (some ⟨g,0,none⟩)] w fun v w'=>v= .agg #[sv]∧Ext w w':=by
 obtain⟨⟨aJ,gs,O,hm,Y⟩,_⟩:=h;have U:=hm.ls.cells;refine ap func139 ?_;refine bg bb.i fun Z aa ab E V=>?_;rw[cQ dJ.u];simp only[c6,aR];rw[bB,aF ci.p rfl,bn (cs:=[sv]) bb.p bb.i rfl (k9 (O.ext E) (by
  intro j v ac
  match j,ac with
  |0,ac=>exact ac))]
 refine bP (vs:=[sv]) bb.i rfl rfl (by intro u hu;simp at hu;subst hu;exact U.2) V fun ad W ae X=>?_;rw[eO bb.p bb.i rfl X.range];exact⟨rfl,E.then W (by rintro r af rfl;omega)⟩
theorem xv (h:ay .i64 w sv ai) (W:ai.length≤1000):ag x5 vu [.agg #[sv]] w fun v w'=>Ext w w'∧ ∃ E,w.heap.size≤E∧ak .i64 ab w' E v ai:=by
 refine ap func140 ?_;refine a7 fun g X Y J O=>?_;rw[aP bb.p 0 O rfl];refine (ij (h.ext J) (by omega)).mono ?_;rintro v V _ ⟨U,E,Z,hm⟩;have aa:=J.size;exact⟨J.trans U,E,by omega,hm⟩
theorem xw (h:ay .i64 w sv ai):ag x5 DC [.agg #[sv]] w fun v w'=>v= .int .i64 ai.length∧Ext w w':=by
 refine ap func269 ?_;refine a7 fun g O U E J=>?_;rw[aP bb.p 0 J rfl,aK al.u (h.ext E)];exact⟨rfl,E⟩
def fY (ai:List Int) (i:Int):Int:=if 0≤i then ai.getD i.toNat 0 else 0
theorem nO {i:Int} (h:ay .i64 w sv ai):ag x5 DD [.agg #[sv],.int .i64 i] w fun v w'=>v= .int .i64 (fY ai i)∧Ext w w':=by
 refine ap func270 ?_;refine a7 fun g W Y E J=>?_;refine aI (fun v V=>v= .bool (decide (i<0∨(ai.length:Int)≤i))∧W=V) ?_ ?_
 ·rintro _ _ ⟨rfl,rfl⟩;simp only[af];refine⟨fun h=>⟨?_,E⟩,fun X=>?_⟩
  ·unfold fY;split
   ·rw[u4,c8 (by omega)];rfl
   ·rfl
  ·rw[aP bb.p 0 J rfl];obtain⟨n,rfl⟩:∃ n:Nat,i=n:=⟨i.toNat,by omega⟩;have O:n<ai.length:=by omega
   rw[a1 al.u ab.i (by kernel_rfl) (h.ext E) (x4 O)];refine⟨?_,E⟩;unfold fY;rw[if_pos (by omega),u4,j6,x4 O];rfl
 ·intro Z U;simp only[aC,af];refine⟨fun h=>U _ _ ⟨by rw[decide_eq_true];omega,rfl⟩,fun X=>?_⟩;rw[aP bb.p 0 J rfl,aK al.u (h.ext E)];simp only[cn];exact U _ _ ⟨by congr 1;simp;omega,rfl⟩
theorem sy {g B0:Nat} (U:bD ai):
  lU x5 jF [.pointer (some ⟨g,0,none⟩)] (az ai).toNat (fun k vs w=>∃ E gt,vs=[.int .i64 (k:Int),E]∧B0≤gt∧ak .i64 ab w gt E (cq ai k))
   (fun w=>aa w g bb [sv]∧ay .i64 w sv ai∧B0≤w.heap.size):=by
 refine⟨jF.enters,fun l ag aE w Z _ ah ⟨ac,ad,aj⟩ al=>?_⟩;have aF:=prod_bound U;refine ps func155 ?_;rw[bn bb.p bb.i rfl ac.range];refine (mg ad U).free.mono ?_;rintro _ aG ⟨am,rfl,J⟩;refine bS.range (az ai).toNat (fun i V=>ag i V∧aa V g bb [sv]∧ay .i64 V sv ai∧B0≤V.heap.size) (by omega) ⟨Z 0 _ _ J am.b al,ac.ext J,ad.ext J,Z3 aj J.size⟩ ?_ ?_
 ·rintro i V k hi ⟨W,X,Y,ae⟩ an;simp only[aC,af];refine⟨fun _=>?_,fun h=>by omega⟩;rw[bn bb.p bb.i rfl X.range];refine (Ee Y U (by omega) (by omega)).free.mono ?_;rintro _ ao ⟨ap,O,E,gt,rfl,aq,au⟩;rw[a8,ba];refine⟨rfl,(ah i _ ao hi ⟨X.ext O,Y.ext O,Z3 ae O.size⟩ ⟨E,gt,rfl,Z3 ae aq,au⟩ (Z _ _ _ O ap.b W)).mono ?_⟩;rintro _ aH (⟨rfl,⟨av,aw,ax⟩,aA⟩|⟨rfl,aD⟩)
  ·simp only[bJ,Y0,aR,aB];exact an _ ⟨aA.1,av,aw,ax⟩
  ·simp only[bJ,Y9,bq];exact .inr ⟨i,hi,aD⟩
 ·rintro V k ⟨W,X,Y,_⟩;simp only[aC,af];exact⟨fun h=>by omega,fun _=>.inl W⟩
theorem sz:ag x5 BR [.agg #[sv]] w fun r w'=>Ext w w'∧ ∃ g,r= .func (.func jF) #[] #[.pointer (some ⟨g,0,none⟩)]∧w.heap.size≤g∧aa w' g bb [sv]:=by
 refine ap func69 ?_;refine a7 fun g O U E J=>?_;rw[hM];exact⟨E,g,rfl,by omega,J⟩
end Go.Proofs.YthjegppepbbojaaGreatDoor
namespace Go.Vc
open Go Go.RowKit
set_option maxRecDepth 100000
section
variable {P:Y3} {w:x1}
theorem aw.cD {α:Type} {s:Sem α} {K:α→x1→Prop} (h:aw P s w fun v w'=>cm w w'→K v w'):aw P s w K:=by
 obtain⟨v,w',h1,E,J⟩:=h;exact⟨v,w',h1,E,J E⟩
structure Keys (P:Y3) (k:u9) (G:y0→Prop):Prop where
 check:∀ (w:x1) (em:Bool) {v:y0},G v→(Instr.checkKey em 10000 k v).run P w= .ok () w
 find:∀ (w:x1) {x:y0},G x→ ∀ es:List MapEntry,(∀ e∈es,G e.key)→
  ((Instr.findKey k x es).run P w= .ok none w∧ ∀ e∈es,e.key≠x)∨ ∃ j e,(Instr.findKey k x es).run P w= .ok (some (j,e.val)) w∧es[j]? =some e∧e.key=x
 stays:∀ (w:x1) {v:y0},G v→(Instr.keyThatStays v v).run P w= .ok v w
theorem Keys.law {k:u9} (K:WideMaps.KeyLaw P k):Keys P k fun v=>∃ l,keyOf P k v=some l:=
 ⟨fun w E _ ⟨_,h⟩=>K.check w E h,fun w _ ⟨_,h⟩ J O=>K.find w h J O,fun w _ ⟨_,h⟩=>K.stays w h⟩
theorem Keys.int {k:u9} {E:o4} (J:P.underlying k=some (.int E)):Keys P k fun v=>∃ n,v= .int E n:=by
 have key:∀ n,MapKept.IsKey (.int E) (.int E n):=fun n=>rfl;refine⟨fun w U v ⟨n,h⟩=>?_,fun w x ⟨n,h⟩ V W=>?_,fun w v ⟨n,h⟩=>?_⟩
 ·subst h;exact MapKept.run_checkKey J (key n) U 9999
 ·subst h;rcases MapKept.findNow_spec (key n) V 0 (fun e he=>by obtain⟨m,h⟩:=W e he;rw[h];exact key m) with⟨h1,O⟩|⟨j,e,h1,O,X⟩
  ·exact .inl ⟨MapKept.run_findKey J h1,O⟩
  ·exact .inr ⟨j,e,by have:=MapKept.run_findKey (P:=P) (w:=w) J h1;simpa using this,O,X⟩
 ·subst h;exact MapKept.run_keyThatStays (d:=.int E) (key n)
def fe (e:MapEntry):y0×y0:=(e.key,e.val)
def cr (w:x1) (m:Nat) (d:List (y0×y0)):Prop:=∃ E J,w.heap[m]? =some (.map E J)∧MapKept.Stamped E J∧E.toList.map fe=d
theorem cr.ext {d:List (y0×y0)} (h:cr w m d) (J:Ext w w'):cr w' m d:=by
 obtain⟨E,c,h1,O⟩:=h;exact⟨E,c,J.aX m _ h1 rfl,O⟩
theorem cr.U {d:List (y0×y0)} (h:cr w m d) (J:ad S w w') (E:¬S m):cr w' m d:=by
 obtain⟨O,c,h1,V⟩:=h;exact⟨O,c,J.aX m _ h1 rfl E,V⟩
theorem cr.lt {d:List (y0×y0)} (h:cr w m d):m<w.heap.size:=by
 obtain⟨E,c,h1,J⟩:=h;exact (o7.1 h1).1
theorem cr.nodup {d:List (y0×y0)} (h:cr w m d):(d.map (·.1)).Nodup:=by
 obtain⟨J,c,_,⟨_,_,E⟩,rfl⟩:=h;rw[List.map_map];exact E
theorem ip {α:Type} {l:List α} (h:l.Nodup) {i:Nat} {x:α} (hi:l[i]? =some x) (V:l[j]? =some x):i=j:=by
 have E:=x3.1 hi;have J:=x3.1 V;have U:=X6.1 h;rcases Nat.lt_trichotomy i j with O|rfl|O
 ·exact absurd (E.2.trans J.2.symm) (U i j E.1 J.1 O)
 ·rfl
 ·exact absurd (J.2.trans E.2.symm) (U j i J.1 E.1 O)
theorem ky {α β:Type} (f:α→β):∀ (l:List α) (i:Nat),(l.map f).eraseIdx i=(l.eraseIdx i).map f
 |[],_=>by simp
 |_::_,0=>rfl
 |x::l,i+1=>by simp[ky f l i]
theorem cr.uniq {d:List (y0×y0)} (h:cr w m d) {i:Nat} {p q:y0×y0} (hi:d[i]? =some p) (E:d[j]? =some q) (he:p.1=q.1):i=j:=by
 have J:=h.nodup;have h1:(d.map (·.1))[i]? =some p.1:=by rw[x7,hi];rfl
 have O:(d.map (·.1))[j]? =some p.1:=by rw[x7,E,he];rfl
 exact ip J h1 O
theorem p4 {Y:Array MapEntry} {c:Nat} (V:w.heap[m]? =some (.map Y c)) (E:Array MapEntry) (J:Nat):
  ad (fun r=>r=m) w {w with heap:=w.heap.setIfInBounds m (.map E J)}∧cm w {w with heap:=w.heap.setIfInBounds m (.map E J)}∧({w with heap:=w.heap.setIfInBounds m (.map E J)}:x1).heap[m]? =some (.map E J):=by
 have U:=MapKept.heap_set (o':=.map E J) V;refine⟨⟨by simp,fun r o O W Z=>?_⟩,⟨rfl,.iI,rfl,by simp,fun r o O W=>?_⟩,U.1⟩
 ·show (w.heap.setIfInBounds m _)[r]? =some o;rw[U.2 r Z];exact O
 ·show (w.heap.setIfInBounds m _)[r]? =some o;by_cases X:r=m
  ·subst X;rw[V] at O;cases O;cases W
  ·rw[U.2 r X];exact O
theorem p5 {K:y0→x1→Prop} (h:∀ m w',m=w.heap.size→Ext w w'→cr w' m []→K (.map (some m)) w'):aw P (Instr.makeMap t none) w K:=by
 refine .of (run_makeMap t w) (lX w _) (h _ _ rfl (lW w _) ⟨#[],0,?_,MapKept.stamped_empty 0,rfl⟩);exact heap_alloc_new w _
variable {k e:u9} {G:y0→Prop}
theorem nP {c:Bool} {d:List (y0×y0)} {x:y0} (Z:P.underlying t=some (.map k e)) (W:Keys P k G) (hm:cr w m d) (aa:∀ p∈d,G p.1) (J:G x) (E:d[j]? =some (x,v)):
  O P (Instr.lookup t (.map (some m)) x c) w K=K (if c then .tuple #[v,.bool true] else v):=O.of fun w' ab=>by
 obtain⟨U,ad,X,ae,rfl⟩:=hm.ext ab;have af:∀ e∈U.toList,G e.key:=fun e he=>aa (fe e) (o8.2 ⟨e,he,rfl⟩);rcases W.find w' J U.toList af with⟨_,V⟩|⟨i,Y,h1,V,ag⟩
 ·rw[x7] at E;obtain⟨ah,ai,aj⟩:=Z2.1 E;exact absurd (congrArg Prod.fst aj) (V ah (x2 ai))
 ·have ac:Y.val=v:=by
   have hi:(U.toList.map fe)[i]? =some (fe Y):=by rw[x7,V];rfl
   have ak:cr w' m (U.toList.map fe):=⟨U,ad,X,ae,rfl⟩;have:=ak.uniq hi E ag;subst this;rw[hi] at E;exact congrArg Prod.snd (b9 E)
  simp only[Instr.lookup,Z8,run_underlying Z,Z9,MapKept.run_getObj_map X,Y5,W.check w' _ J,h1,ac]
theorem p6 {c:Bool} {d:List (y0×y0)} {x:y0} (Y:P.underlying t=some (.map k e)) (U:Keys P k G) (E:∃ s b,aA P e s b z) (hm:cr w m d) (Z:∀ p∈d,G p.1) (J:G x) (aa:∀ p∈d,p.1≠x):
  O P (Instr.lookup t (.map (some m)) x c) w K=K (if c then .tuple #[z,.bool false] else z):=O.of fun w' ab=>by
 obtain⟨V,ag,ac,ah,rfl⟩:=hm.ext ab;have ad:∀ e∈V.toList,G e.key:=fun e he=>Z (fe e) (o8.2 ⟨e,he,rfl⟩);have ae:(zeroValue e).run P w'= .ok z w':=by
  obtain⟨s,b,i,hi,_,_,E⟩:=E;simp[zeroValue,typeInfo,hi,E]
 rcases U.find w' J V.toList ad with⟨h1,W⟩|⟨i,X,h1,W,af⟩
 ·simp only[Instr.lookup,Z8,run_underlying Y,Z9,MapKept.run_getObj_map ac,Y5,U.check w' _ J,h1,ae]
 ·exact absurd af (aa (fe X) (o8.2 ⟨X,x2 W,rfl⟩))
theorem Fx {E:Array MapEntry} {J:MapEntry} {f:MapEntry→MapEntry} (h:E[j]? =some J):(E.modify j f).toList.map fe=(E.toList.map fe).set j (fe (f J)):=by
 refine Y7 fun i=>?_;simp only[x7,U5,Array.getElem?_modify,Y6,r8,Array.length_toList];by_cases O:j=i
 ·subst O;have:=(o7.1 h);simp[this.1,this.2]
 ·simp[O]
theorem nQ {d:List (y0×y0)} {x:y0} {K:Unit→x1→Prop} (aa:P.underlying t=some (.map k e)) (U:Keys P k G) (hm:cr w m d) (ah:∀ p∈d,G p.1) (J:G x)
  (h1:∀ j v0 w',d[j]? =some (x,v0)→cr w' m (d.set j (x,v))→ad (fun r=>r=m) w w'→K () w')
  (ai:∀ w',(∀ p∈d,p.1≠x)→cr w' m (d++[(x,v)])→ad (fun r=>r=m) w w'→K () w'):aw P (Instr.mapUpdate t (.map (some m)) x v) w K:=by
 obtain⟨O,V,E,ab,rfl⟩:=hm;have aj:∀ e∈O.toList,G e.key:=fun e he=>ah (fe e) (o8.2 ⟨e,he,rfl⟩);rcases U.find w J O.toList aj with⟨ae,ac⟩|⟨i,af,ae,hi,he⟩
 ·obtain⟨W,X,Y⟩:=p4 E (O.push {key:=x,val:=v,born:=V}) (V+1);refine .of (v:=()) (w':=_) ?_ X (ai _ (fun p ak=>?_) ⟨_,_,Y,MapKept.stamped_push ab ac,by simp[fe]⟩ W)
  ·simp only[Instr.mapUpdate,Z8,run_underlying aa,Z9,MapKept.run_getObj_map E,U.check w _ J,ae,MapKept.run_setObj_map _ E]
  ·obtain⟨al,am,rfl⟩:=o8.1 ak;exact ac al am
 ·have Z:O[i]? =some af:=by simpa using hi
  obtain⟨W,X,Y⟩:=p4 E (O.modify i fun e=>{e with key:=x,val:=v}) V;refine .of (v:=()) (w':=_) ?_ X (h1 i af.val _ (by rw[x7,hi];simp[fe,he]) ⟨_,_,Y,MapKept.stamped_modify ab _ _ (fun _ _=>rfl) (fun an _ ag=>by rw[Z] at ag;cases ag;exact he.symm),Fx Z⟩ W);simp only[Instr.mapUpdate,Z8,run_underlying aa,Z9,MapKept.run_getObj_map E,U.check w _ J,ae,Z,c5,V4,he,U.stays w J,MapKept.run_setObj_map _ E]
theorem Fy {ab ac:u9} {d:List (y0×y0)} {x:y0} {K:y0→x1→Prop} (Y:P.underlying t=some (.map k e)) (U:Keys P k G) (hm:cr w m d) (af:∀ p∈d,G p.1) (J:G x)
  (h1:∀ j v0 w',d[j]? =some (x,v0)→cr w' m (d.eraseIdx j)→ad (fun r=>r=m) w w'→K (.tuple #[]) w')
  (ag:∀ w',(∀ p∈d,p.1≠x)→cr w' m d→ad (fun r=>r=m) w w'→K (.tuple #[]) w'):aw P (l6.delete_ #[t,ab] ac #[.map (some m),x]) w K:=by
 obtain⟨O,Z,E,aa,rfl⟩:=hm;have ah:∀ e∈O.toList,G e.key:=fun e he=>af (fe e) (o8.2 ⟨e,he,rfl⟩);rcases U.find w J O.toList ah with⟨ae,ai⟩|⟨i,aj,ae,hi,he⟩
 ·obtain⟨V,W,X⟩:=p4 E O Z;refine .of (v:=.tuple #[]) (w':=_) ?_ W (ag _ (fun p ak=>?_) ⟨_,_,X,aa,rfl⟩ V)
  ·simp only[l6.delete_,List.getElem?_toArray,List.getElem?_cons_zero,List.getElem?_cons_succ,Z8,run_underlying Y,Z9,MapKept.run_getObj_map E,U.check w _ J,ae,MapKept.run_setObj_map _ E,Y5]
  ·obtain⟨al,am,rfl⟩:=o8.1 ak;exact ai al am
 ·obtain⟨V,W,X⟩:=p4 E (O.eraseIdxIfInBounds i) Z;refine .of (v:=.tuple #[]) (w':=_) ?_ W (h1 i aj.val _ (by rw[x7,hi];simp[fe,he]) ⟨_,_,X,MapKept.stamped_erase aa _,by rw[ky];simp⟩ V);simp only[l6.delete_,List.getElem?_toArray,List.getElem?_cons_zero,List.getElem?_cons_succ,Z8,run_underlying Y,Z9,MapKept.run_getObj_map E,U.check w _ J,ae,MapKept.run_setObj_map _ E,Y5]
theorem Fz {E:u9} {d:List (y0×y0)} (J:P.underlying t=some (.map k e)) (hm:cr w m d):O P (Y4 #[t] E #[.map (some m)]) w K=K (.int .i64 d.length):=O.of fun w' U=>by
 obtain⟨W,X,V,Y,rfl⟩:=hm.ext U;simp[Y4,run_underlying J,MapKept.run_getObj_map V,goInt]
def fO (w:x1) (V m:Nat) (d left:List (y0×y0)) (W:Option (y0×y0)):Prop:=∃ E J seen O,w.heap[m]? =some (.map E J)∧MapKept.Stamped E J∧E.toList.map fe=d∧
 w.heap[V]? =some (.mapIter (some m) J seen O)∧J≤O∧(leftOf E seen).toList.map fe=left∧ ∀ p,W=some p→O=J∧ ∃ U,E.toList.find? (fun e=>e.born == seen.back?.getD 0)=some U∧seen.back? =some U.born∧fe U=p
theorem fO.map {d left:List (y0×y0)} {J:Option (y0×y0)} (h:fO w E m d left J):cr w m d:=by
 obtain⟨O,c,_,_,h1,U,V,_⟩:=h;exact⟨O,c,h1,U,V⟩
theorem fO.aX {d left:List (y0×y0)} {O:Option (y0×y0)} (h:fO w E m d left O) (J:ad S w w') (hm:¬S m) (hi:dR w w'):fO w' E m d left O:=by
 obtain⟨U,c,s,V,h1,W,X,Y,Z⟩:=h;exact⟨U,c,s,V,J.aX m _ h1 rfl hm,W,X,hi E _ Y rfl,Z⟩
theorem fO.ext {d left:List (y0×y0)} {O:Option (y0×y0)} (h:fO w E m d left O) (J:Ext w w') (hi:dR w w'):fO w' E m d left O:=
 h.aX (J.U fun _=>False) (fun h=>h) hi
theorem FA (E:Array MapEntry):leftOf E #[]=E:=by
 unfold leftOf;exact Array.filter_eq_self.2 fun x J=>by simp
theorem xx {d:List (y0×y0)} {K:y0→x1→Prop} (V:P.underlying t=some (.map k e)) (hm:cr w m d)
  (h:∀ E w',E=w.heap.size→Ext w w'→dR w w'→fO w' E m d d none→K (.pointer (some ⟨E,0,none⟩)) w'):aw P (Instr.range t (.map (some m))) w K:=by
 obtain⟨O,J,U,W,rfl⟩:=hm;refine .of (run_range_map w t k e m O J V U) (lX w _) (h _ _ rfl (lW w _) (lX w _).j1 ⟨O,J,#[],J,(lW w _).aX m _ U rfl,W,rfl,heap_alloc_new w _,r9 _,by rw[FA],fun p X=>by cases X⟩)
theorem xy:∀ (l:List MapEntry) (j:Nat) (E:MapEntry),(l.map (·.born)).Nodup→l[j]? =some E→l.filter (fun x=>!(x.born == E.born))=l.eraseIdx j
 |[],j,E,_,h=>by simp at h
 |x::l,0,E,U,h=>by
  simp at h;subst h;have O:=List.nodup_cons.1 (by simpa using U:(x.born::l.map (·.born)).Nodup);simp only[List.filter_cons,beq_self_eq_true,Y0,Bool.false_eq_true,if_false,List.eraseIdx_cons_zero];refine List.filter_eq_self.2 fun y V=>?_;have:y.born≠x.born:=fun he=>O.1 (he▸o8.2 ⟨y,V,rfl⟩);simpa using this
 |x::l,j+1,E,U,h=>by
  simp at h;have O:=List.nodup_cons.1 (by simpa using U:(x.born::l.map (·.born)).Nodup);have J:x.born≠E.born:=fun he=>O.1 (he▸o8.2 ⟨E,x2 h,rfl⟩);have W:=xy l j E O.2 h;simp only[List.filter_cons,List.eraseIdx_cons_succ,W];simp[J]
theorem xz {free:ev} {d left:List (y0×y0)} {al:Option (y0×y0)} {K:y0→x1→Prop} (h:fO w E m d left al) (ae:free.1=false→free.2≤E)
  (am:left=[]→K (.tuple #[.bool false]) w)
  (h1:∀ j p w',left[j]? =some p→Ext w w'→bN E w w'→fO w' E m d (left.eraseIdx j) (some p)→K (.tuple #[.bool true,p.1,p.2]) w'):oH P free (Instr.next (.pointer (some ⟨E,0,none⟩)) false 0) w K:=by
 obtain⟨U,V,seen,an,Y,aa,rfl,hi,ao,rfl,_⟩:=h;have af:∀ x∈U.toList,x.born<V:=aa.1;have ag:=aa.2.1;have ah:∀ x∈(leftOf U seen).toList,x.born<V:=fun x J=>af x (mem_left J).1;have ap:∀ (X:x1) (o':Obj),X.heap=w.heap→(setObj E o').run P X= .ok () {X with heap:=X.heap.setIfInBounds E o'}:=fun X o' he=>by
  simp only[setObj,Sem.run];rw[he,hi]
 unfold oH;simp only[Instr.next,getObj,Z8,Sem.run,hi,Y,Z9,next_test_false seen U V an af ao,Bool.false_eq_true,if_false];have aq:Array.filter (fun e=>!seen.contains e.born) U=leftOf U seen:=rfl;rw[aq];have au:((leftOf U seen).toList.map (·.born)).Nodup:=by
  unfold leftOf;rw[Array.toList_filter];exact (List.Sublist.map _ List.filter_sublist).nodup ag
 have av:∀ Z:MapEntry,leftOf U (seen.push Z.born)=(leftOf U seen).filter fun x=>!(x.born == Z.born):=fun Z=>by
  unfold leftOf;rw[Array.filter_filter];congr 1;funext x;rw[contains_push];cases seen.contains x.born <;> cases x.born == Z.born <;> rfl
 generalize aw:leftOf U seen=L at*;have ax:L.filter (fun x=>decide (x.born<V))=L:=Array.filter_eq_self.2 (fun x J=>by simpa using ah x (by simpa using J));have ay:L.filter (fun x=>decide (x.born≥V))= #[]:=by
  rw[Array.filter_eq_empty_iff];intro x J;have:=ah x (by simpa using J);simp;omega
 simp only[ax,ay,Array.append_empty];by_cases ai:L.size=0
 ·have az:L= #[]:=Array.eq_empty_of_size_eq_zero ai;subst az;refine⟨.tuple #[.bool false],w,?_,fun _=>bN.refl _ _,am rfl⟩;simp[choose,Sem.run,Question.forced]
 ·have aA:L.isEmpty=false:=by simp[Array.isEmpty,ai]
  simp only[aA,Bool.false_eq_true,if_false,Array.empty_append,Array.size_map];have aB:∃ (j:Nat) (n:Nat),j<L.size∧w.drawn≤n∧(choose (Question.mapNext L.size)).run P w= .ok j {w with drawn:=n}:=by
   by_cases ae:L.size≤1
   ·exact⟨0,w.drawn,by omega,r9 _,by simp[choose,Sem.run,Question.forced,ae]⟩
   ·exact⟨_,w.drawn+1,Nat.mod_lt _ (by omega),Nat.le_succ _,by
     simp only[choose,Sem.run,Question.forced,decide_eq_true_eq,ae,if_false,Question.cut];rfl⟩
  obtain⟨j,n,ab,aj,aC⟩:=aB;have ak:L.toList[j]? =some L[j]:=by simp[ab]
  have aD:L[j]∈U.toList:=(mem_left (seen:=seen) (by rw[aw];exact Array.mem_toList_iff.2 (Array.getElem_mem ab))).1;refine⟨.tuple #[.bool true,L[j].key,L[j].val],{w with drawn:=n,heap:=w.heap.setIfInBounds E (.mapIter (some m) V (seen.push L[j].born) V)},?_,?_,?_⟩
  ·have aE:=ap {w with drawn:=n} (.mapIter (some m) V (seen.push L[j].born) V) rfl;simp only[aC,Array.getElem?_map,Array.getElem?_eq_getElem ab,c5,Z8,aE,Z9,Y5]
  ·intro aF;have:=ae aF;refine⟨rfl,⟨rfl,aj⟩,rfl,by simp,fun r o O ac=>?_,fun r o aG O ad=>?_⟩
   ·show (w.heap.setIfInBounds E _)[r]? =some o;by_cases W:r=E
    ·subst W;rw[hi] at O;cases O;cases ac
    ·rw[(MapKept.heap_set hi).2 r W];exact O
   ·show (w.heap.setIfInBounds E _)[r]? =some o;rw[(MapKept.heap_set hi).2 r (by omega)];exact O
  ·refine h1 j (fe L[j]) _ (by rw[x7,ak];rfl) ⟨by simp,fun r o O ad=>?_⟩ ⟨rfl,⟨rfl,aj⟩,rfl,by simp,fun r o O ac=>?_,fun r o aG O ad=>?_⟩ ⟨U,V,seen.push L[j].born,V,?_,aa,rfl,?_,r9 _,?_,fun p aH=>⟨rfl,L[j],?_,by simp,b9 aH⟩⟩
   ·show (w.heap.setIfInBounds E _)[r]? =some o;by_cases W:r=E
    ·subst W;rw[hi] at O;cases O;cases ad
    ·rw[(MapKept.heap_set hi).2 r W];exact O
   ·show (w.heap.setIfInBounds E _)[r]? =some o;by_cases W:r=E
    ·subst W;rw[hi] at O;cases O;cases ac
    ·rw[(MapKept.heap_set hi).2 r W];exact O
   ·show (w.heap.setIfInBounds E _)[r]? =some o;rw[(MapKept.heap_set hi).2 r (by omega)];exact O
   ·show (w.heap.setIfInBounds E _)[m]? =_;rw[(MapKept.heap_set hi).2 m (fun he=>by subst he;rw[hi] at Y;cases Y)];exact Y
   ·exact (MapKept.heap_set hi).1
   ·rw[av,Array.toList_filter,xy _ _ _ au ak,ky]
   ·simp only[Array.back?_push,V4];exact find_born _ _ ag aD
theorem xA {d left:List (y0×y0)} {p:y0×y0} {K:y0→x1→Prop} (h:fO w E m d left (some p)) (U:K (.tuple #[p.1,p.2]) w):aw P (Instr.entry (.pointer (some ⟨E,0,none⟩))) w K:=by
 obtain⟨X,Y,seen,Z,V,aa,rfl,hi,ab,rfl,W⟩:=h;obtain⟨rfl,J,h1,O,rfl⟩:=W p rfl;refine .of (v:=.tuple #[J.key,J.val]) (w':=w) ?_ (cm.refl _) U;rw[O] at h1;simp only[Instr.entry,getObj,Z8,Sem.run,hi,V,Z9,O,bne_self_eq_false,Bool.false_eq_true,if_false,←Array.find?_toList];simp only[V4] at h1;rw[h1];rfl
end
end Go.Vc
namespace Go.Proofs.YthjegppepbbojaaGreatDoor
open Go Go.Vc Go.RowKit Go.Proofs Go.Proofs.Tryz
set_option maxRecDepth 100000
def dn (ks:List Int):y0:=.agg (ints .i8 ks).toArray
def jd (ks:List Int):Prop:=ks.length=6∧ ∀ x∈ks,0≤x∧x<32
theorem FB {b:List Int} (h:dn a=dn b):a=b:=by
 unfold dn at h;have h:ints .i8 a=ints .i8 b:=congrArg Array.toList (y0.agg.inj h);have e:∀ l:List Int,(ints .i8 l).map valOf=l:=fun l=>by
  unfold ints;rw[List.map_map];exact List.map_id l
 rw[←e a,←e b,h]
theorem xB (ks:List Int):(dn ks).cells.toList=ints .i8 ks:=by simp[dn,y0.cells]
theorem FC:WideMaps.ArrKey x5 bV eN 6:=⟨bV.u,by kernel_rfl,by kernel_rfl,by kernel_rfl⟩
theorem keys:Keys x5 bV fun v=>∃ l,keyOf x5 bV v=some l:=Keys.law FC.law
theorem sA (h:jd ks):∃ l,keyOf x5 bV (dn ks)=some l:=by
 obtain⟨V,E⟩:=h
 match ks,V with
 |[a,b,c,d,e,f],_=>
  have W:=E a (by simp);have X:=E b (by simp);have Y:=E c (by simp);have rd:=E d (by simp);have Z:=E e (by simp);have iI:=E f (by simp);have wf:∀ x:Int,0≤x∧x<32→(Lit.int .i8 x).wf=true:=fun x J=>by
   simp only[Lit.wf,W0,decide_eq_true_eq];have af:o4.i8.min= -128:=by decide
   have ag:o4.i8.max=127:=by decide
   omega
  have O:decide (0<x5.types.size)=true:=by kernel_rfl
  have O:=of_decide_eq_true O;obtain⟨n,aa⟩:∃ n,x5.types.size=n+1:=⟨x5.types.size-1,by omega⟩;have one:∀ x:Int,0≤x∧x<32→x5.keyLits (n+1) eN [.int .i8 x]=some [.int .i8 x]:=fun x J=>by
   unfold Y3.keyLits;rw[eN.u];simp[wf x J]
  unfold keyOf;rw[bV.u];simp only;have ab:x5.keyType bV=true:=by kernel_rfl
  have ac:x5.cellsOf eN=1:=by kernel_rfl
  have U:x5.cellsOf bV=6:=by kernel_rfl
  have ae:(dn [a,b,c,d,e,f]).formed x5 bV=true:=by
   unfold dn y0.formed;rw[bV.u,U];rfl
  rw[ab,ae,xB,aa];simp only[Bool.and_self,if_true];unfold Y3.keyLits;rw[bV.u];simp only[U,ac,ints];have ad:Z1 6=[0,1,2,3,4,5]:=by decide
  simp[ad,one a W,one b X,one c Y,one d rd,one e Z,one f iI]
def pad (t:List Int):List Int:=t++u6 (6-t.length) 0
theorem FD {t:List Int} (O:t.length≤6) (E:∀ x∈t,0≤x∧x<32):jd (pad t):=
 ⟨by simp[pad];omega,fun x J=>by
  rcases p8.1 J with h|h
  ·exact E x h
  ·have:=(List.mem_replicate.1 h).2;omega⟩
theorem FE {b:List Int} (E:a.length=b.length) (h:pad a=pad b):a=b:=by
 unfold pad at h;exact (List.append_inj h E).1
theorem xC {t:List Int}:(pad t).take t.length=t:=by simp[pad]
theorem ln {b o:Nat} (E:ks.length=6) (h:w.rangeAt b o (ints .i8 ks)):O x5 (x6 bV (.pointer (some ⟨b,o,none⟩))) w K=K (dn ks):=
 vM bV.u rfl bV.i (by simp[E]) h
theorem FF {b o:Nat} (E:ks.length=6) (h:w.rangeAt b o (ints .i8 ks)):O x5 (do loadVar bV (←asAddr (.pointer (some ⟨b,o,none⟩)))) w K=K (dn ks):=O.of fun w' J=>by
 have:=run_loadVar_mid (P:=x5) w' b o bV (ints .i8 ks) (.array 6 eN) (l8 J h) bV.u rfl (by rw[bV.i.size];simp[E]);simp only[asAddr,Z8,Y5,Result.andThen_ok,this];rfl
theorem nR {g:Nat} {K:Unit→x1→Prop} (E:ks.length=6) (J:cs.length=6) (O:aa w g bV cs)
  (h:∀ w',ad (fun r=>r=g) w w'→w'.heap.size=w.heap.size→aa w' g bV (ints .i8 ks)→K () w'):aw x5 (n0 bV (.pointer (some ⟨g,0,none⟩)) (dn ks)) w K:=
 bP (vs:=ints .i8 ks) bV.i (by simp[E]) J (fun v ac=>by obtain⟨x,_,rfl⟩:=o8.1 ac;rfl) O h
def p7:List y0:=[.int .i8 0,.int .i8 0,.int .i8 0,.int .i8 0,.int .i8 0,.int .i8 0]
theorem FG {x:Int}:ag x5 pj [.int .i64 x] w fun v w'=>v= .bool (decide (¬gm x))∧Ext w w':=by
 refine ap func227 ?_;simp only[bX,aC,br,af];refine⟨fun h=>⟨?_,Ext.refl _⟩,fun h=>⟨?_,Ext.refl _⟩⟩
 ·rw[decide_eq_true];intro E;have:=E.1;omega
 ·congr 1;have:(32<x)=(¬gm x):=propext ⟨fun J E=>by have:=E.2;omega,fun J=>by
   by_cases O:32<x
   ·exact O
   ·exact absurd ⟨by omega,by omega⟩ J⟩
  simp only[this]
theorem FH (h:ay .i64 w sv l):
  ag x5 rG [sv,.func (.func pj) #[] #[]] w fun v w'=>Ext w w'∧ ∃ n:Int,v= .int .i64 n∧((0≤n)=¬∀ x∈l,gm x):=by
 have ac:=h.le;refine ap func131 ?_;rw[aK al.u h];refine⟨fun _ t O=>Ext w O∧ ∃ i:Nat,t= .int .i64 i∧i≤l.length∧ ∀ x∈l.take i,gm x,fun _ t _=>l.length-(bk t).toNat,⟨Ext.refl _,0,rfl,Z5 _,by simp⟩,?_⟩;rintro _ _ O ⟨J,i,rfl,hi,U⟩;simp only[aC,af];refine⟨fun ad=>?_,fun ae=>⟨J,-1,rfl,?_⟩⟩
 ·obtain⟨x,W⟩:=aE (l:=l) (i:=i) (by omega);rw[a1 al.u ab.i (by kernel_rfl) (h.ext J) W];show ag x5 pj [.int .i64 x] O _;refine FG.mono ?_;rintro _ V _ ⟨rfl,X⟩;simp only[af,aB];refine⟨fun Y=>⟨J.trans X,i,rfl,?_⟩,fun Z=>?_⟩
  ·exact propext ⟨fun _ aa=>Y (aa x (x2 W)),fun _=>by omega⟩
  ·rw[wrap_i64 (by omega) (by omega)];refine⟨⟨J.trans X,i+1,rfl,by omega,fun y E=>?_⟩,?_⟩
   ·rw[u5,W] at E;rcases p8.1 E with E|E
    ·exact U y E
    ·simp at E;subst E;exact Z6.1 Z
   ·simp only[bk];omega
 ·have:i=l.length:=by omega
  rw[this,o5] at U;exact propext ⟨fun h=>by omega,fun h=>absurd U h⟩
theorem xD (h:ay .i64 w sv l):
  ag x5 rK [sv,.func (.func pj) #[] #[]] w fun v w'=>v= .bool (decide (¬∀ x∈l,gm x))∧Ext w w':=by
 refine ap func216 ?_;refine (FH h).mono ?_;rintro _ O _ ⟨J,n,rfl,E⟩;simp only[cn];exact⟨by congr 1;simp only[E],J⟩
abbrev Told:=List (List Int×Int)
def hV (p:List Int×Int):y0×y0:=(dn (pad p.1),.int .i64 p.2)
def dG (w:x1) (g m:Nat) (ai:List Int) (k o:Int) (D:Told):Prop:=
 (∃ sv gs,aa w g ez [sv,.int .i64 k,.int .i64 o,.map (some m)]∧ak .i64 ab w gs sv ai)∧cr w m (D.map hV)∧bD ai∧cv o k∧ ∀ p∈D,cJ ai p.1∧cv p.2 k∧p.2≠o
theorem dG.ext {g:Nat} {D:Told} (h:dG w g m ai k o D) (J:Ext w w'):dG w' g m ai k o D:=by
 obtain⟨⟨sv,gs,h1,E⟩,O,U⟩:=h;exact⟨⟨sv,gs,h1.ext J,E.ext J⟩,O.ext J,U⟩
theorem sB {t:List Int} (O:bD ai) (h:cJ ai t):t.length=ai.length∧ ∀ x∈t,0≤x∧x<32:=by
 obtain⟨h1,U⟩:=lg.1 h;refine⟨h1.symm,fun x J=>?_⟩;obtain⟨i,hi,rfl⟩:=List.getElem_of_mem J;obtain⟨a,E⟩:=aE (l:=ai) (i:=i) (by omega);have V:=U i a _ E (x4 hi);have W:=(O.2 a (x2 E)).2;omega
theorem nS {t:List Int} (E:bD ai) (h:cJ ai t):jd (pad t):=by
 obtain⟨h1,J⟩:=sB E h;exact FD (by rw[h1];exact E.1) J
theorem dG.mz {g:Nat} {D:Told} (h:dG w g m ai k o D):∀ p∈D.map hV,∃ l,keyOf x5 bV p.1=some l:=fun p E=>by
 obtain⟨q,J,rfl⟩:=o8.1 E;exact sA (nS h.2.2.1 (h.2.2.2.2 q J).1)
theorem xE {s t:List Int} (E:cJ ai s) (J:cJ ai t) (h:dn (pad s)=dn (pad t)):s=t:=
 FE ((pS E).symm.trans (pS J)) (FB h)
theorem dG.nodup {g:Nat} {D:Told} (h:dG w g m ai k o D):(D.map (·.1)).Nodup:=by
 have E:=h.2.1.nodup;rw[List.map_map] at E;refine List.Pairwise.of_map (S:=fun a b=>a≠b) (fun t=>dn (pad t)) (fun a b h he=>h (by rw[he])) ?_;rw[List.map_map];exact E
def FI (w:x1) (l:List Int) (k o:Int) (v:y0) (w':x1):Prop:=
 Ext w w'∧(¬bD l→v= .tuple #[.pointer none,.int .i64 1])∧(bD l→¬cv o k→v= .tuple #[.pointer none,.int .i64 3])∧
  (bD l→cv o k→ ∃ g m,v= .tuple #[.pointer (some ⟨g,0,none⟩),.int .i64 0]∧w.heap.size≤g∧w.heap.size≤m∧dG w' g m l k o [])
theorem xF (h:ay .i64 w sv l):ag x5 l0 [sv,.int .i64 k,.int .i64 o] w (FI w l k o):=by
 refine ap func169 ?_;refine aI (fun v Z=>Ext w Z∧ ∃ c,v= .bool c∧(c=true↔¬bD l)) ?_ ?_
 ·rintro _ Z ⟨O,c,rfl,U⟩;rw[ca];refine⟨fun aa=>⟨O,fun _=>rfl,fun h=>absurd h (U.1 aa),fun h=>absurd h (U.1 aa)⟩,fun ae=>?_⟩;have E:bD l:=Classical.byContradiction fun h=>by have:=U.2 h;rw[ae] at this;cases this
  have am:=E.1;refine k7.mono ?_;rintro _ V _ ⟨rfl,J⟩;by_cases hi:cv o k
  rotate_left
  ·simp only[hi,decide_false,bJ,Y9,bq];exact⟨O.trans J,fun h=>absurd E h,fun _ _=>rfl,fun _ h=>absurd h hi⟩
  simp only[hi,decide_true,bJ,Y0,aR];refine (ij ((h.ext O).ext J) (by omega)).mono ?_;rintro ab an _ ⟨ac,ah,ao,hm⟩;have aq:=hm.ls.cells;refine p5 fun m au av W ai=>?_;rw[ct (cs:=#[ab,.int .i64 k,.int .i64 o,.map (some m)]) (by obtain⟨_,_,_,_,_,rfl,_⟩:=hm.ls;kernel_rfl)];refine a7 fun g aw ax X aj=>?_;have az:=O.size;have aA:=J.size;have aB:=ac.size;have aC:=W.size;exact⟨((((O.trans J).trans ac).trans W).trans X),fun h=>absurd E h,fun _ h=>absurd hi h,fun _ _=>⟨g,m,rfl,by omega,by omega,⟨ab,ah,aj,(hm.ext W).ext X⟩,ai.ext X,E,hi,fun p ak=>by cases ak⟩⟩
 ·intro aD ad;rw[aK al.u h];simp only[br,af];refine⟨fun aE=>ad _ _ ⟨Ext.refl _,true,rfl,fun _ E=>by have:=E.1;omega,fun _=>rfl⟩,fun aF=>?_⟩;refine (xD h).mono ?_;rintro _ V _ ⟨rfl,J⟩;refine ad _ _ ⟨J,_,rfl,?_⟩;rw[decide_eq_true_eq];exact⟨fun Y E=>Y E.2,fun Y E=>Y ⟨by omega,E⟩⟩
def gO (t:List Int) (i:Nat):List Int:=t.take i++u6 (6-i) 0
theorem FJ {t:List Int} {i:Nat} (hi:i≤t.length) (E:t.length≤6):(gO t i).length=6:=by simp[gO];omega
theorem FK {t:List Int} {i:Nat} {x:Int} (J:t[i]? =some x) (O:t.length≤6):(gO t i).set i x=gO t (i+1):=by
 have hi:=(x3.1 J).1;unfold gO;have E:(t.take i).length=i:=by rw[o6];omega
 rw[List.set_append_right _ _ (by omega),E,X9,u5,J];have:6-i=(6-(i+1))+1:=by omega
 rw[this,List.replicate_succ];simp
theorem FL (t:List Int):gO t t.length=pad t:=by simp[gO,pad]
def xG (w:x1) (ai t:List Int) (v:y0) (w':x1):Prop:=Ext w w'∧ ∃ ks e,v= .tuple #[dn ks,.int .i64 e]∧ks.length=6∧(cJ ai t→ks=pad t∧e=0)∧(¬cJ ai t→e=3)
set_option maxHeartbeats 800000 in
theorem FM {g:Nat} {t:List Int} {D:Told} {aH:y0} (h:dG w g m ai k o D) (am:ay .i64 w aH t):ag x5 Dg [.pointer (some ⟨g,0,none⟩),aH] w (xG w ai t):=by
 obtain⟨⟨sv,gs,an,hm⟩,_,aJ,_⟩:=h;have bd:=aJ.1;refine ap func228 ?_;refine bg bV.i fun ae be bf aL ah=>?_;refine bg bV.i fun aj V bh ao aq=>?_;have Y:=aL.trans ao;have bi:=aL.size;have bk:=ao.size;have bl:=ah.lt;have bm:=aq.lt;have bn:=an.lt;have ah:=ah.ext ao;have aT:=an.ext Y;rw[cQ dK.u];simp only[c6,aR];have au:∀ {E:x1} {ks:List Int} {e:Int},Ext w E→aa E aj bV (ints .i8 ks)→aa E ae bV p7→ks.length=6→(cJ ai t→ks=pad t∧e=0)→(¬cJ ai t→e=3)→
   O x5 (x6 bV (.pointer (some ⟨aj,0,none⟩))) E fun aU=>aw x5 (n0 bV (.pointer (some ⟨ae,0,none⟩)) aU) E fun(_:Unit) av=>O x5 (do loadVar bV (←asAddr (.pointer (some ⟨ae,0,none⟩)))) av fun aV=>xG w ai t (.tuple #[aV,.int .i64 e]) av:=by
  intro E ks e W X Z ak ac ax;rw[ln ak X.range];refine nR ak rfl Z fun av aW bo aX=>?_;rw[FF ak aX.range];exact⟨W.put aW (by omega),ks,e,rfl,ak,ac,ax⟩
 rw[aK al.u (am.ext Y),aD ez.p 0 aT rfl,aK al.u (hm.ls.ext Y)];simp only[bj,af];have aM:ints .i8 (gO t 0)=p7:=by simp[gO,p7,ints]
 refine⟨fun aZ=>au Y (ks:=gO t 0) (e:=3) (by rw[aM];exact aq) ah (by simp[gO]) (fun ac=>absurd (by rw[pS ac]) aZ) (fun _=>rfl),fun aN=>?_⟩;have aN:t.length=ai.length:=by omega
 rw[aK al.u (am.ext Y)];refine bO.range t.length (fun i _ E=>Ext w E∧aa E aj bV (ints .i8 (gO t i))∧aa E ae bV p7∧ ∀ (j:Nat) (a x:Int),j<i→ai[j]? =some a→t[j]? =some x→0≤x∧x<a) (by omega)
  ⟨Y,by rw[aM];exact aq,ah,fun j a x a2=>by omega⟩ ?_ ?_
 ·rintro i _ E a6 hi ⟨W,X,Z,az⟩ a7;simp only[aC,af];refine⟨fun _=>?_,fun h=>by omega⟩;obtain⟨x,J⟩:=aE (l:=t) hi;obtain⟨a,ad⟩:=aE (l:=ai) (i:=i) (by omega);have bp:=aJ.2 a (x2 ad);rw[a1 al.u ab.i (by kernel_rfl) (am.ext W) J];have aO:=FJ (t:=t) (i:=i) (by omega) (by omega);refine aI (fun v a8=>E=a8∧v= .bool (decide (¬(0≤x∧x<a)))) ?_ ?_
  ·rintro _ _ ⟨rfl,rfl⟩;simp only[af];refine⟨fun ba=>au W X Z aO (fun ac=>absurd ((lg.1 ac).2 i a x ad J) ba) (fun _=>rfl),fun aA=>?_⟩;have aA:=Z6.1 aA;rw[ft ab.u eN.u,DY (by omega) (by omega),pv bV.u eN.i (by omega)];refine aY eN.i rfl rfl X (by simp[aO];omega) fun bq aP br aQ=>?_;simp only[aB];refine a7 _ _ ⟨W.put aP (by omega),?_,Z.U aP (by show ¬(ae=aj);omega),fun j a' bb a2 aF aG=>?_⟩
   ·have e:(ints .i8 (gO t i)).set (0+i*1) (.int .i8 x)=ints .i8 (gO t (i+1)):=by
     rw[←FK J (by omega)];simp[ints,List.map_set]
    rw[e] at aQ;exact aQ
   ·by_cases bc:j=i
    ·subst bc;rw[ad] at aF;rw[J] at aG;cases aF;cases aG;exact aA
    ·exact az j a' bb (by omega) aF aG
  ·intro bt aS;simp only[aC,af];refine⟨fun bu=>aS _ _ ⟨rfl,by rw[decide_eq_true];omega⟩,fun bw=>?_⟩;rw[aD ez.p 0 (an.ext W) rfl,a1 al.u ab.i (by kernel_rfl) (hm.ls.ext W) ad,cn];refine aS _ _ ⟨rfl,?_⟩;congr 1;exact decide_eq_decide.2 ⟨fun h bx=>by omega,fun h=>by omega⟩
 ·rintro _ E a6 ⟨W,X,Z,az⟩;simp only[aC,af];refine⟨fun h=>by omega,fun _=>?_⟩;rw[FL] at X;exact au W X Z (by simp[pad];omega) (fun _=>⟨rfl,rfl⟩) (fun ax=>absurd (lg.2 ⟨aN.symm,fun j a x ad J=>az j a x (x3.1 J).1 ad J⟩) ax)
def gw (D:Told) (o:Int) (t:List Int):Int:=match D.find? (fun p=>decide (p.1=t)) with
 |some p=>p.2
 |none=>o
theorem xH {D:Told} (J:(D.map (·.1)).Nodup) {p q:List Int×Int} (O:p∈D) (U:q∈D) (h:p.1=q.1):p=q:=by
 obtain⟨i,hi⟩:=X1.1 O;obtain⟨j,E⟩:=X1.1 U;have h1:(D.map (·.1))[i]? =some p.1:=by rw[x7,hi];rfl
 have V:(D.map (·.1))[j]? =some p.1:=by rw[x7,E,h];rfl
 have:=ip J h1 V;subst this;rw[hi] at E;exact b9 E
theorem nT {D:Told} {t:List Int} (E:(D.map (·.1)).Nodup) (h:(t,c)∈D):gw D o t=c:=by
 unfold gw;cases ae:D.find? (fun p=>decide (p.1=t)) with
 |none=>
  have:=List.find?_eq_none.1 ae _ h;simp at this
 |some p=>
  have h1:=List.find?_some ae;have h1:p.1=t:=by simpa using h1
  have:=xH E (List.mem_of_find?_eq_some ae) h h1;rw[this]
theorem nU {D:Told} {t:List Int} (h:∀ p∈D,p.1≠t):gw D o t=o:=by
 unfold gw;cases ae:D.find? (fun p=>decide (p.1=t)) with
 |none=>rfl
 |some p=>
  have h1:=List.find?_some ae;have h1:p.1=t:=by simpa using h1
  exact absurd h1 (h p (List.mem_of_find?_eq_some ae))
def je (D:Told) (t:List Int) (c o:Int) (E:Told):Prop:=(∀ p,p∈E↔(c≠o∧p=(t,c))∨(p∈D∧p.1≠t))∧E.length≤D.length+1
theorem je.cost {D U:Told} {t:List Int} (h:je D t c o U) (Y:(D.map (·.1)).Nodup) (V:(U.map (·.1)).Nodup) (s:List Int):gw U o s=if s=t then c else gw D o s:=by
 by_cases O:s=t
 ·subst O;rw[if_pos rfl];by_cases W:c=o
  ·subst W;exact nU fun p E he=>by
    rcases (h.1 p).1 E with J|J
    ·exact J.1 rfl
    ·exact J.2 he
  ·exact nT V ((h.1 _).2 (.inl ⟨W,rfl⟩))
 ·rw[if_neg O];by_cases he:∃ p∈D,p.1=s
  ·obtain⟨p,E,rfl⟩:=he;rw[nT (c:=p.2) Y E];exact nT V ((h.1 _).2 (.inr ⟨E,O⟩))
  ·have X:∀ p∈D,p.1≠s:=fun p E h=>he ⟨p,E,h⟩;rw[nU X];exact nU fun p E J=>by
    rcases (h.1 p).1 E with⟨_,rfl⟩|⟨Z,_⟩
    ·exact O J.symm
    ·exact X p Z J
theorem FN {D:Told} {t:List Int} {v0:Int} (V:(D.map (·.1)).Nodup) (O:D[j]? =some (t,v0)) (W:c≠o):je D t c o (D.set j (t,c)):=by
 have U:=(x3.1 O).1;refine⟨fun p=>⟨fun E=>?_,fun E=>?_⟩,by simp⟩
 ·obtain⟨i,hi⟩:=X1.1 E;by_cases J:j=i
  ·subst J;rw[V8 U] at hi;exact .inl ⟨W,(b9 hi).symm⟩
  ·rw[List.getElem?_set_ne J] at hi;refine .inr ⟨x2 hi,fun he=>J ?_⟩;exact ip V (x:=t) (by rw[x7,O];rfl) (by rw[x7,hi,c5,he])
 ·rcases E with⟨_,rfl⟩|⟨E,X⟩
  ·exact x2 (V8 U)
  ·obtain⟨i,hi⟩:=X1.1 E;have J:j≠i:=fun he=>by subst he;rw[O] at hi;cases hi;exact X rfl
   exact x2 (by rw[List.getElem?_set_ne J];exact hi)
theorem xI {D:Told} {t:List Int} (E:∀ p∈D,p.1≠t) (J:c≠o):je D t c o (D++[(t,c)]):=by
 refine⟨fun p=>?_,by simp⟩;rw[p8,p9];exact⟨fun h=>h.elim (fun h=>.inr ⟨h,E p h⟩) (fun h=>.inl ⟨J,h⟩),fun h=>h.elim (fun h=>.inr h.2) (fun h=>.inl h.1)⟩
theorem FO {D:Told} {t:List Int} {v0:Int} (O:(D.map (·.1)).Nodup) (J:D[j]? =some (t,v0)):je D t o o (D.eraseIdx j):=by
 refine⟨fun p=>⟨fun E=>?_,fun E=>?_⟩,by have:=List.length_eraseIdx_le D j;omega⟩
 ·refine .inr ?_;obtain⟨i,U,hi⟩:=List.mem_eraseIdx_iff_getElem?.1 E;refine⟨x2 hi,fun he=>U ?_⟩;exact ip O (x:=t) (by rw[x7,hi,c5,he]) (by rw[x7,J];rfl)
 ·rcases E with⟨h,_⟩|⟨E,V⟩
  ·exact absurd rfl h
  ·obtain⟨i,hi⟩:=X1.1 E;exact List.mem_eraseIdx_iff_getElem?.2 ⟨i,fun he=>by subst he;rw[J] at hi;cases hi;exact V rfl,hi⟩
theorem FP {D:Told} {t:List Int} (E:∀ p∈D,p.1≠t):je D t o o D:=
 ⟨fun p=>⟨fun h=>.inr ⟨h,E p h⟩,fun h=>h.elim (fun h=>absurd rfl h.1) (fun h=>h.1)⟩,by omega⟩
theorem xJ {g:Nat} {t:List Int} {D:Told} (h:dG w g m ai k o D) (O:cJ ai t) (E:(D.map hV)[j]? =some (dn (pad t),v)):∃ c,D[j]? =some (t,c)∧v= .int .i64 c:=by
 rw[x7] at E;obtain⟨p,J,he⟩:=Z2.1 E;have h1:=xE (h.2.2.2.2 p (x2 J)).1 O (congrArg Prod.fst he);exact⟨p.2,by rw[J,←h1],(congrArg Prod.snd he).symm⟩
theorem xK {g:Nat} {t:List Int} {D:Told} (h:dG w g m ai k o D) (E:∀ p∈D.map hV,p.1≠dn (pad t)):∀ p∈D,p.1≠t:=fun p J he=>E (hV p) (o8.2 ⟨p,J,rfl⟩) (by rw[hV,he])
def FQ (w:x1) (g m:Nat) (ai t:List Int) (k o c:Int) (D:Told) (v:y0) (w':x1):Prop:=
 (¬(cJ ai t∧cv c k)→v= .int .i64 3∧Ext w w')∧(cJ ai t∧cv c k→v= .int .i64 0∧ad (fun r=>r=m) w w'∧ ∃ E,je D t c o E∧dG w' g m ai k o E)
set_option maxHeartbeats 800000 in
theorem xL {g:Nat} {t:List Int} {D:Told} {aB:y0} (h:dG w g m ai k o D) (aL:ay .i64 w aB t):ag x5 CK [.pointer (some ⟨g,0,none⟩),aB,.int .i64 c] w (FQ w g m ai t k o c D):=by
 refine ap func170 ?_;refine (FM h aL).mono ?_;rintro _ bd _ ⟨aC,ks,e,rfl,an,aM,aN⟩;rw[a8,ba];refine bg bV.i fun be V bf aE aF=>?_;refine nR an rfl aF fun ao aO bh aG=>?_;have bi:=aC.size;have bk:=aE.size;have bl:=aF.lt;have aj:Ext w ao:=(aC.trans aE).put aO (by omega);refine aI (fun v aq=>v= .int .i64 0∧(cJ ai t∧cv c k)∧ad (fun r=>r=m) w aq∧ ∃ O,je D t c o O∧dG aq g m ai k o O) ?_ ?_
 ·rintro _ aq ⟨_,h1,ae⟩;exact⟨fun h=>absurd h1 h,fun _=>⟨rfl,ae⟩⟩
 intro aP aQ;simp only[bj,af];by_cases ac:cJ ai t
 rotate_left
 ·have he:=aN ac;subst he;exact⟨fun _=>⟨fun _=>⟨rfl,aj⟩,fun h=>absurd h.1 ac⟩,fun h=>by simp at h⟩
 obtain⟨rfl,rfl⟩:=aM ac;refine⟨fun h=>absurd rfl h,fun _=>?_⟩;have X:=h.ext aj;obtain⟨⟨sv,gs,Y,hm⟩,ak,aH,aS,aT⟩:=id X;rw[aD ez.p 1 Y rfl];refine k7.mono ?_;rintro _ aU _ ⟨rfl,Z⟩;have aV:=aj.trans Z;by_cases hi:cv c k
 rotate_left
 ·simp only[hi,decide_false,bJ,Y9,bq];exact⟨fun _=>⟨rfl,aV⟩,fun h=>absurd h.2 hi⟩
 simp only[hi,decide_true,bJ,Y0,aR];rw[aD ez.p 2 (Y.ext Z) rfl];simp only[bc,af,du];have aJ:=sA (nS aH ac);have aW:∀ {O:Told},je D t c o O→ ∀ p∈O,cJ ai p.1∧cv p.2 k∧p.2≠o:=fun hu p aX=>by
  rcases (hu.1 p).1 aX with⟨ab,rfl⟩|⟨h1,_⟩
  ·exact⟨ac,hi,ab⟩
  ·exact aT p h1
 have al:∀ {ah aa:x1} {O:Told},Ext aU ah→ad (fun r=>r=m) ah aa→cr aa m (O.map hV)→je D t c o O→aP (.int .i64 0) aa:=by
  intro ah aa O E J aY hu;have a1:g≠m:=fun he=>by
   obtain⟨a2,a6,au,_⟩:=ak;have Y:ao.heap[g]? =_:=Y;rw[he,au] at Y;cases Y
  have a7:∀ r,leads sv r→r≠m:=fun r aK he=>by
   subst he;obtain⟨a2,a6,au,_⟩:=ak;obtain⟨_,⟨rfl,_⟩|⟨cap,cs,rfl,am,_⟩⟩:=hm
   ·obtain⟨a,n,c,h1,_⟩:=aK;cases h1
   ·obtain⟨a,n,c,h1,ae⟩:=aK;cases h1;have am:ao.heap[gs]? =_:=am;have ae:gs=r:=ae;rw[ae,au] at am;cases am
  have av:=Z.trans E;exact aQ _ _ ⟨rfl,⟨ac,hi⟩,((aj.trans av).U _).trans J,O,hu,⟨sv,gs,(Y.ext av).U J a1,aZ (hm.ext av) J a7⟩,aY,aH,aS,aW hu⟩
 refine⟨fun ab ah E _ _=>?_,fun ab ah E _ _=>?_⟩
 ·rw[aD ez.p 3 ((Y.ext Z).ext E) rfl,ln an ((aG.ext Z).ext E).range];subst ab;refine Fy gI.u keys ((ak.ext Z).ext E) X.mz aJ (fun j v0 aa aw W J=>?_) (fun aa ax W J=>?_)
  ·obtain⟨bb,az,_⟩:=xJ X ac aw;rw[ky] at W;exact al E J W (FO X.nodup az)
  ·exact al E J W (FP (xK X ax))
 ·rw[aD ez.p 3 ((Y.ext Z).ext E) rfl,ln an ((aG.ext Z).ext E).range];refine nQ gI.u keys ((ak.ext Z).ext E) X.mz aJ (fun j v0 aa aw W J=>?_) (fun aa ax W J=>?_)
  ·obtain⟨bb,az,_⟩:=xJ X ac aw;have aA:(D.map hV).set j (dn (pad t),.int .i64 c)=(D.set j (t,c)).map hV:=by rw[List.map_set];rfl
   rw[aA] at W;exact al E J W (FN X.nodup az ab)
  ·have aA:D.map hV++[(dn (pad t),.int .i64 c)]=(D++[(t,c)]).map hV:=by rw[j4];rfl
   rw[aA] at W;exact al E J W (xI (xK X ax) ab)
theorem FR {g:Nat} {t:List Int} {D:Told} {b:Bool} (h:dG w g m ai k o D) (ac:cJ ai t)
  (h1:∀ c,(t,c)∈D→K (if b then .tuple #[.int .i64 c,.bool true] else .int .i64 c)) (V:(∀ p∈D,p.1≠t)→K (if b then .tuple #[.int .i64 0,.bool false] else .int .i64 0)):
  O x5 (Instr.lookup gI (.map (some m)) (dn (pad t)) b) w K:=by
 have J:=sA (nS h.2.2.1 ac);by_cases he:∃ p∈D,p.1=t
 ·obtain⟨p,E,rfl⟩:=he;obtain⟨j,W⟩:=X1.1 E;rw[nP gI.u keys h.2.1 h.mz J (j:=j) (v:=.int .i64 p.2) (by rw[x7,W];rfl)];exact h1 p.2 E
 ·have U:∀ p∈D,p.1≠t:=fun p E h=>he ⟨p,E,h⟩;rw[p6 gI.u keys ⟨_,_,aj.i⟩ h.2.1 h.mz J (fun q X Y=>by
   obtain⟨p,E,rfl⟩:=o8.1 X;exact U p E (xE (h.2.2.2.2 p E).1 ac Y))]
  exact V U
theorem FS {g:Nat} {D:Told} (h:dG w g m ai k o D):ag x5 Dj [.pointer (some ⟨g,0,none⟩)] w fun v w'=>v= .int .i64 D.length∧Ext w w':=by
 obtain⟨⟨sv,gs,E,hm⟩,J,_⟩:=h;refine ap func233 ?_;rw[cQ dK.u];simp only[c6,aR];rw[aD ez.p 3 E rfl,Fz gI.u J];exact⟨by simp,Ext.refl _⟩
theorem FT {g:Nat} {D:Told} (h:dG w g m ai k o D):ag x5 DL [.pointer (some ⟨g,0,none⟩)] w fun v w'=>v= .int .i64 k∧Ext w w':=by
 obtain⟨⟨sv,gs,E,hm⟩,_⟩:=h;refine ap func288 ?_;rw[cQ dK.u];simp only[c6,aR];rw[aD ez.p 1 E rfl];exact⟨rfl,Ext.refl _⟩
theorem sC {g:Nat} {D:Told} (h:dG w g m ai k o D):ag x5 Dk [.pointer (some ⟨g,0,none⟩)] w fun v w'=>Ext w w'∧ ∃ E,w.heap.size≤E∧ak .i64 ab w' E v ai:=by
 obtain⟨⟨sv,gs,J,hm⟩,_,O,_⟩:=h;have U:=O.1;refine ap func234 ?_;rw[cQ dK.u];simp only[c6,aR];rw[aD ez.p 0 J rfl];exact ij hm.ls (by omega)
theorem FU {g:Nat} {D:Told} (h:dG w g m ai k o D):ag x5 DM [.pointer (some ⟨g,0,none⟩)] w fun v w'=>v= .int .i64 ai.length∧Ext w w':=by
 refine ap func289 ?_;refine (sC h).mono ?_;rintro v E _ ⟨J,O,_,hm⟩;rw[aK al.u hm.ls];exact⟨rfl,J⟩
end Go.Proofs.YthjegppepbbojaaGreatDoor
namespace Go.Vc
open Go Go.RowKit
set_option maxRecDepth 100000
def leadsTo (v:y0) (r:Nat):Prop:=∃ a n c,v= .slice (some a) n c∧a.block=r
theorem ds (h:leadsTo (.slice none 0 0) r):False:=by
 obtain⟨a,n,c,h,_⟩:=h;cases h
section
variable {α:Type} {f:α→List y0} {k:Nat}
theorem fZ:∀ {L:List α},(∀ a∈L,(f a).length=k)→(L.flatMap f).length=L.length*k
 |[],_=>by simp
 |a::L,h=>by
  rw[V1,u7,h a (.head _),fZ fun b E=>h b (.tail _ E),n9,W8];omega
theorem mA:∀ {L:List α} (i:Nat),(∀ a∈L,(f a).length=k)→(L.flatMap f).take (i*k)=(L.take i).flatMap f
 |[],i,_=>by simp
 |a::L,0,_=>by simp
 |a::L,i+1,h=>by
  have E:=h a (.head _);rw[V1,List.take_succ_cons,V1,←mA i fun b J=>h b (.tail _ J),W8,Nat.one_mul,Nat.add_comm,List.take_append,E];congr 1
  ·exact Z0 (by omega)
  ·congr 1;omega
theorem qa:∀ {L:List α} (i:Nat),(∀ a∈L,(f a).length=k)→(L.flatMap f).drop (i*k)=(L.drop i).flatMap f
 |[],i,_=>by simp
 |a::L,0,_=>by simp
 |a::L,i+1,h=>by
  have E:=h a (.head _);rw[V1,List.drop_succ_cons,←qa i fun b J=>h b (.tail _ J),W8,Nat.one_mul,Nat.add_comm,List.drop_append,E];rw[List.drop_of_length_le (by omega),List.nil_append];congr 1;omega
theorem qb {L:List α} {i:Nat} {a:α} (h:∀ a∈L,(f a).length=k) (hi:L[i]? =some a) (E:(f a)[j]? =some v):(L.flatMap f)[i*k+j]? =some v:=by
 have O:=(x3.1 E).1;rw[←List.getElem?_drop,qa i h];have J:=x3.1 hi;rw[Y1 J.1,J.2,V1,Z4 O];exact E
theorem xM {L:List α} {i:Nat} {a:α} (h:∀ a∈L,(f a).length=k) (E:(f a).length=k) (hi:i<L.length):over (L.flatMap f) (i*k) (f a)=(L.set i a).flatMap f:=by
 have O:=fZ h;have J:(i+1)*k≤L.length*k:=X2 _ hi;rw[W8,Nat.one_mul] at J;rw[km (by omega),E,mA i h,show i*k+k=(i+1)*k by rw[W8,Nat.one_mul],qa (i+1) h,List.set_eq_take_append_cons_drop,if_pos hi,List.flatMap_append,V1,Y2]
theorem xN {vs:List y0} {o:Nat} (h1:o+vs.length≤m) (E:m≤cs.length):(over cs o vs).take m=over (cs.take m) o vs:=by
 rw[km (by omega),km (by rw[o6];omega),Y2,Y2,List.take_append,List.take_append,List.take_take,List.take_take,List.drop_take,o6];rw[show min m o=o by omega,show min o m=o by omega,show min o cs.length=o by omega,Z0 (l:=vs) (by omega)];congr 3;omega
def aT (f:α→List y0) (k:Nat) (e:u9) (w:x1) (g:Nat) (v:y0) (L:List α):Prop:=bz w g e k v L.length (L.flatMap f)∧ ∀ a∈L,(f a).length=k
variable {P:Y3} {w:x1} {e:u9} {g:Nat} {v:y0} {L:List α}
theorem aT.nil (f:α→List y0) (k:Nat) (e:u9) (w:x1) (g:Nat):aT f k e w g (.slice none 0 0) []:=⟨bz.nil w g e k,fun a h=>by cases h⟩
theorem aT.leads (h:aT f k e w g v L) (E:leadsTo v r):r=g∧g<w.heap.size:=by
 obtain⟨_,⟨rfl,_⟩|⟨cap,cs,rfl,J,_⟩⟩:=h.1
 ·exact (ds E).elim
 ·obtain⟨a,n,c,h1,O⟩:=E;cases h1;exact⟨O.symm,J.lt⟩
theorem aT.U (h:aT f k e w g v L) (J:ad S w w') (E:∀ r,leadsTo v r→¬S r):aT f k e w' g v L:=
 ⟨⟨h.1.1,h.1.2.imp id fun⟨cap,cs,h1,O,V⟩=>⟨cap,cs,h1,O.U J (E g ⟨_,_,_,h1,rfl⟩),V⟩⟩,h.2⟩
theorem aT.ext (h:aT f k e w g v L) (J:Ext w w'):aT f k e w' g v L:=h.U (J.U fun _=>False) fun _ _ h=>h
theorem aT.sl (h:aT f k e w g v L):bM w k v L.length (L.flatMap f):=h.1.sl
theorem aT.le (h:aT f k e w g v L):L.length≤9223372036854775807:=by
 have:=bM.le h.sl;simpa[maxLen] using this
theorem dA {E:u9} (J:P.underlying t=some (.slice e)) (h:aT f k e w g v L):O P (Y4 #[t] E #[v]) w K=K (.int .i64 L.length):=by
 obtain⟨_,_,_,_,_,rfl,_⟩:=h.sl;exact fK J
theorem cM {q:o4} {b:Nat} {i:Nat} (E:y=(i:Int)) (J:P.underlying t=some (.slice e)) (hi:aA P e k b z) (h:aT f k e w g v L) (U:i<L.length):
  O P (j9 t v (.int q y)) w K=K (.pointer (some ⟨g,i*k,none⟩)):=by
 subst E;obtain⟨_,⟨rfl,V⟩|⟨cap,cs,rfl,W,X⟩⟩:=h.1
 ·omega
 ·rw[gl J hi U (fun _=>rfl),V0]
theorem aT.range {i:Nat} {a:α} (h:aT f k e w g v L) (hi:L[i]? =some a):w.rangeAt g (i*k) (f a):=fun j u hu=>by
 have h1:=qb h.2 hi hu;have U:=(x3.1 hi).1;obtain⟨_,⟨rfl,V⟩|⟨cap,cs,rfl,J,_,_,W,O⟩⟩:=h.1
 ·omega
 ·have E:=(x3.1 h1).1;rw[fZ h.2] at E;rw[←O,c7 E] at h1;exact J.cell h1
theorem xO {b:Nat} {i:Nat} {a:α} {K:Unit→x1→Prop} (hi:aA P t k b z) (h:aT f k e w g v L) (E:(f a).length=k) (h1:∀ u∈f a,u.oneCell'=true) (U:i<L.length)
  (X:∀ w',ad (fun r=>leadsTo v r) w w'→w'.heap.size=w.heap.size→aT f k e w' g v (L.set i a)→K () w'):aw P (n0 t (.pointer (some ⟨g,i*k,none⟩)) (.agg (f a).toArray)) w K:=by
 have ah:=fZ h.2;have Y:(i+1)*k≤L.length*k:=X2 _ U;rw[W8,Nat.one_mul] at Y;obtain⟨⟨ai,⟨rfl,aj⟩|⟨cap,cs,rfl,Z,V,aa,W,ab⟩⟩,J⟩:=h
 ·omega
 ·have ac:L.length*k≤cs.length:=by rw[W];exact X2 _ V
  refine rT hi E h1 Z (by omega) fun w' ae af ag=>X w' (ae.mono fun r _ he=>⟨_,_,_,rfl,he.symm⟩) af ⟨⟨?_,.inr ⟨cap,_,by simp,ag,by simpa using V,aa,by rw[kl,W],?_⟩⟩,fun b O=>?_⟩
  ·rw[fZ (L:=L.set i a) fun b O=>by
    rcases W3 O with h|rfl
    ·exact J b h
    ·exact E]
  ·rw[X7,←xM J E U,←ab,xN (by rw[E];omega) ac]
  ·rcases W3 O with h|rfl
   ·exact J b h
   ·exact E
theorem mB {b:Nat} {u:y0} {i:Nat} {a a':α} {K:Unit→x1→Prop} (hi:aA P t 1 b z) (hu:u.cells= #[u]) (h1:u.oneCell'=true) (h:aT f k e w g v L) (J:L[i]? =some a) (ae:f a'=(f a).set j u) (an:j<k)
  (ab:∀ w',ad (fun r=>leadsTo v r) w w'→w'.heap.size=w.heap.size→aT f k e w' g v (L.set i a')→K () w'):aw P (n0 t (.pointer (some ⟨g,i*k+j,none⟩)) u) w K:=by
 have U:=(x3.1 J).1;have ao:=fZ h.2;have ac:(i+1)*k≤L.length*k:=X2 _ U;rw[W8,Nat.one_mul] at ac;have af:(f a).length=k:=h.2 a (x2 J);have E:(f a').length=k:=by rw[ae,X7];exact af
 have ag:(L.flatMap f).set (i*k+j) u=(L.set i a').flatMap f:=by
  rw[←xM h.2 E U];refine Y7 fun p=>?_;rw[k1 _ _ _ (by omega),Y6,E];by_cases V:i*k≤p∧p<i*k+k
  ·rw[if_pos V,ae,Y6];by_cases W:i*k+j=p
   ·rw[if_pos W,if_pos (by omega),if_pos (by omega),if_pos (by omega)]
   ·rw[if_neg W,if_neg (by omega)];obtain⟨y,X⟩:∃ y,(f a)[p-i*k]? =some y:=⟨_,x4 (by omega)⟩;have:=qb h.2 J X;rw[show i*k+(p-i*k)=p by omega] at this;rw[this,X]
  ·rw[if_neg V,if_neg (by omega)]
 obtain⟨⟨ap,⟨rfl,aq⟩|⟨cap,cs,rfl,ah,Y,ai,Z,aj⟩⟩,aa⟩:=h
 ·omega
 ·have au:L.length*k≤cs.length:=by rw[Z];exact X2 _ Y
  refine aY hi hu h1 ah (by omega) fun w' ak al am=>ab w' (ak.mono fun r _ he=>⟨_,_,_,rfl,he.symm⟩) al ⟨⟨?_,.inr ⟨cap,_,by simp,am,by simpa using Y,ai,by rw[X7,Z],?_⟩⟩,fun b O=>?_⟩
  ·rw[fZ (L:=L.set i a') fun b O=>by
    rcases W3 O with h|rfl
    ·exact aa b h
    ·exact E]
  ·rw[X7,←ag,←aj,List.take_set]
  ·rcases W3 O with h|rfl
   ·exact aa b h
   ·exact E
theorem ff {ag:u9} {b:Nat} {x:y0} {a:α} {K:y0→x1→Prop} (W:P.underlying t=some (.slice e)) (hi:aA P e k b z) (ab:z.cells.size=k) (h:aT f k e w g v L) (J:bM w k x 1 (f a)) (h1:∀ u∈f a,u.oneCell'=true)
  (X:(L.length+1)*b≤140737488355328) (ae:L.length+1≤9223372036854775807)
  (af:∀ E O w',aT f k e w' O E (L++[a])→(∀ r,leadsTo E r→leadsTo v r∨w.heap.size≤r)→ad (fun r=>leadsTo v r) w w'→K E w'):aw P (l9 #[t,t] ag #[v,x]) w K:=by
 have ah:(f a).length=k:=by have:=J.1;omega
 have Y:∀ E O w',bz w' O e k E (L.length+1) (L.flatMap f++f a)→aT f k e w' O E (L++[a]):=fun E O w' hm=>⟨by simpa using hm,fun b X=>by
  rcases p8.1 X with h'|h'
  ·exact h.2 b h'
  ·rw[p9.1 h'];exact ah⟩
 rcases h.1.2 with⟨ac,ai⟩|⟨cap,cs,ac,aj,_⟩
 ·have hm:bz w w.heap.size e k v L.length (L.flatMap f):=⟨h.1.1,.inl ⟨ac,ai⟩⟩;subst ac;refine k4 W W hi ab hm J h1 (by simpa using X) (by simpa[maxLen] using ae) fun E O w' Z U aa=>af E O w' (Y _ _ _ U) (fun r V=>.inr ?_) (aa.mono fun r V h=>by omega);have:=((Y _ _ _ U).leads V).1;omega
 ·refine k4 W W hi ab h.1 J h1 (by simpa using X) (by simpa[maxLen] using ae) fun E O w' Z U aa=>af E O w' (Y _ _ _ U) (fun r V=>?_) (aa.mono fun r V h=>⟨_,_,_,ac,h.symm⟩);have:=((Y _ _ _ U).leads V).1;rcases Z with Z|Z
  ·exact .inl ⟨_,_,_,ac,by show g=r;omega⟩
  ·exact .inr (by omega)
theorem FV {O:u9} {b:Nat} {x:y0} {a:α} {K:y0→x1→Prop} (U:P.underlying t=some (.slice e)) (hi:aA P e k b z) (V:z.cells.size=k) (h:aT f k e w g v L) (J:bM w k x 1 (f a)) (h1:∀ a,∀ u∈f a,u.oneCell'=true)
  (W:(L.length+1)*b≤140737488355328) (X:L.length+1≤9223372036854775807)
  (Y:∀ E Z w',aT f k e w' Z E (L++[a])→(∀ r,leadsTo E r→leadsTo v r∨w.heap.size≤r)→ad (fun r=>leadsTo v r) w w'→K E w'):aw P (l9 #[t,t] O #[v,x]) w K:=ff U hi V h J (h1 a) W X Y
theorem eQ {b:Nat} {a:α} {x:y0} {K:y0→x1→Prop} (U:P.underlying t=some (.slice e)) (hi:aA P e k b z) (Z:k≤100000) (J:x.cells=(f a).toArray) (O:(f a).length=k)
  (V:∀ v g w',g=w.heap.size→Ext w w'→aT f k e w' g v [a]→K v w'):aw P (b6 t 1 #[(0,x)]) w K:=
 hN U hi (by omega) (cs:=x.cells) (v7 (by simp) (by rw[J];simpa using O)) fun g w' W X E=>by
  have E:aa w' g e (f a):=by rw[J] at E;simpa using E
  exact V _ g w' W X ⟨by simpa using bz.full (k:=k) (n:=1) E (by omega) (by simp[maxLen]),fun c Y=>by rw[p9.1 Y];exact O⟩
end
end Go.Vc
namespace Go.Proofs.YthjegppepbbojaaGreatDoor
open Go Go.Vc Go.RowKit Go.Proofs Go.Proofs.Tryz
set_option maxRecDepth 100000
theorem sD {α:Type}:∀ {l:List α} {j:Nat} {x:α},l[j]? =some x→(x::l.eraseIdx j).Perm l
 |[],j,x,h=>by simp at h
 |a::l,0,x,h=>by simp at h;subst h;exact List.Perm.refl _
 |a::l,j+1,x,h=>by
  simp at h;rw[List.eraseIdx_cons_succ];exact (List.Perm.swap a x _).trans ((sD h).cons a)
theorem xP {α:Type} {l:List α} (h:j<l.length):(l.eraseIdx j).length+1=l.length:=by
 rw[List.length_eraseIdx,if_pos h];omega
def mC (w:x1) (E:Nat):Nat:=match w.heap[E]? with
 |some (.mapIter (some m) _ seen _)=>(match w.heap[m]? with
  |some (.map J _)=>(leftOf J seen).size
  |_=>0)
 |_=>0
theorem qc {d left:List (y0×y0)} {J:Option (y0×y0)} (h:fO w E m d left J):mC w E=left.length:=by
 obtain⟨U,V,seen,W,h1,_,_,O,_,rfl,_⟩:=h;unfold mC;rw[O];simp only;rw[h1];simp
theorem FW {w0:x1} {d d0 left:List (y0×y0)} {J:Option (y0×y0)} (h:fO w E m d left J) (hm:cr w0 m d0) (h1:Ext w0 w) (V:Ext w0 w') (hi:dR w w'):fO w' E m d left J:=by
 obtain⟨W,c,s,X,Y,Z,aa,ab,ac⟩:=h;obtain⟨ad,ae,f1,_⟩:=hm;have O:=h1.aX m _ f1 rfl;have U:=V.aX m _ f1 rfl;rw[Y] at O;rw[←O] at U;exact⟨W,c,s,X,U,Z,aa,hi E _ ab rfl,ac⟩
abbrev lp (w:x1) (g:Nat) (v:y0) (L:List (List Int)):Prop:=aT (ints .i8) 6 bV w g v L
theorem xQ {k:o4}:∀ u∈ints k l,u.oneCell'=true:=fun u hu=>by
 obtain⟨x,_,rfl⟩:=o8.1 hu;rfl
set_option maxHeartbeats 800000 in
theorem keysIter {ad:Nat} {d:List (y0×y0)} {KS:List (List Int)} {w0:x1} (au:aa w0 ad gI [.map (some m)]) (hm:cr w0 m d) (ax:d.map (·.1)=KS.map dn) (ay:∀ ks∈KS,ks.length=6):
  lT x5 true jG [.pointer (some ⟨ad,0,none⟩)] ([]:List (List Int)) (fun h=>h.Perm KS) (fun h vs h' _=>∃ ks∈KS,h.length<KS.length∧vs=[dn ks]∧h'=h++[ks]) (fun w=>Ext w0 w):=by
 refine⟨jG.enters,fun l az a7 w U _ aA J aB=>?_⟩;refine ps func284 ?_;rw[av (by kernel_rfl) ((au.ext J).cell (o:=0) rfl)];refine aw.cD (xx gI.u (hm.ext J) fun ae a8 aC W ba aD aE=>?_);refine⟨fun V=>∃ h E left af,az h V∧Ext w0 V∧w.heap.size≤V.heap.size∧fO V ae m d left af∧left.map (·.1)=E.map dn∧(h++E).Perm KS,fun V=>mC V ae,
  ⟨[],KS,d,none,U _ _ _ W aE.b aB,J.trans W,W.size,aD,ax,List.Perm.refl _⟩,?_⟩
 rintro V ⟨h,E,left,af,ag,aF,bb,ah,X,O⟩;have aG:left.length=E.length:=by have:=congrArg V3 X;simpa using this
 refine xz ah (fun h=>by cases h) (fun aH=>?_) (fun j p aI ai aj aJ ak=>?_)
 ·rw[gJ (v:=.bool false) rfl,aR];subst aH;have:E=[]:=o9 (by rw[←aG];rfl);subst this;rw[Y8] at O;exact .inl ⟨h,O,ag⟩
 ·rw[gJ (v:=.bool true) rfl,bq];refine xA ak ?_;obtain⟨ks,Y,aK⟩:∃ ks,E[j]? =some ks∧p.1=dn ks:=by
   have h1:(left.map (·.1))[j]? =some p.1:=by rw[x7,ai];rfl
   rw[X,x7] at h1;obtain⟨ks,al,aL⟩:=Z2.1 h1;exact⟨ks,al,aL.symm⟩
  have am:ks∈KS:=O.mem_iff.1 (p8.2 (.inr (x2 Y)));have an:=ay ks am;rw[gJ (v:=p.1) rfl,aK];refine aw.cD (bg bV.i fun bc bd be aM aN aO=>?_);refine aw.cD (nR an rfl aN fun Z aP bf aQ aS=>?_);rw[ln an aQ.range];have ab:Ext aI Z:=aM.put aP (by omega);have ao:=aO.trans aS;have ap:Ext w0 Z:=(aF.trans aj).trans ab;have aT:=U _ _ _ aj (by rw[←aC];exact aJ) ag;have aU:=U _ _ _ ab ao.b aT;have aV:=ak.ext ab ao.j1;have aW:h.length<KS.length:=by
   have h1:=O.length_eq;have al:=(x3.1 Y).1;rw[u7] at h1;omega
  refine⟨rfl,(aA h (h++[ks]) _ Z ap ⟨ks,am,aW,rfl,rfl⟩ aU).mono ?_⟩;rintro _ aX (⟨rfl,aq,aY,aZ⟩|⟨rfl,a1⟩)
  ·simp only[bJ,Y0,aR];have ac:=FW aV hm ap aq (aZ rfl).j1;have a2:w.heap.size≤aX.heap.size:=by
    obtain⟨_,_,_,_,_,_,_,a6,_⟩:=ac;have:=(o7.1 a6).1;omega
   refine⟨⟨h++[ks],E.eraseIdx j,left.eraseIdx j,some p,aY,aq,a2,ac,?_,?_⟩,?_⟩
   ·rw[←ky,X,ky]
   ·refine List.Perm.trans ?_ O;rw[Y2];exact List.Perm.append_left h (sD Y)
   ·rw[qc ac,qc ah];have:=xP (x3.1 ai).1;omega
  ·simp only[bJ,Y9,bq];exact .inr ⟨h,a1⟩
theorem FX:ag x5 Du [.map (some m)] w fun r w'=>Ext w w'∧ ∃ g,r= .func (.func jG) #[] #[.pointer (some ⟨g,0,none⟩)]∧w.heap.size≤g∧aa w' g gI [.map (some m)]:=by
 refine ap func250 ?_;refine a7 fun g O U E J=>?_;rw[hM];exact⟨E,g,rfl,by omega,J⟩
set_option maxHeartbeats 800000 in
theorem FY {ai:Nat} {d:List (y0×y0)} {KS:List (List Int)} (aB:aa w ai gI [.map (some m)]) (hm:cr w m d) (aC:d.map (·.1)=KS.map dn) (aj:∀ ks∈KS,ks.length=6) (a2:KS.length≤1000000):
  ag x5 DO [.slice none 0 0,.func (.func jG) #[] #[.pointer (some ⟨ai,0,none⟩)]] w fun v w'=>Ext w w'∧ ∃ g L,(∀ r,leadsTo v r→w.heap.size≤r)∧L.Perm KS∧lp w' g v L:=by
 refine iV func295 ?_;refine a7 fun gs aD a6 ak X=>?_;have X:aa aD gs hn [.slice none 0 0]:=X;have a8:=X.lt;refine jz.old ⟨List (List Int),true,_,_,_,_,_,_,fun h w'=>ad (fun r=>w.heap.size≤r) w w'∧ ∃ v g,aa w' gs hn [v]∧(∀ r,leadsTo v r→w.heap.size≤r∧r≠gs)∧lp w' g v h,fun _ _ _=>False,rfl,keysIter aB hm aC aj,?_,fun _ _ J h=>h.trans J,
  fun _ _ _ J h=>⟨h.1.trans (J.U _),by obtain⟨v,g,h1,aE,aF⟩:=h.2;exact⟨v,g,h1.ext J,aE,aF.ext J⟩⟩,fun _ _ _ _ _ h=>h,ak,⟨ak.U _,_,0,X,fun r h=>(ds h).elim,aT.nil _ _ _ _ _⟩,?_,?_,fun _ _ h=>h.elim,fun _ _ _ h=>h.elim⟩
 ·rintro h _ h' w' ⟨ks,_,_,rfl,_⟩;rfl
 ·rintro a h h' V aG ⟨ks,aH,ba,aI,rfl⟩ ⟨al,v,g,ab,O,ac⟩;cases aI;have ae:=aj ks aH;have bb:h.length≤1000000:=by omega
  refine aw.cD (bg bV.i fun bc bd be aJ am aK=>?_);refine aw.cD (nR ae rfl am fun aL aM bf aN aO=>?_);intro bh an _ aP;have bi:=am.lt;have aQ:Ext V aL:=aJ.put aM (by omega);have W:=aQ.trans an;rw[av (by kernel_rfl) ((ab.ext W).cell (o:=0) rfl),ln ae (aN.ext an).range];refine aw.cD (eQ (f:=ints .i8) (a:=ks) hn.u bV.i (by omega) (by simp[dn,y0.cells]) (by simp[ae]) fun a bj bk bl Y aR aS=>?_);have ao:=aR.sl;rw[V1,List.flatMap_nil,Y8] at ao;refine aw.cD (FV hn.u bV.i rfl ((ac.ext W).ext Y) ao (fun a=>xQ) (by omega) (by omega) fun ap aU aq af aV Z aW=>?_);have bm:=al.size;have bn:=W.size;have bo:=Y.size;have bp:=ab.lt;have au:∀ r,leadsTo ap r→w.heap.size≤r∧r≠gs:=fun r E=>by
   rcases aV r E with h|h
   ·exact O r h
   ·omega
  have ah:aa aq gs hn [v]:=((ab.ext W).ext Y).U Z (fun h=>(O gs h).2 rfl);refine aw.cD (aY hn.i (by obtain⟨_,_,_,_,_,rfl,_⟩:=af.sl;rfl) (by obtain⟨_,_,_,_,_,rfl,_⟩:=af.sl;rfl) ah (by simp) fun ax ay bq aX aZ=>?_);have az:ad (fun r=>w.heap.size≤r) V ax:=(((W.trans Y).U _).trans (Z.mono fun r _ h=>(O r h).1)).trans (ay.mono fun r _ h=>by show w.heap.size≤r;omega);refine⟨aG.then az (fun r E h=>by have h:w.heap.size≤r:=h;omega),⟨al.trans az,ap,aU,aX,au,af.U ay fun r E h=>(au r E).2 h⟩,fun _=>?_⟩;exact ((((aK.j1.trans aO.j1).trans aP).trans aS.j1).trans aW.j1).trans aZ.j1
 ·rintro h aq a1 ⟨Z,v,g,ah,O,ac⟩;rw[av (by kernel_rfl) (ah.cell (o:=0) rfl)];intro ax aA _;exact⟨(Z.ext fun r E h=>by have:w.heap.size≤r:=h;omega).trans aA,g,h,fun r E=>(O r E).1,a1,ac.ext aA⟩
theorem FZ {d:List (y0×y0)} {KS:List (List Int)} (J:aa w E gI [.map (some m)]) (hm:cr w m d) (O:d.map (·.1)=KS.map dn) (U:∀ ks∈KS,ks.length=6) (V:KS.length≤1000000):
  ag x5 DH [.func (.func jG) #[] #[.pointer (some ⟨E,0,none⟩)]] w fun v w'=>Ext w w'∧ ∃ g L,(∀ r,leadsTo v r→w.heap.size≤r)∧L.Perm KS∧lp w' g v L:=by
 refine ap func282 ?_;exact (FY J hm O U V).mono fun _ _ _ h=>h
def e8:List Int→Int
 |[]=>0
 |x::l=>x*32 ^ l.length+e8 l
theorem sE (n:Nat):(0:Int)<32 ^ n:=Int.pow_pos (by omega)
theorem qd:∀ (l:List Int),(∀ x∈l,0≤x∧x<32)→0≤e8 l∧e8 l<32 ^ l.length
 |[],_=>by simp[e8]
 |x::l,h=>by
  have O:=qd l fun y E=>h y (.tail _ E);have J:=h x (.head _);have U:=sE l.length;simp only[e8,n9];have e:(32:Int) ^ (l.length+1)=32*32 ^ l.length:=by rw[Int.pow_succ,Int.mul_comm]
  have h1:x*32 ^ l.length≤31*32 ^ l.length:=Int.mul_le_mul_of_nonneg_right (by omega) (by omega);have V:0≤x*32 ^ l.length:=Int.mul_nonneg J.1 (by omega);rw[e];omega
def gx:List Int→List Int→Int
 |x::a,y::b=>if x<y then-1 else if y<x then 1 else gx a b
 |_,_=>0
theorem xR:∀ (a b:List Int),a.length=b.length→(∀ x∈a,0≤x∧x<32)→(∀ x∈b,0≤x∧x<32)→(gx a b<0↔e8 a<e8 b)∧(e8 a=e8 b→a=b)
 |[],[],_,_,_=>by simp[gx]
 |[],_::_,h,_,_=>by simp at h
 |_::_,[],h,_,_=>by simp at h
 |x::a,y::b,h,X,Y=>by
  have O:a.length=b.length:=by simpa using h
  have U:∀ x∈a,0≤x∧x<32:=fun z E=>X z (.tail _ E);have V:∀ x∈b,0≤x∧x<32:=fun z E=>Y z (.tail _ E);have W:=xR a b O U V;have Z:=qd a U;have ab:=qd b V;have ac:=sE b.length;simp only[gx,e8];rw[O] at Z ⊢;have step:∀ u v:Int,u<v→u*32 ^ b.length+32 ^ b.length≤v*32 ^ b.length:=fun u v ad=>by
   have:=Int.mul_le_mul_of_nonneg_right (show u+1≤v by omega) (show (0:Int)≤32 ^ b.length by omega);rw[Int.add_mul,Int.one_mul] at this;exact this
  by_cases h1:x<y
  ·rw[if_pos h1];have:=step x y h1;exact⟨⟨fun _=>by omega,fun _=>by omega⟩,fun h=>by omega⟩
  ·rw[if_neg h1];by_cases J:y<x
   ·rw[if_pos J];have:=step y x J;exact⟨⟨fun h=>by omega,fun h=>by omega⟩,fun h=>by omega⟩
   ·rw[if_neg J];have aa:x=y:=by omega
    subst aa;exact⟨W.1.trans ⟨fun h=>by omega,fun h=>by omega⟩,fun h=>by rw[W.2 (by omega)]⟩
theorem sF:∀ {a b:List Int} {i:Nat},(∀ (j:Nat) (x y:Int),j<i→a[j]? =some x→b[j]? =some y→x=y)→i≤a.length→i≤b.length→gx a b=gx (a.drop i) (b.drop i)
 |_,_,0,_,_,_=>by simp
 |[],_,i+1,_,h,_=>by simp at h
 |_::_,[],i+1,_,_,h=>by simp at h
 |x::a,y::b,i+1,he,h1,E=>by
  have J:=he 0 x y (by omega) rfl rfl;subst J;simp only[gx,Int.lt_irrefl,if_false,List.drop_succ_cons];exact sF (fun j u v O hu ac=>he (j+1) u v (by omega) hu ac) (by simpa using h1) (by simpa using E)
theorem xS {x:Int}:ag x5 DN [.int .i8 x] w fun v w'=>v= .bool false∧Ext w w':=by
 refine ap func294 ?_;simp only[bj];exact⟨by simp,Ext.refl _⟩
theorem F0 {x:Int}:ag x5 DG [.int .i8 x,.int .i8 y] w fun v w'=>v= .int .i64 (if x<y then-1 else if y<x then 1 else 0)∧Ext w w':=by
 refine ap func281 ?_;refine xS.mono ?_;rintro _ U _ ⟨rfl,E⟩;refine xS.mono ?_;rintro _ V _ ⟨rfl,J⟩;simp only[aR,aC,br,af];exact⟨fun h=>⟨by rw[if_pos h],E.trans J⟩,fun h=>⟨fun O=>⟨by rw[if_neg h,if_pos O],E.trans J⟩,fun O=>⟨by rw[if_neg h,if_neg O],E.trans J⟩⟩⟩
theorem F1 {ad bv:y0} {b:List Int} (W:ay .i8 w ad a) (Y:ay .i8 w bv b) (aw:a.length=b.length):ag x5 Ds [ad,bv] w fun v w'=>v= .int .i64 (gx a b)∧Ext w w':=by
 refine ap func248 ?_;have ax:=W.le;rw[aK iU.u W];refine bO.range a.length (fun i _ Z=>Ext w Z∧ ∀ (j:Nat) (x y:Int),j<i→a[j]? =some x→b[j]? =some y→x=y) (by omega) ⟨Ext.refl _,fun j x y aj=>by omega⟩ ?_ ?_
 ·rintro i _ Z ak hi ⟨E,X⟩ al;simp only[aC,af];refine⟨fun _=>?_,fun h=>by omega⟩;obtain⟨x,J⟩:=aE (l:=a) hi;obtain⟨y,aa⟩:=aE (l:=b) (i:=i) (by omega);rw[a1 iU.u eN.i (by kernel_rfl) (W.ext E) J,aK iU.u (Y.ext E)];simp only[cn,af];refine⟨fun h=>by omega,fun _=>?_⟩;rw[a1 iU.u eN.i (by kernel_rfl) (Y.ext E) aa];refine F0.mono ?_;rintro _ V _ ⟨rfl,ae⟩;have O:gx a b=gx (a.drop i) (b.drop i):=sF X (by omega) (by omega);have am:a.drop i=x::a.drop (i+1):=by rw[Y1 hi,(x3.1 J).2]
  have an:b.drop i=y::b.drop (i+1):=by rw[Y1 (by omega),(x3.1 aa).2]
  rw[am,an] at O;simp only[gx] at O;simp only[bj,af,aB];refine⟨fun ah=>⟨?_,E.trans ae⟩,fun ao=>al _ _ ⟨E.trans ae,fun j aq au aj ab ac=>?_⟩⟩
  ·rw[O];by_cases h1:x<y
   ·rw[if_pos h1,if_pos h1]
   ·by_cases U:y<x
    ·rw[if_neg h1,if_pos U,if_neg h1,if_pos U]
    ·rw[if_neg h1,if_neg U] at ah;exact absurd rfl ah
  ·by_cases av:j=i
   ·subst av;rw[J] at ab;rw[aa] at ac;cases ab;cases ac;have ai:=Z6.1 ao;by_cases h1:x<y
    ·rw[if_pos h1] at ai;omega
    ·by_cases U:y<x
     ·rw[if_neg h1,if_pos U] at ai;omega
     ·omega
   ·exact X j aq au (by omega) ab ac
 ·rintro _ Z ak ⟨E,X⟩;simp only[aC,show decide ((a.length:Int)<(a.length:Int))=false from decide_eq_false (by omega),aR];rw[aK iU.u (W.ext E),aK iU.u (Y.ext E)];simp only[aC,af];refine⟨fun h=>by omega,fun _=>⟨?_,E⟩⟩;have O:gx a b=gx (a.drop a.length) (b.drop a.length):=sF X (by omega) (by omega);rw[O,List.drop_length];cases b.drop a.length <;> rfl
theorem F2 {b:List Int} (U:jd a) (W:jd b):ag x5 vD [dn a,dn b] w fun v w'=>Ext w w'∧v= .int .i64 (gx a b):=by
 have ae:∀ {c:List Int},jd c→(ints .i8 c).length=6:=fun h=>by simp[h.1]
 refine ap func247 ?_;refine a7 fun af ah ai ab E=>?_;refine a7 fun aj V ak X J=>?_;rw[xB] at E J;intro Y O _ _;have E:=(E.ext X).ext O;have J:=J.ext O;rw[px bV.u eN.i (l:=0) (h:=6) (m:=6) ho hp ea (by omega) (by omega) (by omega),px bV.u eN.i (l:=0) (h:=6) (m:=6) ho hp ea (by omega) (by omega) (by omega)];rw[if_neg (by omega),if_neg (by omega)];have ls:∀ {g:Nat} {c:List Int},jd c→aa Y g bV (ints .i8 c)→ay .i8 Y (.slice (some ⟨g,0+0*1,none⟩) (6-0) (6-0)) c:=fun {g c} Z ac=>by
  unfold ay;refine⟨by simp,g,0,_,6,by rw[Z.1],by rw[Z.1];omega,by simp[maxLen],fun _=>rfl,ac.range⟩
 refine (F1 (ls U E) (ls W J) (by rw[U.1,W.1])).mono ?_;rintro _ al _ ⟨rfl,ad⟩;exact⟨((ab.trans X).trans O).trans ad,rfl⟩
end Go.Proofs.YthjegppepbbojaaGreatDoor
namespace Go.Vc
open Go Go.RowKit Go.Shelf Go.Proofs Go.Sort
theorem grown_of (J:Ext w w') (E:cm w w'):∃ q os,w'=grow (w.drewN q) os:=by
 refine⟨w'.drawn-w.drawn,w'.heap.extract w.heap.size w'.heap.size,?_⟩;have O:∀ k,k<w.heap.size→w'.heap[k]? =w.heap[k]?:=fun k O=>by
  have U:w.heap[k]? =some w.heap[k]:=Array.getElem?_eq_getElem O;rw[U];cases V:eK w.heap[k] with
  |true=>exact J.aX k _ U V
  |false=>exact E.aX k _ U V
 have X:w'.heap=w.heap++w'.heap.extract w.heap.size w'.heap.size:=by
  apply Array.ext_getElem?;intro k;rw[Array.getElem?_append];by_cases h:k<w.heap.size
  ·rw[if_pos h,O k h]
  ·rw[if_neg h,Array.getElem?_extract];have:=J.size;by_cases W:k<w'.heap.size
   ·rw[if_pos (by omega)];congr 1;omega
   ·rw[if_neg (by omega),Array.getElem?_eq_none (by omega)]
 have h1:=E.os;have W:=E.tape.1;have Y:=E.output;have Z:w.drawn+(w'.drawn-w.drawn)=w'.drawn:=by have:=E.tape.2;omega
 cases w';simp only[grow,x1.drewN] at*;subst h1 W Y;rw[←X,Z]
section
variable {α:Type} [Inhabited α]
theorem xT (enc:α→List y0) (k:Nat) (E:∀ x,(enc x).length=k) (d:Array α):(flatK enc k d).toList=d.toList.flatMap enc:=by
 apply Y7;intro t;by_cases h:t<d.size*k
 ·have O:0<k:=by
   rcases Nat.eq_zero_or_pos k with J|J
   ·rw[J] at h;simp at h
   ·exact J
  have U:t / k<d.size:=(Nat.div_lt_iff_lt_mul O).2 h;have V:=Nat.mod_lt t O;have W:(flatK enc k d).toList[t]? =some ((enc d[t / k]!)[t % k]!):=by
   rw[U5,Array.getElem?_eq_getElem (by simpa using h)];have:=get_flatK enc k d t h;rw[getElem!_pos _ t (by simpa using h)] at this;rw[this]
  have X:d.toList[t / k]? =some d[t / k]!:=by
   rw[U5,Array.getElem?_eq_getElem U,getElem!_pos d _ U]
  have ac:(enc d[t / k]!)[t % k]? =some ((enc d[t / k]!)[t % k]!):=by
   generalize d[t / k]! =z;rw[x4 (by rw[E];exact V),getElem!_pos (enc z) _ (by rw[E];exact V)]
  have:=qb (f:=enc) (k:=k) (fun a _=>E a) X ac;rw[W,←this];congr 1;rw[Nat.mul_comm];exact Nat.div_add_mod t k
 ·rw[c8 (by simpa using h),c8];rw[fZ (k:=k) fun a _=>E a];simpa using h
theorem xU (enc:α→List y0) (k:Nat) (V:∀ x,(enc x).length=k) {g:Nat} {d:Array α} {os:Array Obj} (J:aa w g e cs) (Z:d.size*k≤cs.length):
  aa (sortWorldK enc k w g 0 m d os) g e (d.toList.flatMap enc++cs.drop (d.size*k))∧ ∀ r,r<w.heap.size→r≠g→(sortWorldK enc k w g 0 m d os).heap[r]? =w.heap[r]?:=by
 have X:=J.lt;have W:∀ r,r<w.heap.size→(sortWorldK enc k w g 0 m d os).heap[r]? =(w.heap.modify g (onCells (putCells id 0 (flatK enc k d))))[r]?:=fun r O=>by
  show ((w.heap.modify g (onCells (putCells id 0 (flatK enc k d))))++os)[r]? =_;rw[Array.getElem?_append_left (by simpa using O)]
 refine⟨?_,fun r O Y=>?_⟩
 ·unfold aa at J ⊢;rw[W g X,Array.getElem?_modify,if_pos rfl,J];show some (Obj.cells (putCells id 0 (flatK enc k d) cs.toArray) e (0,0))=_;refine congrArg some (congrArg (fun c=>Obj.cells c e (0,0)) ?_);apply Array.ext';apply Y7;intro t;show _=(d.toList.flatMap enc++cs.drop (d.size*k))[t]?;rw[List.getElem?_append,fZ (k:=k) fun a _=>V a,U5];unfold putCells;rw[Array.getElem?_mapIdx,List.getElem?_toArray];have U:d.toList.length=d.size:=rfl;by_cases E:t<d.size*k
  ·rw[if_pos (by rw[U];exact E),x4 (by omega),←xT enc k V,U5,Array.getElem?_eq_getElem (by simpa using E)];simp only[c5,id];rw[if_pos (by simpa using E),Nat.sub_zero,getElem!_pos _ t (by simpa using E)]
  ·rw[if_neg (by rw[U];exact E),List.getElem?_drop,U,show d.size*k+(t-d.size*k)=t by omega];cases ab:cs[t]? with
   |none=>rfl
   |some x=>
    simp only[c5];rw[if_neg (by simp;omega)]
 ·rw[W r O,Array.getElem?_modify,if_neg (Ne.symm Y)]
end
theorem sG {P:Y3} {V:Ren} (am:SlLaysF0.n6 P V) {α:Type} {f:α→List y0} {k:Nat} {G:α→Prop} {num:α→Int} {cf:α→α→Int} {W:FuncId} {cap:Array y0}
  (aP:∀ w,(isAgg (V.t 24)).run P w= .ok true w) (aQ:∀ w,(Go.sizeOf (V.t 24)).run P w= .ok k w) (h1:∀ a,G a→ ∀ u∈f a,u.oneCell'=true) (an:∀ a,G a→(f a).length=k)
  (aR:∀ a b,G a→G b→(cf a b<0↔num a<num b)) (az:Enters P W) {w:x1} {g:Nat} {v:y0} {L:List α} (h:aT f k e w g v L) (Y:∀ a∈L,G a) (aA:L.length<65536)
  (aS:∀ ao a b,ad (fun r=>r=g) w ao→G a→G b→ag P W ([.agg (f a).toArray,.agg (f b).toArray]++cap.toList) ao fun u aU=>Ext ao aU∧u= .int .i64 (cf a b)):
  ag P (V.f 6) [v,.func (.func W) #[] cap] w fun _ w'=>ad (fun r=>leadsTo v r) w w'∧ ∃ M,M.Perm L∧(∀ (p q:Nat) (x y:α),p<q→M[p]? =some x→M[q]? =some y→num x≤num y)∧aT f k e w' g v M:=by
 have aB:Enters P (V.f 6):=fun args w=>am.f6.enters rfl args w;obtain⟨⟨bh,ac⟩,bi⟩:=id h;have aC:∀ p c,v= .slice p 0 c→L=[]→ag P (V.f 6) [v,.func (.func W) #[] cap] w fun _ w'=>ad (fun r=>leadsTo v r) w w'∧ ∃ M,M.Perm L∧(∀ (p q:Nat) (x y:α),p<q→M[p]? =some x→M[q]? =some y→num x≤num y)∧aT f k e w' g v M:=fun p c Z aA=>by
  refine .code aB ?_;rw[Z];refine (AnyF.slices_SortFunc_none am p c _ w).mono ?_;rintro bj w' ⟨rfl,rfl⟩;refine⟨_,rfl,cm.refl _,ad.refl _ _,L,.refl _,fun p q x y _ J=>by rw[aA] at J;simp at J,by rw[←Z];exact h⟩
 rcases ac with⟨rfl,aV⟩|⟨c,cs,rfl,U,aD,hm,ap,aW⟩
 ·exact aC _ _ rfl (o9 aV)
 cases aq:L with
 |nil=>subst aq;exact aC _ _ rfl rfl
 |cons a0 bk=>
 rw[←aq];let β:={a:α // G a};have:Inhabited β:=⟨⟨a0,Y a0 (by rw[aq];exact .head _)⟩⟩;let enc:β→List y0:=fun x=>f x.1;let d:Array β:=(L.attach.map fun x=>(⟨x.1,Y x.1 x.2⟩:β)).toArray;have aE:d.toList.map Subtype.val=L:=by
  show (L.attach.map fun x=>(⟨x.1,Y x.1 x.2⟩:β)).map Subtype.val=L;rw[List.map_map];exact List.attach_map_subtype_val L
 have ah:d.size=L.length:=by simp[d]
 have X:∀ x:β,(enc x).length=k:=fun x=>an x.1 x.2;have aX:d.toList.flatMap enc=L.flatMap f:=by
  have ab:=congrArg (fun l=>l.flatMap f) aE;rw[←ab];exact (List.flatMap_map Subtype.val f d.toList).symm
 have ai:d.size*k≤cs.length:=by rw[ah,ap];exact X2 k aD
 have aY:HoldsK enc k w g 0 d:=by
  intro j aj;rw[size_flatK] at aj;have aF:j<cs.length:=by omega
  have au:(flatK enc k d)[j]! =cs[j]:=by
   have ab:(flatK enc k d).toList[j]? =some cs[j]:=by
    rw[xT enc k X,aX,←aW,c7 (by rw[←ah];exact aj),x4 aF]
   rw[U5] at ab;rw[getElem!_pos _ j (by simpa using aj)];rw[Array.getElem?_eq_getElem (by simpa using aj)] at ab;exact b9 ab
  refine⟨?_,?_⟩
  ·show w.cell? ⟨g,0+j,none⟩=some ((flatK enc k d)[j]!);rw[au];exact U.cell (o:=0+j) (by rw[V0];exact x4 aF)
  ·unfold x1.frozen?;unfold aa at U;rw[U];simp
 have ak:∀ x y:β,ltOf (fun x y:β=>cf x.1 y.1) x y=decide (num x.1<num y.1):=fun x y=>by
  unfold ltOf;exact decide_eq_decide.2 (aR x.1 y.1 x.2 y.2)
 have aZ:SWO (ltOf fun x y:β=>cf x.1 y.1):=
  ⟨fun x=>by rw[ak];simp,fun x y z p q=>by rw[ak] at*;simp at*;omega,fun x y z p q=>by rw[ak] at*;simp at*;omega⟩
 have aG:∀ m (d2:Array β) os,d2.size=d.size→ad (fun r=>r=g) w (sortWorldK enc k w g 0 m d2 os)∧cm w (sortWorldK enc k w g 0 m d2 os):=fun m d2 os ae=>by
  obtain⟨bl,aH⟩:=xU enc k X (m:=m) (os:=os) U (d:=d2) (by rw[ae];exact ai);have aI:w.heap.size≤(sortWorldK enc k w g 0 m d2 os).heap.size:=by
   show w.heap.size≤((w.heap.modify g _)++os).size;simp
  refine⟨⟨aI,fun r o O _ av=>?_⟩,rfl,⟨rfl,Nat.le_add_right _ _⟩,rfl,aI,fun r o O ae=>?_⟩
  ·rw[aH r (o7.1 O).1 av];exact O
  ·have av:r≠g:=fun he=>by subst he;unfold aa at U;rw[U] at O;cases O;cases ae
   rw[aH r (o7.1 O).1 av];exact O
 have a1:CmpLays P W cap enc k (fun x y:β=>cf x.1 y.1) g 0 d.size w:=fun m os a2 ae x y=>by
  have J:=(aS _ x.1 y.1 (aG m a2 os ae).1 x.2 y.2).calls az;have af:([y0.agg (f x.1).toArray,.agg (f y.1).toArray]++cap.toList).toArray= #[.agg (enc x).toArray,.agg (enc y).toArray]++cap:=by
   apply Array.ext';simp[enc]
  rw[af] at J;refine J.mono ?_;rintro _ w' ⟨_,rfl,a6,a7,rfl⟩;exact⟨rfl,grown_of a7 a6⟩
 have aJ:=AnyQ.slices_SortFunc am k aP aQ enc X (fun x=>h1 x.1 x.2) (fun x y:β=>cf x.1 y.1) aZ W cap g 0 c d w (fun args w=>az args w) a1 aY U.lt (by rw[ah];omega);rw[ah] at aJ;refine .code aB (aJ.mono ?_);rintro _ w' ⟨rfl,E,n,os,⟨a8,_,Z⟩,ba,rfl⟩;have aw:E.size=d.size:=a8;obtain⟨bb,bc⟩:=aG n E os aw;obtain⟨bd,_⟩:=xU enc k X (m:=n) (os:=os) U (d:=E) (by rw[aw];exact ai);have al:(E.toList.map Subtype.val).Perm L:=by
  have au:(E.extract 0 L.length).toList=E.toList:=by rw[show L.length=E.size by omega,Array.extract_size]
  have be:(d.extract 0 L.length).toList=d.toList:=by rw[show L.length=d.size by omega,Array.extract_size]
  rw[au,be] at Z;rw[←aE];exact Z.map _
 have aK:=al.length_eq;refine⟨_,rfl,bc,bb.mono fun r _ O=>⟨_,_,_,rfl,O.symm⟩,E.toList.map Subtype.val,al,fun p q x y bf J aL=>?_,⟨?_,.inr ⟨c,_,by rw[aK],bd,by rw[aK];exact aD,hm,?_,?_⟩⟩,fun a af=>an a (Y a (al.mem_iff.1 af))⟩
 ·rw[x7,Z2] at J aL;obtain⟨bm,aM,rfl⟩:=J;obtain⟨bn,aN,rfl⟩:=aL;rw[U5] at aM aN;have aO:=(o7.1 aM);have ax:=(o7.1 aN);have:=ba p q (Z5 _) bf (by have:=ax.1;omega);rw[getElem!_pos E p aO.1,getElem!_pos E q ax.1,aO.2,ax.2,ak] at this;simpa using this
 ·rw[fZ (k:=k) fun a af=>an a (Y a (al.mem_iff.1 af))]
 ·have ay:(E.toList.flatMap enc).length=E.size*k:=by rw[fZ (k:=k) fun a _=>X a];rfl
  rw[u7,ay,List.length_drop,aw,ap];rw[ap] at ai;exact Nat.add_sub_cancel' ai
 ·have ay:(E.toList.flatMap enc).length=E.size*k:=by rw[fZ (k:=k) fun a _=>X a];rfl
  have bg:(List.map Subtype.val E.toList).length*k=(E.toList.flatMap enc).length:=by rw[ay,r8];rfl
  rw[bg,List.take_left,List.flatMap_map]
end Go.Vc
namespace Go.Proofs
open Go.Shelf
def Tryz.sH:Go.Shelf.Ren:=⟨fun|6=>283|15=>123|14=>296|28=>211|29=>212|20=>311|21=>312|22=>313|23=>314|24=>315|25=>316|26=>317|27=>318|46=>326|47=>256|48=>257|49=>327|50=>328|57=>331|n=>n,fun|22=>354|24=>336|25=>353|3=>3|39=>225|0=>0|53=>325|55=>92|4=>4|46=>318|45=>317|50=>322|5=>5|9=>9|66=>360|70=>364|76=>389|77=>390|n=>n,fun|n=>n⟩
theorem Tryz.F3:Go.Proofs.SlLaysF0.n6 Tryz.prog Tryz.sH:={
 mixed:=by kernel_rfl,
 f6:=⟨Tryz.f283.name,by decide,Tryz.func283.trans (congrArg some (by kernel_rfl))⟩,
 f14:=⟨Tryz.f296.name,by decide,Tryz.func296.trans (congrArg some (by kernel_rfl))⟩,
 f15:=Tryz.func123.trans (congrArg some (by kernel_rfl)),
 f20:=⟨Tryz.f311.name,by decide,Tryz.func311.trans (congrArg some (by kernel_rfl))⟩,
 f21:=⟨Tryz.f312.name,by decide,Tryz.func312.trans (congrArg some (by kernel_rfl))⟩,
 f22:=⟨Tryz.f313.name,by decide,Tryz.func313.trans (congrArg some (by kernel_rfl))⟩,
 f23:=⟨Tryz.f314.name,by decide,Tryz.func314.trans (congrArg some (by kernel_rfl))⟩,
 f24:=⟨Tryz.f315.name,by decide,Tryz.func315.trans (congrArg some (by kernel_rfl))⟩,
 f25:=⟨Tryz.f316.name,by decide,Tryz.func316.trans (congrArg some (by kernel_rfl))⟩,
 f26:=⟨Tryz.f317.name,by decide,Tryz.func317.trans (congrArg some (by kernel_rfl))⟩,
 f27:=⟨Tryz.f318.name,by decide,Tryz.func318.trans (congrArg some (by kernel_rfl))⟩,
 f28:=Tryz.func211.trans (congrArg some (by kernel_rfl)),
 f29:=Tryz.func212.trans (congrArg some (by kernel_rfl)),
 f46:=⟨Tryz.f326.name,by decide,Tryz.func326.trans (congrArg some (by kernel_rfl))⟩,
 f47:=Tryz.func256.trans (congrArg some (by kernel_rfl)),
 f48:=Tryz.func257.trans (congrArg some (by kernel_rfl)),
 f49:=⟨Tryz.f327.name,by decide,Tryz.func327.trans (congrArg some (by kernel_rfl))⟩,
 f50:=⟨Tryz.f328.name,by decide,Tryz.func328.trans (congrArg some (by kernel_rfl))⟩,
 f57:=⟨Tryz.f331.name,by decide,Tryz.func331.trans (congrArg some (by kernel_rfl))⟩,
 t0:=Tryz.underlying0,
 a0:=Tryz.isAgg0,
 z0:=Tryz.sizeOf0,
 v0:=Tryz.zeroValue0,
 t3:=Tryz.underlying3,
 a3:=Tryz.isAgg3,
 z3:=Tryz.sizeOf3,
 v3:=Tryz.zeroValue3,
 t4:=Tryz.underlying4,
 a4:=Tryz.isAgg4,
 z4:=Tryz.sizeOf4,
 v4:=Tryz.zeroValue4,
 t5:=Tryz.underlying5,
 a5:=Tryz.isAgg5,
 z5:=Tryz.sizeOf5,
 v5:=Tryz.zeroValue5,
 t9:=Tryz.underlying9,
 a9:=Tryz.isAgg9,
 z9:=Tryz.sizeOf9,
 v9:=Tryz.zeroValue9,
 t22:=Tryz.underlying354,
 a22:=Tryz.isAgg354,
 z22:=Tryz.sizeOf354,
 v22:=Tryz.zeroValue354,
 t25:=Tryz.underlying353,
 a25:=Tryz.isAgg353,
 z25:=Tryz.sizeOf353,
 v25:=Tryz.zeroValue353,
 t39:=Tryz.underlying225,
 a39:=Tryz.isAgg225,
 z39:=Tryz.sizeOf225,
 v39:=Tryz.zeroValue225,
 t45:=Tryz.underlying317,
 a45:=Tryz.isAgg317,
 z45:=Tryz.sizeOf317,
 v45:=Tryz.zeroValue317,
 t46:=Tryz.underlying318,
 a46:=Tryz.isAgg318,
 z46:=Tryz.sizeOf318,
 v46:=Tryz.zeroValue318,
 t50:=Tryz.underlying322,
 a50:=Tryz.isAgg322,
 z50:=Tryz.sizeOf322,
 v50:=Tryz.zeroValue322,
 t53:=Tryz.underlying325,
 a53:=Tryz.isAgg325,
 z53:=Tryz.sizeOf325,
 v53:=Tryz.zeroValue325,
 t55:=Tryz.underlying92,
 a55:=Tryz.isAgg92,
 z55:=Tryz.sizeOf92,
 v55:=Tryz.zeroValue92,
 t66:=Tryz.underlying360,
 a66:=Tryz.isAgg360,
 z66:=Tryz.sizeOf360,
 v66:=Tryz.zeroValue360,
 t70:=Tryz.underlying364,
 a70:=Tryz.isAgg364,
 z70:=Tryz.sizeOf364,
 v70:=Tryz.zeroValue364,
 t76:=Tryz.underlying389,
 a76:=Tryz.isAgg389,
 z76:=Tryz.sizeOf389,
 v76:=Tryz.zeroValue389,
 t77:=Tryz.underlying390,
 a77:=Tryz.isAgg390,
 z77:=Tryz.sizeOf390,
 v77:=Tryz.zeroValue390}
def Tryz.sI:Go.Shelf.Ren:=⟨fun|6=>182|15=>123|14=>245|28=>211|29=>212|20=>272|21=>273|22=>274|23=>275|24=>276|25=>277|26=>278|27=>279|46=>291|47=>256|48=>257|49=>292|50=>293|57=>310|n=>n,fun|22=>283|24=>288|25=>295|3=>3|39=>225|0=>0|53=>325|55=>92|4=>4|46=>318|45=>317|50=>322|5=>5|9=>9|66=>360|70=>364|76=>389|77=>390|n=>n,fun|n=>n⟩
theorem Tryz.F4:Go.Proofs.SlLaysF0.n6 Tryz.prog Tryz.sI:={
 mixed:=by kernel_rfl,
 f6:=⟨Tryz.f182.name,by decide,Tryz.func182.trans (congrArg some (by kernel_rfl))⟩,
 f14:=⟨Tryz.f245.name,by decide,Tryz.func245.trans (congrArg some (by kernel_rfl))⟩,
 f15:=Tryz.func123.trans (congrArg some (by kernel_rfl)),
 f20:=⟨Tryz.f272.name,by decide,Tryz.func272.trans (congrArg some (by kernel_rfl))⟩,
 f21:=⟨Tryz.f273.name,by decide,Tryz.func273.trans (congrArg some (by kernel_rfl))⟩,
 f22:=⟨Tryz.f274.name,by decide,Tryz.func274.trans (congrArg some (by kernel_rfl))⟩,
 f23:=⟨Tryz.f275.name,by decide,Tryz.func275.trans (congrArg some (by kernel_rfl))⟩,
 f24:=⟨Tryz.f276.name,by decide,Tryz.func276.trans (congrArg some (by kernel_rfl))⟩,
 f25:=⟨Tryz.f277.name,by decide,Tryz.func277.trans (congrArg some (by kernel_rfl))⟩,
 f26:=⟨Tryz.f278.name,by decide,Tryz.func278.trans (congrArg some (by kernel_rfl))⟩,
 f27:=⟨Tryz.f279.name,by decide,Tryz.func279.trans (congrArg some (by kernel_rfl))⟩,
 f28:=Tryz.func211.trans (congrArg some (by kernel_rfl)),
 f29:=Tryz.func212.trans (congrArg some (by kernel_rfl)),
 f46:=⟨Tryz.f291.name,by decide,Tryz.func291.trans (congrArg some (by kernel_rfl))⟩,
 f47:=Tryz.func256.trans (congrArg some (by kernel_rfl)),
 f48:=Tryz.func257.trans (congrArg some (by kernel_rfl)),
 f49:=⟨Tryz.f292.name,by decide,Tryz.func292.trans (congrArg some (by kernel_rfl))⟩,
 f50:=⟨Tryz.f293.name,by decide,Tryz.func293.trans (congrArg some (by kernel_rfl))⟩,
 f57:=⟨Tryz.f310.name,by decide,Tryz.func310.trans (congrArg some (by kernel_rfl))⟩,
 t0:=Tryz.underlying0,
 a0:=Tryz.isAgg0,
 z0:=Tryz.sizeOf0,
 v0:=Tryz.zeroValue0,
 t3:=Tryz.underlying3,
 a3:=Tryz.isAgg3,
 z3:=Tryz.sizeOf3,
 v3:=Tryz.zeroValue3,
 t4:=Tryz.underlying4,
 a4:=Tryz.isAgg4,
 z4:=Tryz.sizeOf4,
 v4:=Tryz.zeroValue4,
 t5:=Tryz.underlying5,
 a5:=Tryz.isAgg5,
 z5:=Tryz.sizeOf5,
 v5:=Tryz.zeroValue5,
 t9:=Tryz.underlying9,
 a9:=Tryz.isAgg9,
 z9:=Tryz.sizeOf9,
 v9:=Tryz.zeroValue9,
 t22:=Tryz.underlying283,
 a22:=Tryz.isAgg283,
 z22:=Tryz.sizeOf283,
 v22:=Tryz.zeroValue283,
 t25:=Tryz.underlying295,
 a25:=Tryz.isAgg295,
 z25:=Tryz.sizeOf295,
 v25:=Tryz.zeroValue295,
 t39:=Tryz.underlying225,
 a39:=Tryz.isAgg225,
 z39:=Tryz.sizeOf225,
 v39:=Tryz.zeroValue225,
 t45:=Tryz.underlying317,
 a45:=Tryz.isAgg317,
 z45:=Tryz.sizeOf317,
 v45:=Tryz.zeroValue317,
 t46:=Tryz.underlying318,
 a46:=Tryz.isAgg318,
 z46:=Tryz.sizeOf318,
 v46:=Tryz.zeroValue318,
 t50:=Tryz.underlying322,
 a50:=Tryz.isAgg322,
 z50:=Tryz.sizeOf322,
 v50:=Tryz.zeroValue322,
 t53:=Tryz.underlying325,
 a53:=Tryz.isAgg325,
 z53:=Tryz.sizeOf325,
 v53:=Tryz.zeroValue325,
 t55:=Tryz.underlying92,
 a55:=Tryz.isAgg92,
 z55:=Tryz.sizeOf92,
 v55:=Tryz.zeroValue92,
 t66:=Tryz.underlying360,
 a66:=Tryz.isAgg360,
 z66:=Tryz.sizeOf360,
 v66:=Tryz.zeroValue360,
 t70:=Tryz.underlying364,
 a70:=Tryz.isAgg364,
 z70:=Tryz.sizeOf364,
 v70:=Tryz.zeroValue364,
 t76:=Tryz.underlying389,
 a76:=Tryz.isAgg389,
 z76:=Tryz.sizeOf389,
 v76:=Tryz.zeroValue389,
 t77:=Tryz.underlying390,
 a77:=Tryz.isAgg390,
 z77:=Tryz.sizeOf390,
 v77:=Tryz.zeroValue390}
def Tryz.sJ:Go.Shelf.Ren:=⟨fun|6=>33|15=>123|14=>122|28=>211|29=>212|20=>203|21=>204|22=>205|23=>206|24=>207|25=>208|26=>209|27=>210|46=>255|47=>256|48=>257|49=>258|50=>259|57=>286|n=>n,fun|22=>39|24=>64|25=>87|3=>3|39=>225|0=>0|53=>325|55=>92|4=>4|46=>318|45=>317|50=>322|5=>5|9=>9|66=>360|70=>364|76=>389|77=>390|n=>n,fun|n=>n⟩
theorem Tryz.F5:Go.Proofs.SlLaysF0.n6 Tryz.prog Tryz.sJ:={
 mixed:=by kernel_rfl,
 f6:=⟨Tryz.f33.name,by decide,Tryz.func33.trans (congrArg some (by kernel_rfl))⟩,
 f14:=⟨Tryz.f122.name,by decide,Tryz.func122.trans (congrArg some (by kernel_rfl))⟩,
 f15:=Tryz.func123.trans (congrArg some (by kernel_rfl)),
 f20:=⟨Tryz.f203.name,by decide,Tryz.func203.trans (congrArg some (by kernel_rfl))⟩,
 f21:=⟨Tryz.f204.name,by decide,Tryz.func204.trans (congrArg some (by kernel_rfl))⟩,
 f22:=⟨Tryz.f205.name,by decide,Tryz.func205.trans (congrArg some (by kernel_rfl))⟩,
 f23:=⟨Tryz.f206.name,by decide,Tryz.func206.trans (congrArg some (by kernel_rfl))⟩,
 f24:=⟨Tryz.f207.name,by decide,Tryz.func207.trans (congrArg some (by kernel_rfl))⟩,
 f25:=⟨Tryz.f208.name,by decide,Tryz.func208.trans (congrArg some (by kernel_rfl))⟩,
 f26:=⟨Tryz.f209.name,by decide,Tryz.func209.trans (congrArg some (by kernel_rfl))⟩,
 f27:=⟨Tryz.f210.name,by decide,Tryz.func210.trans (congrArg some (by kernel_rfl))⟩,
 f28:=Tryz.func211.trans (congrArg some (by kernel_rfl)),
 f29:=Tryz.func212.trans (congrArg some (by kernel_rfl)),
 f46:=⟨Tryz.f255.name,by decide,Tryz.func255.trans (congrArg some (by kernel_rfl))⟩,
 f47:=Tryz.func256.trans (congrArg some (by kernel_rfl)),
 f48:=Tryz.func257.trans (congrArg some (by kernel_rfl)),
 f49:=⟨Tryz.f258.name,by decide,Tryz.func258.trans (congrArg some (by kernel_rfl))⟩,
 f50:=⟨Tryz.f259.name,by decide,Tryz.func259.trans (congrArg some (by kernel_rfl))⟩,
 f57:=⟨Tryz.f286.name,by decide,Tryz.func286.trans (congrArg some (by kernel_rfl))⟩,
 t0:=Tryz.underlying0,
 a0:=Tryz.isAgg0,
 z0:=Tryz.sizeOf0,
 v0:=Tryz.zeroValue0,
 t3:=Tryz.underlying3,
 a3:=Tryz.isAgg3,
 z3:=Tryz.sizeOf3,
 v3:=Tryz.zeroValue3,
 t4:=Tryz.underlying4,
 a4:=Tryz.isAgg4,
 z4:=Tryz.sizeOf4,
 v4:=Tryz.zeroValue4,
 t5:=Tryz.underlying5,
 a5:=Tryz.isAgg5,
 z5:=Tryz.sizeOf5,
 v5:=Tryz.zeroValue5,
 t9:=Tryz.underlying9,
 a9:=Tryz.isAgg9,
 z9:=Tryz.sizeOf9,
 v9:=Tryz.zeroValue9,
 t22:=Tryz.underlying39,
 a22:=Tryz.isAgg39,
 z22:=Tryz.sizeOf39,
 v22:=Tryz.zeroValue39,
 t25:=Tryz.underlying87,
 a25:=Tryz.isAgg87,
 z25:=Tryz.sizeOf87,
 v25:=Tryz.zeroValue87,
 t39:=Tryz.underlying225,
 a39:=Tryz.isAgg225,
 z39:=Tryz.sizeOf225,
 v39:=Tryz.zeroValue225,
 t45:=Tryz.underlying317,
 a45:=Tryz.isAgg317,
 z45:=Tryz.sizeOf317,
 v45:=Tryz.zeroValue317,
 t46:=Tryz.underlying318,
 a46:=Tryz.isAgg318,
 z46:=Tryz.sizeOf318,
 v46:=Tryz.zeroValue318,
 t50:=Tryz.underlying322,
 a50:=Tryz.isAgg322,
 z50:=Tryz.sizeOf322,
 v50:=Tryz.zeroValue322,
 t53:=Tryz.underlying325,
 a53:=Tryz.isAgg325,
 z53:=Tryz.sizeOf325,
 v53:=Tryz.zeroValue325,
 t55:=Tryz.underlying92,
 a55:=Tryz.isAgg92,
 z55:=Tryz.sizeOf92,
 v55:=Tryz.zeroValue92,
 t66:=Tryz.underlying360,
 a66:=Tryz.isAgg360,
 z66:=Tryz.sizeOf360,
 v66:=Tryz.zeroValue360,
 t70:=Tryz.underlying364,
 a70:=Tryz.isAgg364,
 z70:=Tryz.sizeOf364,
 v70:=Tryz.zeroValue364,
 t76:=Tryz.underlying389,
 a76:=Tryz.isAgg389,
 z76:=Tryz.sizeOf389,
 v76:=Tryz.zeroValue389,
 t77:=Tryz.underlying390,
 a77:=Tryz.isAgg390,
 z77:=Tryz.sizeOf390,
 v77:=Tryz.zeroValue390}
theorem Tryz.F6 (w:x1):(isAgg (Tryz.sH.t 24)).run Tryz.prog w= .ok true w:=Tryz.isAgg336 w
theorem Tryz.F7 (w:x1):(Go.sizeOf (Tryz.sH.t 24)).run Tryz.prog w= .ok 6 w:=Tryz.sizeOf336 w
theorem Tryz.F8:Tryz.prog.funcs[247]? =some Tryz.f247:=Tryz.func247
theorem Tryz.F9 (w:x1):(isAgg (Tryz.sI.t 24)).run Tryz.prog w= .ok true w:=Tryz.isAgg288 w
theorem Tryz.Ga (w:x1):(Go.sizeOf (Tryz.sI.t 24)).run Tryz.prog w= .ok 2 w:=Tryz.sizeOf288 w
theorem Tryz.Gb:Tryz.prog.funcs[183]? =some Tryz.f183:=Tryz.func183
theorem Tryz.Gc (w:x1):(isAgg (Tryz.sJ.t 24)).run Tryz.prog w= .ok true w:=Tryz.isAgg64 w
theorem Tryz.Gd (w:x1):(Go.sizeOf (Tryz.sJ.t 24)).run Tryz.prog w= .ok 4 w:=Tryz.sizeOf64 w
theorem Tryz.Ge:Tryz.prog.funcs[34]? =some Tryz.f34:=Tryz.func34
end Go.Proofs
namespace Go.Proofs.YthjegppepbbojaaGreatDoor
open Go Go.Vc Go.RowKit Go.Proofs Go.Proofs.Tryz
set_option maxRecDepth 100000
def qe {α:Type} (f:α→Int) (L:List α) (a i:Nat):Prop:=∀ (p q:Nat) (x y:α),a≤p→p<q→q<i→L[p]? =some x→L[q]? =some y→f x≤f y
def mD (L:List (List Int)):Prop:=∀ ks∈L,jd ks
theorem mD.perm {L M:List (List Int)} (h:mD L) (E:M.Perm L):mD M:=fun ks J=>h ks (E.mem_iff.1 J)
theorem Gf {g:Nat} {L:List (List Int)} {i:Nat} (E:y=(i:Int)) (h:lp w g v L) (hi:L[i]? =some ks):
  O x5 (j9 hn v (.int .i64 y)) w (fun p=>O x5 (x6 bV p) w K)=K (dn ks):=by
 have J:ks.length=6:=by have:=h.2 ks (x2 hi);simpa using this
 rw[cM E hn.u bV.i h (x3.1 hi).1,ln J (h.range hi)]
abbrev xV:y0:=.func (.func vD) #[] #[]
theorem qf {P:Y3} {k:o4} {s:ByteArray} {i:Nat} (E:P.underlying t=some .string) (hi:i<s.size):
  O P (Instr.index t (.string s) (.int k (i:Int))) w K=K (.int .u8 (s[i].toNat:Int)):=O.of fun w' _=>by
 simp[Instr.index,asIntOf,run_underlying E,hi]
def dq (n:Nat):Nat:=if n=0 then 0 else Nat.log2 n+1
theorem xW (h:n<256):dq n≤8:=by
 unfold dq;by_cases E:n=0
 ·rw[if_pos E];omega
 ·rw[if_neg E];have J:Nat.log2 n<8:=(Nat.log2_lt E).2 (by omega);omega
set_option maxHeartbeats 1000000 in
theorem Gg {g:Nat} {L:List (List Int)} (h:lp w g v L) (U:mD L) (V:L.length<65536):
  ag x5 DI [v,xV] w fun _ w'=>ad (fun r=>leadsTo v r) w w'∧ ∃ M,M.Perm L∧qe e8 M 0 M.length∧lp w' g v M:=by
 refine (sG F3 (G:=jd) (num:=e8) (cf:=gx) (cap:=#[]) F6 F7 (fun a _=>xQ) (fun a E=>by simp[E.1]) (fun a b E O=>(xR a b (by rw[E.1,O.1]) E.2 O.2).1) (Enters.of x5 F8 rfl (by kernel_rfl)) h U V fun aa a b _ E O=>F2 E O).mono ?_;rintro _ w' _ ⟨W,M,X,hu,hm⟩;exact⟨W,M,X,fun p q x y _ Y _ J Z=>hu p q x y Y J Z,hm⟩
end Go.Proofs.YthjegppepbbojaaGreatDoor
namespace Go.Vc
open Go Go.RowKit
set_option maxRecDepth 100000
theorem Keys.str {P:Y3} {k:u9} (E:P.underlying k=some .string):Keys P k fun v=>∃ s,v= .string s:=by
 have key:∀ s,MapKept.IsKey .string (.string s):=fun s=>trivial;refine⟨fun w O v ⟨n,h⟩=>?_,fun w x ⟨n,h⟩ U V=>?_,fun w v ⟨n,h⟩=>?_⟩
 ·subst h;exact MapKept.run_checkKey E (key n) O 9999
 ·subst h;rcases MapKept.findNow_spec (key n) U 0 (fun e he=>by obtain⟨m,h⟩:=V e he;rw[h];exact key m) with⟨h1,J⟩|⟨j,e,h1,J,W⟩
  ·exact .inl ⟨MapKept.run_findKey E h1,J⟩
  ·exact .inr ⟨j,e,by have:=MapKept.run_findKey (P:=P) (w:=w) E h1;simpa using this,J,W⟩
 ·subst h;exact MapKept.run_keyThatStays (d:=.string) (key n)
section
variable {P:Y3} {w:x1}
theorem lq {s:Sem y0} (h:∀ K:y0→Prop,O P s w K=K v):bR P s v w:=by
 have h1:O P s w (fun u=>u=v):=(h fun u=>u=v).mpr rfl;obtain⟨u,hu,rfl⟩:=h1;exact hu
variable {k e:u9} {G:y0→Prop}
end
end Go.Vc
namespace Go.Proofs.YthjegppepbbojaaGreatDoor
open Go Go.Vc Go.RowKit Go.Proofs Go.Proofs.Tryz
set_option maxRecDepth 100000
def fg:Nat→Nat→List Int
 |0,_=>[]
 |n+1,u=>fg n (u / 10)++[48+((u % 10:Nat):Int)]
theorem nV:∀ (n u:Nat),(fg n u).length=n
 |0,_=>rfl
 |n+1,u=>by rw[fg,u7,nV n];rfl
theorem Gh (n u:Nat):fg (n+2) u=fg n (u / 100)++[48+((u / 10 % 10:Nat):Int),48+((u % 10:Nat):Int)]:=by
 rw[fg,fg,Y2];rw[show u / 10 / 10=u / 100 by omega];rfl
theorem xX:∀ (n u:Nat),10 ^ n≤u→u<10 ^ (n+1)→fg (n+1) u=ei u
 |0,u,h1,E=>by
  rw[ld,if_pos (by simpa using E)];simp[fg]
 |n+1,u,h1,E=>by
  have J:(10:Nat) ^ (n+1)=10*10 ^ n:=by rw[Nat.pow_succ,Nat.mul_comm]
  have O:(10:Nat) ^ (n+1+1)=10*10 ^ (n+1):=by rw[Nat.pow_succ,Nat.mul_comm]
  have U:1≤10 ^ n:=Nat.one_le_iff_ne_zero.2 (by simp);rw[ld,if_neg (by omega),fg,xX n (u / 10) (by omega) (by omega)]
def e9 (E C:List Int) (nd u:Nat):Prop:=nd≤E.length∧C.length=E.length∧ ∃ t,C.drop nd=t∧E=fg nd u++t
theorem e9.two {E:List Int} {nd u:Nat} (h:e9 E C (nd+2) u):e9 E ((C.set (nd+1) (48+((u % 10:Nat):Int))).set nd (48+((u / 10 % 10:Nat):Int))) nd (u / 100):=by
 obtain⟨h1,J,t,O,U⟩:=h;refine⟨by omega,by simp[J],_,rfl,?_⟩;rw[U,Gh,Y2];congr 1;rw[List.drop_set,if_neg (by omega),List.drop_set,if_neg (by omega),←O];have V:nd<C.length:=by omega
 have W:nd+1<C.length:=by omega
 rw[Y1 V,Y1 W,X9,Nat.add_sub_cancel_left];rfl
theorem e9.one {E:List Int} {u:Nat} (h:e9 E C 1 u):C.set 0 (48+((u % 10:Nat):Int))=E:=by
 obtain⟨h1,J,t,O,U⟩:=h;rw[U,fg,fg,List.nil_append,←O];cases C with
 |nil=>simp at J;omega
 |cons c C=>simp
theorem e9.zero {E:List Int} {u:Nat} (h:e9 E C 0 u):C=E:=by
 obtain⟨h1,U,t,J,O⟩:=h;rw[O,fg,List.nil_append,←J,List.drop_zero]
def hW:ByteArray:=⟨#[48,48,48,49,48,50,48,51,48,52,48,53,48,54,48,55,48,56,48,57,49,48,49,49,49,50,49,51,49,52,49,53,49,54,49,55,49,56,49,57,50,48,50,49,50,50,50,51,50,52,50,53,50,54,50,55,50,56,50,57,51,48,51,49,51,50,51,51,51,52,51,53,51,54,51,55,51,56,51,57,52,48,52,49,52,50,52,51,52,52,52,53,52,54,52,55,52,56,52,57,53,48,53,49,53,50,53,51,53,52,53,53,53,54,53,55,53,56,53,57,54,48,54,49,54,50,54,51,54,52,54,53,54,54,54,55,54,56,54,57,55,48,55,49,55,50,55,51,55,52,55,53,55,54,55,55,55,56,55,57,56,48,56,49,56,50,56,51,56,52,56,53,56,54,56,55,56,56,56,57,57,48,57,49,57,50,57,51,57,52,57,53,57,54,57,55,57,56,57,57]⟩
theorem xY:hW.size=200:=by decide+kernel
theorem Gi:∀ q:Fin 100,hW.data.toList[2*q.val]? =some (UInt8.ofNat (48+q.val / 10))∧hW.data.toList[2*q.val+1]? =some (UInt8.ofNat (48+q.val % 10)):=by decide+kernel
theorem sK {q:Nat} (J:q<100):(∀ h,(hW[2*q]'h).toNat=48+q / 10)∧ ∀ h,(hW[2*q+1]'h).toNat=48+q % 10:=by
 obtain⟨h1,O⟩:=Gi ⟨q,J⟩;refine⟨fun h=>?_,fun h=>?_⟩
 ·have E:=(x3.1 h1).2;have:hW[2*q]=UInt8.ofNat (48+q / 10):=E;rw[this,UInt8.toNat_ofNat'];omega
 ·have E:=(x3.1 O).2;have:hW[2*q+1]=UInt8.ofNat (48+q % 10):=E;rw[this,UInt8.toNat_ofNat'];omega
theorem wrap_u32 {x:Int} (h1:0≤x) (E:x<4294967296):o4.u32.wrap x=x:=by
 simp[o4.wrap,o4.bits,o4.signed];omega
def hX (w:x1) (g o:Nat) (E C J:List Int):Prop:=aa w g kj (ints .u8 (E++C++J))∧E.length=o
theorem sL {g o c i:Nat} {E:o4} (J:y=(i:Int)) (hi:i<n):
  O x5 (j9 b5 (.slice (some ⟨g,o,none⟩) n c) (.int E y)) w K=K (.pointer (some ⟨g,o+i,none⟩)):=by
 subst J;rw[gl b5.u b4.i hi (fun _=>rfl),V2]
theorem sM {g o i:Nat} {x:Int} {E J:List Int} {K:Unit→x1→Prop} (O:hX w g o E C J) (hi:i<C.length)
  (V:∀ w',ad (fun r=>r=g) w w'→hX w' g o E (C.set i x) J→K () w'):aw x5 (n0 b4 (.pointer (some ⟨g,o+i,none⟩)) (.int .u8 x)) w K:=by
 obtain⟨O,rfl⟩:=O;refine aY (g:=g) (o:=E.length+i) b4.i rfl rfl O (by simp;omega) fun w' W X U=>V w' W ⟨?_,rfl⟩;have e:(ints .u8 (E++C++J)).set (E.length+i) (.int .u8 x)=ints .u8 (E++C.set i x++J):=by
  unfold ints;rw[←List.map_set,Y2,List.set_append_right _ _ (by omega),Nat.add_sub_cancel_left,List.set_append_left _ _ hi,Y2]
 rw[e] at U;exact U
theorem lr {g o c nd q i:Nat} {ac J t:Int} {W X:List Int} {K:x1→Prop} (ae:hX w g o W C X) (aD:C.length=n) (aE:n≤1000) (aF:nd≤n) (h1:(nd:Int)-ac=((i+1:Nat):Int)) (ai:(nd:Int)-J=(i:Int)) (aj:i+1<n) (ak:t=((2*q:Nat):Int)) (Y:q<100)
  (al:∀ w',ad (fun r=>r=g) w w'→hX w' g o W ((C.set (i+1) (48+((q % 10:Nat):Int))).set i (48+((q / 10:Nat):Int))) X→K w'):
  du w fun V=>
  O x5 (ax .sub ab false true (.int .i64 (nd:Int)) (.int .i64 ac)) V fun am=>
  O x5 (ax .sub ab false true (.int .i64 (nd:Int)) (.int .i64 J)) V fun af=>
  O x5 (ax .add l7 false true (.int .u32 t) (.int .u32 1)) V fun an=>
  O x5 (Instr.index bY (.string hW) an) V fun t50=>
  O x5 (Instr.index bY (.string hW) (.int .u32 t)) V fun ag=>
  O x5 (j9 b5 (.slice (some ⟨g,o,none⟩) n c) am) V fun t53=>
  aw x5 (n0 b4 t53 t50) V fun(_:Unit) E=>
   (Ext V E∨bR x5 (Instr.index bY (.string hW) (.int .u32 t)) ag E∧bR x5 (ax .sub ab false true (.int .i64 (nd:Int)) (.int .i64 J)) af E∧True)∧
  O x5 (j9 b5 (.slice (some ⟨g,o,none⟩) n c) af) E fun ao=>
   aw x5 (n0 b4 ao ag) E fun(_:Unit) Z=>K Z:=by
 subst ak;intro V ah _ _;have ap:ad (fun r=>r=g) w V:=ah.U _;have aq:hX V g o W C X:=⟨ae.1.ext ah,ae.2⟩;rw[dk,wrap_i64 (by omega) (by omega),dk,wrap_i64 (by omega) (by omega),aB,wrap_u32 (by omega) (by omega)];rw[show ((2*q:Nat):Int)+1=((2*q+1:Nat):Int) by omega];have aa:=xY;rw[qf bY.u (by rw[aa];omega),qf bY.u (by rw[aa];omega)];rw[(sK Y).1,(sK Y).2,sL h1 aj];refine sM aq (by omega) fun E au av=>⟨.inr ⟨lq fun K=>?_,lq fun K=>?_,trivial⟩,?_⟩
 ·rw[qf bY.u (by rw[aa];omega),(sK Y).1]
 ·rw[dk,wrap_i64 (by omega) (by omega)]
 ·rw[sL ai (by omega)];refine sM av (by simp;omega) fun Z ay az=>al Z ((ap.trans au).trans ay) ?_;have aA:48+((q % 10:Nat):Int)=((48+q % 10:Nat):Int):=by omega
  have aC:48+((q / 10:Nat):Int)=((48+q / 10:Nat):Int):=by omega
  rw[aA,aC];exact az
theorem e9.pair {E:List Int} {nd u q:Nat} (h:e9 E C (nd+2) u) (J:q=u % 100):e9 E ((C.set (nd+1) (48+((q % 10:Nat):Int))).set nd (48+((q / 10:Nat):Int))) nd (u / 100):=by
 have:=h.two;rw[show u % 10=q % 10 by omega,show u / 10 % 10=q / 10 by omega] at this;exact this
theorem lu {k:o4} {a b:Nat} (E:b≠0):O x5 (ax .rem t cx cy (.int k (a:Int)) (.int k (b:Int))) w K=K (.int k ((a % b:Nat):Int)):=by
 rw[vJ (by omega),Int.tmod_eq_emod_of_nonneg (by omega),Int.natCast_emod]
theorem u32_quo {a b:Nat} (E:b≠0) (J:a<4294967296):O x5 (ax .quo t cx cy (.int .u32 (a:Int)) (.int .u32 (b:Int))) w K=K (.int .u32 ((a / b:Nat):Int)):=by
 have:=Nat.div_le_self a b;rw[pu (by omega),Int.tdiv_eq_ediv_of_nonneg (by omega),←Int.natCast_ediv];generalize a / b=m at this ⊢;rw[wrap_u32 (by omega) (by omega)]
theorem u64_quo {a b:Nat} (E:b≠0) (J:a<18446744073709551616):O x5 (ax .quo t cx cy (.int .u64 (a:Int)) (.int .u64 (b:Int))) w K=K (.int .u64 ((a / b:Nat):Int)):=by
 have:=Nat.div_le_self a b;rw[pu (by omega),Int.tdiv_eq_ediv_of_nonneg (by omega),←Int.natCast_ediv];generalize a / b=m at this ⊢;rw[wrap_u64 (by omega) (by omega)]
theorem lv {a b:Nat} (E:a*b<4294967296):O x5 (ax .mul t cx cy (.int .u32 (a:Int)) (.int .u32 (b:Int))) w K=K (.int .u32 ((a*b:Nat):Int)):=by
 have e:(a:Int)*(b:Int)=((a*b:Nat):Int):=by simp
 rw[fV,e];generalize a*b=m at E ⊢;rw[wrap_u32 (by omega) (by omega)]
theorem e9.start {u:Nat} (h:C.length=N):e9 (fg N u) C N u:=⟨by rw[nV];omega,by rw[nV,h],[],by rw[List.drop_eq_nil_iff];omega,by simp⟩
set_option maxHeartbeats 4000000 in
theorem Gj {g o c u:Nat} {ah:List Int} (aJ:hX w g o ah C ai) (aK:C.length=N) (aV:N≤19) (hu:u<10 ^ N):
  ag x5 DR [.slice (some ⟨g,o,none⟩) N c,.int .u64 (u:Int)] w fun v w'=>v= .tuple #[]∧ad (fun r=>r=g) w w'∧hX w' g o ah (fg N u) ai:=by
 have Y:=nV N u;refine ap func299 ?_;rw[fK b5.u];refine⟨fun aL au av=>∃ E nd:Nat,aL= .int .u64 (E:Int)∧au= .int .i64 (nd:Int)∧E<10 ^ nd∧nd≤N∧ad (fun r=>r=g) w av∧ ∃ aj,hX av g o ah aj ai∧e9 (fg N u) aj nd E,
  fun _ au _=>(bk au).toNat,⟨u,N,rfl,rfl,hu,r9 _,ad.refl _ _,C,aJ,e9.start aK⟩,?_⟩
 rintro _ _ av ⟨E,nd,rfl,rfl,ak,Z,aw,aj,ax,ae⟩;have aF:aj.length=N:=by rw[ae.2.1,Y]
 have aW:(10:Nat) ^ nd≤10 ^ 19:=Nat.pow_le_pow_right (by omega) (by omega);have aM:E<18446744073709551616:=by omega
 have aX:(8:Int)=((8:Nat):Int):=rfl;rw[cn,af];refine⟨fun aN=>?_,fun aN=>?_⟩
 ·obtain⟨m,rfl⟩:∃ m,nd=m+8:=⟨nd-8,by omega⟩;have aY:E % 100000000<100000000:=Nat.mod_lt _ (by omega);rw[show X0 .u64 100000000=X0 .u64 ((100000000:Nat):Int) from rfl,lu (by omega),ft fq.u l7.u,wrap_u32 (by omega) (by omega),u64_quo (by omega) aM];rw[show X0 .u32 10000=X0 .u32 ((10000:Nat):Int) from rfl,show X0 .u32 100=X0 .u32 ((100:Nat):Int) from rfl,show X0 .u32 2=X0 .u32 ((2:Nat):Int) from rfl];rw[u32_quo (by omega) (by omega),lu (by omega),u32_quo (by omega) (by omega),lv (by omega),lu (by omega),lv (by omega),u32_quo (by omega) (by omega),lv (by omega),lu (by omega),lv (by omega)];refine lr (i:=m+6) (q:=E % 100000000 % 10000 % 100) ax aF (by omega) Z (by omega) (by omega) (by omega) (by omega) (by omega) fun V aa ab=>?_;have O:=ae.pair (q:=E % 100000000 % 10000 % 100) (by omega);have al:=O.2.1.trans Y;refine lr (i:=m+4) (q:=E % 100000000 % 10000 / 100) ab al (by omega) Z (by omega) (by omega) (by omega) (by omega) (by omega) fun ac W U=>?_;have J:=e9.pair (nd:=m+4) (q:=E % 100000000 % 10000 / 100) O (by omega);have aG:=J.2.1.trans Y;refine lr (i:=m+2) (q:=E % 100000000 / 10000 % 100) U aG (by omega) Z (by omega) (by omega) (by omega) (by omega) (by omega) fun aO ay ao=>?_;have aH:=e9.pair (nd:=m+2) (q:=E % 100000000 / 10000 % 100) J (by omega);have aP:=aH.2.1.trans Y;refine lr (i:=m) (q:=E % 100000000 / 10000 / 100) ao aP (by omega) Z (by omega) (by omega) (by omega) (by omega) (by omega) fun aZ aQ aR=>?_;have aI:=e9.pair (nd:=m) (q:=E % 100000000 / 10000 / 100) aH (by omega);rw[dk,wrap_i64 (by omega) (by omega)];refine⟨⟨E / 100000000,m,rfl,by congr 1;omega,?_,by omega,(((aw.trans aa).trans W).trans ay).trans aQ,_,aR,?_⟩,by simp only[bk];omega⟩
  ·rw[Nat.pow_add] at ak;exact Nat.div_lt_of_lt_mul (by rw[Nat.mul_comm];exact ak)
  ·rw[show E / 100 / 100 / 100 / 100=E / 100000000 by omega] at aI;exact aI
 ·have a1:nd<8:=by omega
  have a2:(10:Nat) ^ nd≤10 ^ 7:=Nat.pow_le_pow_right (by omega) (by omega);rw[ft fq.u l7.u,wrap_u32 (by omega) (by omega)];refine fS (fun a b V=>∃ X m:Nat,a= .int .i64 (m:Int)∧b= .int .u32 (X:Int)∧X<10 ^ m∧m<4∧m≤N∧ad (fun r=>r=g) w V∧ ∃ aq,hX V g o ah aq ai∧e9 (fg N u) aq m X) ?_ ?_
  rotate_left
  ·intro aS am;rw[cn,af];refine⟨fun az=>?_,fun az=>am _ _ _ ⟨E,nd,rfl,rfl,ak,by omega,Z,aw,aj,ax,ae⟩⟩;obtain⟨m,rfl⟩:∃ m,nd=m+4:=⟨nd-4,by omega⟩;rw[show X0 .u32 10000=X0 .u32 ((10000:Nat):Int) from rfl,show X0 .u32 100=X0 .u32 ((100:Nat):Int) from rfl,show X0 .u32 2=X0 .u32 ((2:Nat):Int) from rfl];rw[lu (by omega),u32_quo (by omega) (by omega),u32_quo (by omega) (by omega),lv (by omega),lu (by omega),lv (by omega)];refine lr (i:=m+2) (q:=E % 10000 % 100) ax aF (by omega) Z (by omega) (by omega) (by omega) (by omega) (by omega) fun V aa ab=>?_;have O:=ae.pair (q:=E % 10000 % 100) (by omega);have al:=O.2.1.trans Y;refine lr (i:=m) (q:=E % 10000 / 100) ab al (by omega) Z (by omega) (by omega) (by omega) (by omega) (by omega) fun ac W U=>?_;have J:=e9.pair (nd:=m) (q:=E % 10000 / 100) O (by omega);rw[dk,wrap_i64 (by omega) (by omega)];refine am _ _ _ ⟨E / 10000,m,by congr 1;omega,rfl,?_,by omega,by omega,(aw.trans aa).trans W,_,U,?_⟩
   ·rw[Nat.pow_add] at ak;exact Nat.div_lt_of_lt_mul (by rw[Nat.mul_comm];exact ak)
   ·rw[show E / 100 / 100=E / 10000 by omega] at J;exact J
  rintro _ _ V ⟨X,m,rfl,rfl,aA,a6,aC,aa,aq,ab,O⟩;have al:=O.2.1.trans Y;have a7:(10:Nat) ^ m≤10 ^ 3:=Nat.pow_le_pow_right (by omega) (by omega);refine fS (fun a b ac=>∃ an m:Nat,a= .int .i64 (m:Int)∧b= .int .u32 (an:Int)∧an<10 ^ m∧m<2∧m≤N∧ad (fun r=>r=g) w ac∧ ∃ aD,hX ac g o ah aD ai∧e9 (fg N u) aD m an) ?_ ?_
  rotate_left
  ·intro aS am;rw[cn,af];refine⟨fun az=>?_,fun az=>am _ _ _ ⟨X,m,rfl,rfl,aA,by omega,aC,aa,aq,ab,O⟩⟩;obtain⟨m,rfl⟩:∃ aT,m=aT+2:=⟨m-2,by omega⟩;rw[show X0 .u32 100=X0 .u32 ((100:Nat):Int) from rfl,show X0 .u32 2=X0 .u32 ((2:Nat):Int) from rfl];rw[lu (by omega),lv (by omega),u32_quo (by omega) (by omega)];refine lr (i:=m) (q:=X % 100) ab al (by omega) aC (by omega) (by omega) (by omega) (by omega) (by omega) fun ac W U=>?_;have J:=O.pair (q:=X % 100) rfl;rw[dk,wrap_i64 (by omega) (by omega)];refine am _ _ _ ⟨X / 100,m,by congr 1;omega,rfl,?_,by omega,by omega,aa.trans W,_,U,J⟩;rw[Nat.pow_add] at aA;exact Nat.div_lt_of_lt_mul (by rw[Nat.mul_comm];exact aA)
  rintro _ _ ac ⟨an,m,rfl,rfl,aE,a8,aC,W,aD,U,J⟩;have aG:=J.2.1.trans Y;rw[br,af];refine⟨fun aU=>?_,fun aU=>?_⟩
  ·obtain rfl:m=1:=by omega
   have aE:an<10:=by simpa using aE
   rw[aB,wrap_u32 (by omega) (by omega),ft l7.u b4.u,wrap_u8 (by omega) (by omega),sL (y:=0) (i:=0) rfl (by omega)];refine sM U (by omega) fun aO ay ao=>?_;have:=J.one;rw[Nat.mod_eq_of_lt aE] at this;rw[this] at ao;exact⟨rfl,W.trans ay,ao⟩
  ·obtain rfl:m=0:=by omega
   rw[J.zero] at U;exact⟨rfl,W,U⟩
def nW:List Int:=[1,10,100,1000,10000,100000,1000000,10000000,100000000,1000000000,10000000000,100000000000,1000000000000,10000000000000,100000000000000,1000000000000000,10000000000000000,100000000000000000,1000000000000000000,10000000000000000000]
def en (w:x1):Prop:=w.rangeAt 1 0 (ints .u64 nW)
theorem en.ext (h:en w) (J:Ext w w'):en w':=l8 J h
theorem Gk:∀ k:Nat,k<20→nW[k]? =some (((10 ^ k:Nat)):Int):=by decide
theorem xZ {s:Nat} (h:2 ^ s≤n):dq n=s+dq (n / 2 ^ s):=by
 have E:=Nat.two_pow_pos s;have h1:n / 2 ^ s≠0:=by have:=Nat.div_pos h E;omega
 have J:n≠0:=by omega
 unfold dq;rw[if_neg J,if_neg h1];have e:Nat.log2 n=Nat.log2 (n / 2 ^ s)+s:=by
  refine (Nat.log2_eq_iff J).2 ⟨?_,?_⟩
  ·rw[Nat.pow_add];have:=X2 (2 ^ s) (Nat.log2_self_le h1);have:=Nat.div_mul_le_self n (2 ^ s);omega
  ·have O:=Nat.lt_log2_self (n:=n / 2 ^ s);rw[show Nat.log2 (n / 2 ^ s)+s+1=(Nat.log2 (n / 2 ^ s)+1)+s by omega,Nat.pow_add];have:=X2 (2 ^ s) (show n / 2 ^ s+1≤2 ^ (Nat.log2 (n / 2 ^ s)+1) by omega);have U:=Nat.lt_div_mul_add E (a:=n);rw[W8] at this;omega
 omega
def nX:ByteArray:=⟨#[0,1,2,2,3,3,3,3,4,4,4,4,4,4,4,4,5,5,5,5,5,5,5,5,5,5,5,5,5,5,5,5,6,6,6,6,6,6,6,6,6,6,6,6,6,6,6,6,6,6,6,6,6,6,6,6,6,6,6,6,6,6,6,6,7,7,7,7,7,7,7,7,7,7,7,7,7,7,7,7,7,7,7,7,7,7,7,7,7,7,7,7,7,7,7,7,7,7,7,7,7,7,7,7,7,7,7,7,7,7,7,7,7,7,7,7,7,7,7,7,7,7,7,7,7,7,7,7,8,8,8,8,8,8,8,8,8,8,8,8,8,8,8,8,8,8,8,8,8,8,8,8,8,8,8,8,8,8,8,8,8,8,8,8,8,8,8,8,8,8,8,8,8,8,8,8,8,8,8,8,8,8,8,8,8,8,8,8,8,8,8,8,8,8,8,8,8,8,8,8,8,8,8,8,8,8,8,8,8,8,8,8,8,8,8,8,8,8,8,8,8,8,8,8,8,8,8,8,8,8,8,8,8,8,8,8,8,8,8,8,8,8,8,8,8,8,8,8,8,8,8,8,8,8,8,8]⟩
theorem Gl:nX.size=256:=by decide+kernel
theorem Gm:∀ q:Fin 256,nX.data.toList[q.val]? =some (UInt8.ofNat (dq q.val)):=by decide+kernel
theorem Gn {q:Nat} (E:q<256):∀ h,(nX[q]'h).toNat=dq q:=fun h=>by
 have h1:=Gm ⟨q,E⟩;have J:=(x3.1 h1).2;have:nX[q]=UInt8.ofNat (dq q):=J;have O:=xW E;rw[this,UInt8.toNat_ofNat'];omega
theorem Gp (ak:n<18446744073709551616):ag x5 C7 [.int .u64 (n:Int)] w fun v w'=>v= .int .i64 (dq n:Int)∧Ext w w':=by
 refine ap func212 ?_;have step:∀ {s x m:Nat} {W:y0→y0→x1→Prop} {y c:Int},s<64→x<18446744073709551616→m+dq x=dq n→m≤64→y=(2 ^ s:Nat)→c=(s:Int)→2 ^ s≤18446744073709551615→(∀ E U:Nat,E<2 ^ s∨(E=x / 2 ^ s∧U=m+s)→E≤x→U+dq E=dq n→U≤m+s→W (.int .u64 (E:Int)) (.int .i64 (U:Int)) w)→
   O x5 (ax .geq fq false true (.int .u64 (x:Int)) (.int .u64 y)) w fun t4=>
    Split t4 (O x5 (ax .shr fq false true (.int .u64 (x:Int)) (.int .u64 c)) w fun ad=>O x5 (ax .add ab false true (.int .i64 (m:Int)) (.int .i64 c)) w fun ae=>W ad ae w) (W (.int .u64 (x:Int)) (.int .i64 (m:Int)) w):=by
  intro s x m W y c Y J hm al ah ai aa V;subst ah ai;rw[cn,af];refine⟨fun h=>?_,fun h=>V x m (.inl (by omega)) (r9 _) hm (by omega)⟩;rw[pL Y,aB,wrap_i64 (by omega) (by omega)];have:=xZ (n:=x) (s:=s) (by omega);have:=V (x / 2 ^ s) (m+s) (.inr ⟨rfl,rfl⟩) (Nat.div_le_self _ _) (by omega) (by omega);exact this
 refine fS (fun x m X=>w=X∧ ∃ E U:Nat,x= .int .u64 (E:Int)∧m= .int .i64 (U:Int)∧E<4294967296∧U+dq E=dq n∧U≤32) ?_ ?_
 rotate_left
 ·intro W V;rw[cn,af];refine⟨fun h=>?_,fun h=>V _ _ _ ⟨rfl,n,0,rfl,rfl,by omega,by omega,by omega⟩⟩;rw[show X0 .u64 32=X0 .u64 ((32:Nat):Int) from rfl,pL (by omega)];have:=xZ (n:=n) (s:=32) (by omega);exact V _ _ _ ⟨rfl,n / 2 ^ 32,32,rfl,rfl,by omega,by omega,by omega⟩
 rintro _ _ _ ⟨rfl,x,m,rfl,rfl,J,hm,ac⟩;refine fS (fun x m X=>w=X∧ ∃ E U:Nat,x= .int .u64 (E:Int)∧m= .int .i64 (U:Int)∧E<65536∧U+dq E=dq n∧U≤48) ?_ ?_
 rotate_left
 ·intro W V;refine step (s:=16) (by omega) (by omega) hm (by omega) (by omega) (by omega) (by omega) fun E U h1 aa Z aj=>V _ _ _ ⟨rfl,E,U,rfl,rfl,?_,Z,by omega⟩;rcases h1 with h1|⟨h1,_⟩ <;> omega
 rintro _ _ _ ⟨rfl,x,m,rfl,rfl,J,hm,ac⟩;refine fS (fun x m X=>w=X∧ ∃ E U:Nat,x= .int .u64 (E:Int)∧m= .int .i64 (U:Int)∧E<256∧U+dq E=dq n∧U≤56) ?_ ?_
 rotate_left
 ·intro W V;refine step (s:=8) (by omega) (by omega) hm (by omega) (by omega) (by omega) (by omega) fun E U h1 aa Z aj=>V _ _ _ ⟨rfl,E,U,rfl,rfl,?_,Z,by omega⟩;rcases h1 with h1|⟨h1,_⟩ <;> omega
 rintro _ _ _ ⟨rfl,x,m,rfl,rfl,J,hm,ac⟩;have Y:=Gl;have am:=xW J;rw[ft fq.u b4.u,wrap_u8 (by omega) (by omega)];refine (qf (s:=nX) bY.u (by rw[Y];omega)).mpr ?_;rw[Gn J,ft b4.u ab.u,wrap_i64 (by omega) (by omega),aB,wrap_i64 (by omega) (by omega)];exact⟨by congr 1;omega,Ext.refl _⟩
theorem x0 {k:o4} {a:Nat} (E:n<64):O x5 (ax .shr t cx cy (.int .i64 (a:Int)) (.int k (n:Int))) w K=K (.int .i64 ((a / 2 ^ n:Nat):Int)):=O.of fun w' _=>by
 have e:(a:Int).fdiv (2 ^ min n X5.bits)=((a / 2 ^ n:Nat):Int):=by
  have:min n X5.bits=n:=Nat.min_eq_left (by show n≤64;omega);rw[this,Int.fdiv_eq_ediv_of_nonneg _ (by exact Int.le_of_lt (Int.pow_pos (by omega)))];simp
 simp only[ax,eqGuard,binOp,Op.shift,j6,e];rfl
theorem Gq:∀ L:Fin 64,7≤L.val→2 ^ L.val≤10 ^ (L.val*78913 / 262144+1)∧10 ^ (L.val*78913 / 262144)≤10*2 ^ (L.val-1)∧1≤L.val*78913 / 262144∧L.val*78913 / 262144<19:=by decide+kernel
theorem Gr {d:Nat} (aa:en w) (h1:100≤d) (ai:d<9223372036854775808):ag x5 DQ [.int .u64 (d:Int)] w fun v w'=>Ext w w'∧ ∃ n:Nat,v= .int .i64 ((n+1:Nat):Int)∧n<19∧10 ^ n≤d∧d<10 ^ (n+1):=by
 have U:d≠0:=by omega
 have W:dq d=Nat.log2 d+1:=by unfold dq;rw[if_neg U]
 have aj:2 ^ (dq d-1)≤d:=by rw[W];exact Nat.log2_self_le U
 have ak:d<2 ^ dq d:=by rw[W];exact Nat.lt_log2_self
 have ab:7≤dq d:=by
  by_cases h:7≤dq d
  ·exact h
  ·have:2 ^ dq d≤2 ^ 6:=Nat.pow_le_pow_right (by omega) (by omega);omega
 have ac:dq d<64:=by
  by_cases h:dq d<64
  ·exact h
  ·have:2 ^ 63≤2 ^ (dq d-1):=Nat.pow_le_pow_right (by omega) (by omega);omega
 obtain⟨ad,X,t3,t4⟩:=Gq ⟨dq d,ac⟩ ab;simp only at ad X t3 t4;refine ap func298 ?_;refine (Gp (by omega)).mono ?_;rintro _ ae _ ⟨rfl,E⟩;generalize dq d=L at*;refine ag.mono (K:=fun v V=>v= .int .i64 ((L*78913 / 262144:Nat):Int)∧Ext ae V) ?_ ?_
 ·refine ap func319 ?_;rw[fV,wrap_i64 (by omega) (by omega),show X0 .u64 18=X0 .u64 ((18:Nat):Int) from rfl,show (L:Int)*78913=((L*78913:Nat):Int) by omega,x0 (by omega)];exact⟨rfl,Ext.refl _⟩
 rintro _ V _ ⟨rfl,J⟩;generalize L*78913 / 262144=t at*;have ah:=Gk t (by omega);rw[pv (t:=pr) pr.u fq.i (by omega),av (by kernel_rfl) (by rw[V2];exact ((aa.ext E).ext J) _ _ (iX ah)),cn];refine ag.mono (K:=fun v Y=>v= .int .i64 ((if 10 ^ t≤d then 1 else 0:Nat):Int)∧Ext V Y) ?_ ?_
 ·refine ap func320 ?_;rw[af];refine⟨fun h=>⟨by rw[if_pos (by omega)];rfl,Ext.refl _⟩,fun h=>⟨by rw[if_neg (by omega)];rfl,Ext.refl _⟩⟩
 rintro _ Y _ ⟨rfl,Z⟩;rw[aB];by_cases O:10 ^ t≤d
 ·rw[if_pos O,wrap_i64 (by omega) (by omega)];exact⟨(E.trans J).trans Z,t,by congr 1,t4,O,by omega⟩
 ·rw[if_neg O,wrap_i64 (by omega) (by omega)];obtain⟨s,rfl⟩:∃ s,t=s+1:=⟨t-1,by omega⟩;rw[Nat.pow_succ] at X;exact⟨(E.trans J).trans Z,s,by congr 1,by omega,by omega,by omega⟩
theorem x9 {k E:o4} {x:Int} {i:Nat} {s:ByteArray} (J:x=(i:Int)) (U:y=(j:Int)) (V:x5.underlying t=some .string) (W:i≤j) (X:j≤s.size):
  O x5 (X4 t (.string s) (some (.int k x)) (some (.int E y)) none) w K=K (.string (s.extract i j)):=O.of fun w' _=>by
 subst J U;have Y:=pw (P:=x5) w' (sl:=false) (n:=s.size) (c:=s.size) (low:=some (.int k (i:Int))) (high:=some (.int E (j:Int))) (mx:=none) (l:=i) (h:=j) (m:=s.size) ⟨k,rfl⟩ ⟨E,rfl⟩ ea W X (r9 _);simp[X4,Instr.slice,run_underlying V,Y]
theorem Gs:∀ q:Fin 100,hW.extract (2*q.val) (2*q.val+2)=strOfNums [48+((q.val / 10:Nat):Int),48+((q.val % 10:Nat):Int)]:=by decide+kernel
def ya:ByteArray:=⟨#[48,49,50,51,52,53,54,55,56,57,97,98,99,100,101,102,103,104,105,106,107,108,109,110,111,112,113,114,115,116,117,118,119,120,121,122]⟩
theorem Gt:∀ q:Fin 10,ya.extract q.val (q.val+1)=strOfNums [48+(q.val:Int)]:=by decide+kernel
theorem yb (h:n<10):ei n=[48+(n:Int)]:=by rw[ld,if_pos h,Nat.mod_eq_of_lt h];rfl
theorem Gu (h1:10≤n) (E:n<100):ei n=[48+((n / 10:Nat):Int),48+((n % 10:Nat):Int)]:=by
 rw[ld,if_neg (by omega),yb (by omega)];rfl
theorem Gv (E:n<100):ag x5 DP [.int .i64 (n:Int)] w fun v w'=>v=be (ei n)∧Ext w w':=by
 refine ap func297 ?_;rw[aC,af];refine⟨fun h=>?_,fun h=>?_⟩
 ·rw[aB,wrap_i64 (by omega) (by omega)];refine (x9 (s:=ya) (i:=n) (j:=n+1) rfl (by omega) bY.u (by omega) (by show n+1≤36;omega)).mpr ?_;rw[Gt ⟨n,by omega⟩,yb (by omega)];exact⟨rfl,Ext.refl _⟩
 ·rw[fV,wrap_i64 (by omega) (by omega),fV,wrap_i64 (by omega) (by omega),aB,wrap_i64 (by omega) (by omega)];refine (x9 (s:=hW) (i:=2*n) (j:=2*n+2) (by omega) (by omega) bY.u (by omega) (by rw[xY];omega)).mpr ?_;rw[Gs ⟨n,E⟩,Gu (by omega) E];exact⟨rfl,Ext.refl _⟩
theorem Gw {g:Nat} {J O:List Int} (E:hX w g 1 J C O) (U:C.length≤23):ay .u8 w (.slice (some ⟨g,1,none⟩) C.length 23) C:=by
 obtain⟨E,V⟩:=E;refine⟨by simp,g,1,_,23,rfl,U,by simp[maxLen],fun _=>rfl,fun j v ac=>?_⟩;have W:j<C.length:=by have:=(x3.1 ac).1;simpa using this
 refine E.cell ?_;rw[ints,j4,j4,Z4 (by simp;omega),Z7 (by simp;omega),r8,V,Nat.add_sub_cancel_left];exact ac
theorem yc {g:Nat} (E:y=((m+2:Nat):Int)) (hm:m≤22):
  O x5 (X4 kj (.pointer (some ⟨g,0,none⟩)) (some (.int .i64 1)) (some (.int .i64 y)) none) w K=K (.slice (some ⟨g,1,none⟩) (m+1) 23):=by
 subst E;have:=px (w:=w) (b:=g) (o:=0) (low:=some (.int .i64 1)) (high:=some (.int .i64 ((m+2:Nat):Int))) (mx:=none) (l:=1) (h:=m+2) (m:=24) (K:=K) kj.u b4.i ⟨_,rfl⟩ ⟨_,rfl⟩ ea (by omega) (by omega) (by omega);rw[this,if_neg (by omega)];rfl
set_option maxHeartbeats 1000000 in
theorem Gx (Y:en w) (Z:n<9223372036854775808):ag x5 DK [.int .i64 (n:Int),.int .i64 10] w fun v w'=>v=be (ei n)∧Ext w w':=by
 refine ap func287 ?_;rw[bc];refine (af).mpr ⟨fun _=>?_,fun h=>absurd rfl h⟩;refine aI (fun v E=>w=E∧v= .bool (decide (n<100))) ?_ ?_
 rotate_left
 ·intro aa J;rw[nv,af];refine⟨fun _=>?_,fun h=>by omega⟩;rw[aC];exact J _ _ ⟨rfl,by congr 1;rw[X8,decide_eq_true_eq,decide_eq_true_eq];omega⟩
 rintro _ _ ⟨rfl,rfl⟩;rw[af];refine⟨fun h=>?_,fun h=>?_⟩
 ·exact (Gv h).mono fun _ _ _ h=>h
 refine bg kj.i fun g E ak O ab=>?_;rw[ft aj.u fq.u,wrap_u64 (by omega) (by omega)];refine aI (fun v V=>E=V∧v= .int .u64 (n:Int)) ?_ ?_
 rotate_left
 ·intro aa J;rw[aC,af];exact⟨fun h=>by omega,fun _=>J _ _ ⟨rfl,rfl⟩⟩
 rintro _ _ ⟨rfl,rfl⟩;refine (Gr (Y.ext O) (by omega) Z).mono ?_;rintro _ V _ ⟨U,m,rfl,hm,ac,W⟩;rw[aB,wrap_i64 (by omega) (by omega)];rw[yc (m:=m) (by omega) (by omega)];have ad:hX V g 1 [0] (u6 (m+1) 0) (u6 (22-m) 0):=by
  refine⟨?_,rfl⟩;have e:[0]++u6 (m+1) (0:Int)++u6 (22-m) 0=u6 24 0:=by
   rw[show[(0:Int)]=u6 1 0 from rfl,List.replicate_append_replicate,List.replicate_append_replicate];congr 1;omega
  rw[e];exact ab.ext U
 refine (Gj (N:=m+1) ad (by simp) (by omega) W).mono ?_;rintro _ al _ ⟨rfl,ae,ah⟩;refine cH (by omega) ?_;rw[aB,wrap_i64 (by omega) (by omega)];rw[yc (m:=m) (by omega) (by omega)];have ai:=nV (m+1) n;have X:=Gw ah (by omega);rw[ai] at X;rw[sa b5.u b4.u bY.u X,xX m n ac W];refine⟨rfl,(O.trans U).then ae fun r am he=>?_⟩;have he:r=g:=he;omega
theorem Gy (E:en w) (J:n<9223372036854775808):ag x5 rL [.int .i64 (n:Int)] w fun v w'=>v=be (ei n)∧Ext w w':=by
 refine ap func226 ?_;refine ag.mono (K:=fun v w'=>v=be (ei n)∧Ext w w') ?_ (fun _ _ _ h=>h);refine ap func263 ?_;exact (Gx E J).mono fun _ _ _ h=>h
theorem en.U (h:en w) (J:ad S w w') (E:¬S 1):en w':=pt J E h
def cK (w:x1) (g gs:Nat) (A:am) (B:am) (clean:Bool) (s:Option aq):Prop:=match s with
 |some s=>cE w g gs A B s clean
 |none=>dz w g gs A B
theorem eP.of {g:Nat} {A:am} {B:am} {s:Option aq} (h:eP w g gs A B clean s w'):ad (bf g gs A) w w'∧cK w' g gs A B clean s:=h
theorem eP.mk {g:Nat} {A:am} {B:am} {s:Option aq} (h:ad (bf g gs A) w w') (E:cK w' g gs A B clean s):eP w g gs A B clean s w':=⟨h,E⟩
theorem cK.U {g:Nat} {A:am} {B:am} {s:Option aq} (h:cK w g gs A B clean s) (J:ad S w w') (E:∀ r,bf g gs A r→¬S r) (O:∀ r,bW g gs A B r→¬S r):cK w' g gs A B clean s:=by
 cases s with
 |none=>exact dz.U (g:=g) (gs:=gs) (A:=A) (B:=B) h J E O
 |some s=>exact cE.U (g:=g) (gs:=gs) (A:=A) (B:=B) (s:=s) (clean:=clean) h J E O
theorem cK.ext {g:Nat} {A:am} {B:am} {s:Option aq} (h:cK w g gs A B clean s) (J:Ext w w'):cK w' g gs A B clean s:=h.U (J.U fun _=>False) (fun _ _ h=>h) fun _ _ h=>h
theorem cK.side {g:Nat} {A:am} {B:am} {s:Option aq} (h:cK w g gs A B clean s):jc w g gs A B:=by
 cases s with
 |none=>exact h.1
 |some s=>exact h.1
def aQ (lo hi:Int) (s:Option aq):Option (Int×aq):=s.bind (aS lo hi)
theorem jP {g:Nat} {A:am} {B:am} {s:Option aq} (h:cK w g gs A B clean s):ag x5 kU [.pointer (some ⟨g,0,none⟩),.int .i64 lo,.int .i64 hi] w fun v w'=>eP w g gs A B clean ((aQ lo hi s).map (·.2)) w'∧ ∃ n at_:Int,v= .tuple #[.int .i64 n,.int .i64 at_]∧(∀ q,aQ lo hi s=some q→n=q.1)∧(aQ lo hi s=none→n=0):=by
 cases s with
 |none=>
  refine (Fr h).mono ?_;rintro _ E _ ⟨J,rfl⟩;exact⟨⟨J.U _,dz.ext (g:=g) (gs:=gs) (A:=A) (B:=B) h J⟩,0,0,rfl,fun q h=>(by cases h),fun _=>rfl⟩
 |some s=>exact sw (s:=s) h
theorem mE {g:Nat} {A:am} {B:am} {s:Option aq} (h:cK w g gs A B clean s):ag x5 iP [.pointer (some ⟨g,0,none⟩)] w fun v w'=>v= .bool s.isSome∧Ext w w':=by
 cases s with
 |none=>exact lk h
 |some s=>exact mv h
theorem Gz {g:Nat} {A:am} {B:am} {s:Option aq} {e:Int} (h:cK w g gs A B clean s) (he:e≠0):ag x5 kV [.pointer (some ⟨g,0,none⟩),.int .i64 e,.int .i64 at_] w fun _ w'=>eP w g gs A B clean none w':=by
 cases s with
 |none=>
  refine (Fp h).mono ?_;rintro _ E _ J;exact⟨J.U _,dz.ext (g:=g) (gs:=gs) (A:=A) (B:=B) h J⟩
 |some s=>
  refine (p0 (s:=s) h he).mono ?_;rintro _ E _ ⟨O,V⟩;exact⟨O.mono fun r _ h=>.inl h,V⟩
theorem nY {g:Nat} {A:am} {B:am} {s:Option aq} {b:Bool} (h:cK w g gs A B clean s):ag x5 ns [.pointer (some ⟨g,0,none⟩),.bool b,.int .i64 at_] w fun _ w'=>eP w g gs A B clean (s.map (aM b)) w':=by
 cases s with
 |none=>
  refine (xp h).mono ?_;rintro _ E _ J;exact⟨J.U _,dz.ext (g:=g) (gs:=gs) (A:=A) (B:=B) h J⟩
 |some s=>
  refine (p1 (s:=s) h).mono ?_;rintro _ E _ ⟨O,V⟩;exact⟨O.mono fun r _ h=>.inl h,V⟩
theorem kz {n:Int} {s:Option aq} {s':aq} (h:aQ lo hi s=some (n,s')):lo≤n∧n≤hi:=by
 cases s with
 |none=>cases h
 |some s=>exact (fW h).1
def dV (ks acc:List Int) (s:Option aq):Option (List Int×aq):=s.bind (gK ks acc)
theorem yd {acc:List Int} {s:Option aq}:dV (k::ks) acc s=match aQ 0 (k-1) s with
  |none=>none
  |some (v,s)=>gK ks (acc++[v]) s:=by
 cases s with
 |none=>rfl
 |some s=>
  show gK (k::ks) acc s=_;rw[gK];show _=match aS 0 (k-1) s with|none=>none|some (v,s)=>gK ks (acc++[v]) s
  cases aS 0 (k-1) s <;> rfl
theorem ye:∀ (t:List Int),(∀ x∈t,0≤x∧x≤ah)→(dl t).length≤20*t.length
 |[],_=>by simp[dl]
 |x::t,h=>by
  have O:=ye t fun y E=>h y (.tail _ E);have J:=h x (.head _);have U:=se 19 x.toNat (by unfold ah at J;omega) (by omega);have e:dl (x::t)=ei x.toNat++[32]++dl t:=by simp[dl]
  rw[e];simp only[u7,n9,List.length_nil];omega
set_option maxHeartbeats 4000000 in
theorem GA {g:Nat} {A B:am} {s:Option aq} {aO:y0→x1→Prop}
  (h:cK w g gs A B clean s) (aR:ay .i64 w sv sizes) (bi:∀ r,leads sv r→¬bf g gs A r∧r≠E) (bj:∀ z∈sizes,1≤z∧z≤ah) (b9:sizes.length≤100001) (bk:en w) (h1:bW g gs A B 1)
  (aS:aa w E dj [.slice none 0 0,.int .i64 0]) (aT:¬bf g gs A E) (aU:¬B E)
  (aV:∀ t w' Z gt,t.length=sizes.length→(∀ x∈t,0≤x∧x≤ah)→ad (fun r=>bf g gs A r∨r=E) w w'→aa w' E dj [Z,.int .i64 0]→ak .i64 aj w' gt Z t→w.heap.size≤gt→
   cK w' g gs A B clean ((dV sizes [] s).map (·.2))→(∀ q,dV sizes [] s=some q→t=q.1)→aO (be (dl t)) w'):
  bO (.string ⟨#[]⟩) (.int .i64 0) w fun key aI af bl=>
   O x5 (ax .lss ab false false aI (.int .i64 (sizes.length:Int))) af fun bm=>
   Split bm (O x5 (j9 an sv aI) af fun bn=>
   O x5 (x6 aj bn) af fun bo=>
   O x5 (ax .sub aj false true bo (.int .i64 1)) af fun bp=>
   ag x5 kU [.pointer (some ⟨g,0,none⟩),(.int .i64 0),bp] af fun aW al=>
   O x5 (c9 aW 0) al fun aX=>
   O x5 (c9 aW 1) al fun ca=>
   O x5 (x8 dj (.pointer (some ⟨E,0,none⟩)) 0) al fun bq=>
   O x5 (x6 an bq) al fun br=>
   aw x5 (b6 an 1 #[(0,aX)]) al fun bt bu=>
   aw x5 (l9 #[an,an] an #[br,bt]) bu fun bw aZ=>
   O x5 (x8 dj (.pointer (some ⟨E,0,none⟩)) 0) aZ fun bx=>
   aw x5 (n0 an bx bw) aZ fun(_:Unit) bz=>
   ag x5 rL [aX] bz fun bA au=>
   O x5 (ax .add bY false true bA (.string ⟨#[32]⟩)) au fun bB=>
   O x5 (ax .add bY false false key bB) au fun bD=>
   O x5 (ax .add ab false true aI (.int .i64 1)) au fun bE=>
   bl bD bE au) (aO key af):=by
 have cb:=aS.lt;have bF:=h.side;obtain⟨cc,cd,ce,bG,bH⟩:=bF;refine bO.range sizes.length (fun j key ae=>∃ t Z gt X,key=be (dl t)∧t.length=j∧(∀ x∈t,0≤x∧x≤ah)∧ad (fun r=>bf g gs A r∨r=E) w ae∧aa ae E dj [Z,.int .i64 0]∧ak .i64 aj ae gt Z t∧w.heap.size≤gt∧
  cK ae g gs A B clean X∧dV sizes [] s=dV (sizes.drop j) t X) aR.le ⟨[],_,w.heap.size,s,rfl,rfl,fun x J=>(by cases J),ad.refl _ _,aS,ak.nil _ _ _ _,r9 _,h,rfl⟩ ?_ ?_
 rotate_left
 ·rintro _ ae bI ⟨t,Z,gt,X,rfl,av,ao,ai,az,aA,aJ,aC,he⟩;refine cH (by omega) ?_;rw[List.drop_length] at he;cases X with
  |none=>
   have he:dV sizes [] s=none:=he;exact aV t ae Z gt av ao ai az aA aJ (by rw[he];exact aC) (fun q W=>by rw[he] at W;cases W)
  |some X=>
   have he:dV sizes [] s=some (t,X):=he;exact aV t ae Z gt av ao ai az aA aJ (by rw[he];exact aC) (fun q W=>by rw[he] at W;cases W;rfl)
 rintro j _ ae bI a2 ⟨t,Z,gt,X,rfl,av,ao,ai,az,aA,aJ,aC,he⟩ bJ;obtain⟨z,aK⟩:=aE (l:=sizes) a2;have bK:=bj z (x2 aK);have cg:z≤4611686018427387904:=bK.2;have bL:ay .i64 ae sv sizes:=hQ aR ai fun r Y a n c ac bM=>by
  have:=bi r ⟨a,n,c,ac,bM⟩;exact Y.elim this.1 this.2
 have gT:∀ r,bf g gs A r→r<w.heap.size:=bG;refine bC (by omega) ?_;rw[a1 an.u aj.i (by kernel_rfl) bL aK,dk,wrap_i64 (by omega) (by omega)];refine (jP aC).mono ?_;rintro _ V _ ⟨bN,n,at_,rfl,a6,bP⟩;obtain⟨aD,bQ⟩:=bN.of;have a7:0≤n∧n≤ah:=by
  cases W:aQ 0 (z-1) X with
  |none=>rw[bP W];exact⟨by omega,by unfold ah;omega⟩
  |some q=>
   rw[a6 q W];have:=kz (s':=q.2) (n:=q.1) W;exact⟨this.1,by unfold ah;omega⟩
 rw[a8,ba];have bb:=az.U aD aT;have bR:=aA.U aD fun _ bS=>by have:=gT _ bS;omega
 rw[aP dj.p 0 bb rfl];refine dM an.u aj.i rfl fun a ch bT ci ap bU=>?_;refine hr an.u aj.i rfl (bR.ext ap) bU.ls (by simp;omega) (by simp;omega) fun bc bd bV cj aL aG=>?_;have ck:=ai.size;have cl:=aD.size;have z3:=ap.size;have z4:=aG.size;rw[aF dj.p rfl];have bX:=(bb.ext ap).U aG (fun he=>by have he:E=gt:=he;omega);refine aY (g:=E) (o:=0) an.i aL.ls.cells.1 aL.ls.cells.2 bX (by simp) fun bg aM cm aN=>?_;have aN:aa bg E dj [bc,.int .i64 0]:=aN;have bZ:ad (fun r=>bf g gs A r∨r=E) w bT:=(ai.trans (aD.mono fun r _ h=>.inl h)).trans (ap.U _);have b1:ad (fun r=>bf g gs A r∨r=E) w bV:=fL bZ aG fun r Y he=>by have he:r=gt:=he;omega
 have bh:ad (fun r=>bf g gs A r∨r=E) w bg:=b1.trans (aM.mono fun r _ h=>.inr h);have b2:¬(fun r=>bf g gs A r∨r=E) 1:=fun h=>h.elim h1.1 fun h=>aU (h▸h1.2);obtain⟨m,rfl⟩:∃ m:Nat,n=(m:Int):=⟨n.toNat,by omega⟩;unfold ah at a7;refine (Gy (bk.U bh b2) (by omega)).mono ?_;rintro _ cn _ ⟨rfl,aH⟩;have cp:=se 19 m (by omega) (by omega);have cq:=ye t ao;rw[show (ByteArray.mk #[32])=strOfNums [32] from rfl,r5 (by simp;omega),r5 (by simp;omega),aB];refine bJ _ _ ⟨t++[(m:Int)],bc,bd,(aQ 0 (z-1) X).map (·.2),?_,by simp[av],fun x J=>?_,bh.trans (aH.U _),aN.ext aH,(aL.U aM (fun _ he=>by have he:bd=E:=he;omega)).ext aH,by omega,?_,?_⟩
 ·rw[EG,j6]
 ·rcases p8.1 J with J|J
  ·exact ao x J
  ·rw[p9.1 J];exact a7
 ·refine cK.ext ?_ aH;have b3:=bQ.ext ap;have b4:∀ r,bf g gs A r→¬(fun r=>r=gt) r:=fun r Y he=>by have:=gT r Y;have he:r=gt:=he;omega
  have b5:∀ r,bW g gs A B r→¬(fun r=>r=gt) r:=fun r Y he=>by have:=bH r Y.2;have he:r=gt:=he;omega
  have b7:∀ r,bf g gs A r→¬(fun r=>r=E) r:=fun r Y he=>by have he:r=E:=he;exact aT (he▸Y)
  have b8:∀ r,bW g gs A B r→¬(fun r=>r=E) r:=fun r Y he=>by have he:r=E:=he;exact aU (he▸Y.2)
  exact (b3.U aG b4 b5).U aM b7 b8
 ·rw[he,Y1 a2,show sizes[j]=z from (x3.1 aK).2,yd];cases W:aQ 0 (z-1) X with
  |none=>rfl
  |some q=>
   rw[a6 q W];rfl
def de (s:aq):Prop:=s.big=false→s.told≤16384
def hY (n:Int) (s:aq):aq:=aM (decide (16384<min (s.told+n) ah)) {s with told:=min (s.told+n) ah}
theorem GB (n:Int) (s:aq):de (hY n s):=fun h=>by
 have h:(s.big||decide (16384<min (s.told+n) ah))=false:=h;have:=of_decide_eq_false (U3.1 h).2;show min (s.told+n) ah≤16384;omega
theorem GC {g:Nat} {A B:am} {s:Option aq} {n:Int} {K:x1→Prop} (h:cK w g gs A B clean s) (av:∀ t,s=some t→0≤n∧n≤ah∧de t)
  (al:∀ w',ad (bf g gs A) w w'→cK w' g gs A B clean (s.map (hY n))→K w'):
  O x5 (bl (.pointer (some ⟨g,0,none⟩))) w fun ay=>
  O x5 (x8 bF ay 2) w fun az=>
  O x5 (x6 aj az) w fun aA=>
  O x5 (ax .add aj false false aA (.int .i64 n)) w fun aC=>
  O x5 (l6.min_ #[aj,aj] aj #[aC,(.int .i64 4611686018427387904)]) w fun aE=>
  O x5 (bl (.pointer (some ⟨g,0,none⟩))) w fun aG=>
  O x5 (x8 bF aG 2) w fun aH=>
  aw x5 (n0 aj aH aE) w fun(_:Unit) Y=>
  O x5 (bl (.pointer (some ⟨g,0,none⟩))) Y fun t77=>
  O x5 (x8 bF t77 2) Y fun aI=>
  O x5 (x6 aj aI) Y fun aJ=>
  O x5 (ax .gtr aj false true aJ (.int .i64 16384)) Y fun aK=>
  ag x5 ns [.pointer (some ⟨g,0,none⟩),aK,.int .i64 at_] Y fun _ aL=>K aL:=by
 cases s with
 |none=>
  obtain⟨W,e,big,ab,ac,told,sv,l,Z,ae,ai⟩:=id h;rw[aD bF.p 2 Z rfl,aB,kk,bB,aF bF.p rfl];refine aY (g:=g) (o:=5) aj.i rfl rfl Z (by simp[eB]) fun af E aN J=>?_;rw[aD bF.p 2 J rfl,br];have an:dz af g gs A B:=⟨W.U E,e,big,ab,ac,_,sv,l,J,ae,au.U ai E fun r _ h ak=>pY h W.2.1 ak⟩;refine (xp an).mono ?_;rintro _ V _ ao;exact al _ ((E.mono fun r _ h=>.inl h).trans (ao.U _)) (an.ext ao)
 |some s=>
  obtain⟨aU,aO,hi⟩:=av s rfl;obtain⟨W,aP,aQ,big,ab,ac,told,sv,Z,ae,ai⟩:=id h;rw[aD bF.p 2 Z rfl,aB,kk,bB,aF bF.p rfl];refine aY (g:=g) (o:=5) aj.i rfl rfl Z (by simp[eB]) fun af E aN J=>?_;have J:aa af g bF (eB gs 0 big ab ac (min (X5.wrap (told+n)) 4611686018427387904) sv):=J;rw[aD bF.p 2 J rfl,br];have key:s.big=false→min (X5.wrap (told+n)) 4611686018427387904=min (s.told+n) ah:=fun X=>by
   rw[ae.2 X];have:=hi X;unfold ah at aO ⊢;rw[wrap_i64 (by omega) (by omega)]
  have aR:cE af g gs A B {s with told:=min (s.told+n) ah} clean:=⟨W.U E,aP.U E (fun he=>W.1 he.symm) (fun r aS he=>aS.1 (.inl he)),⟨by show 0≤min _ _;unfold ah;omega,by show min _ _≤_;omega,aQ.2.2⟩,big,ab,ac,_,sv,J,⟨ae.1,key⟩,au.U ai E fun r _ h ak=>pY h W.2.1 ak⟩;refine (p1 aR).mono ?_;rintro _ V _ ⟨aT,ap⟩;refine al _ ((E.trans aT).mono fun r _ h=>.inl h) ?_;have e:aM (decide (16384<min (X5.wrap (told+n)) 4611686018427387904)) {s with told:=min (s.told+n) ah}=hY n s:=by
   cases X:s.big with
   |false=>rw[key X,←X];rfl
   |true=>simp[hY,aM,X]
  rw[e] at ap;exact ap
def gP (sizes:List Int) (s:Option aq):Option (List (List Int×Int)×aq):=s.bind (cR sizes)
def jf (w:x1) (m:Nat) (acc:List (List Int×Int)):Prop:=cr w m (acc.map fun p=>(be (dl p.1),.int .i64 1))
def iq (w:x1) (m:Nat):Prop:=∃ d,cr w m d∧ ∀ p∈d,∃ (k:ByteArray) (c:Int),p=(.string k,.int .i64 c)
theorem jf.any {acc:List (List Int×Int)} (h:jf w m acc):iq w m:=⟨_,h,fun p E=>by
 obtain⟨q,_,rfl⟩:=o8.1 E;exact⟨_,_,rfl⟩⟩
theorem GD {k:ByteArray} (h:iq w m) (U:∀ c:Int,K (.int .i64 c)):O x5 (Instr.lookup fs (.map (some m)) (.string k) false) w K:=by
 obtain⟨d,hm,V⟩:=h;have W:=Keys.str bY.u;have X:∀ p∈d,∃ s,p.1=y0.string s:=fun p E=>by obtain⟨s,c,rfl⟩:=V p E;exact⟨s,rfl⟩
 by_cases he:∃ p∈d,p.1=y0.string k
 ·obtain⟨p,E,J⟩:=he;obtain⟨j,Y⟩:=X1.1 E;obtain⟨s,c,rfl⟩:=V p E;have J:y0.string s=y0.string k:=J;rw[J] at Y;rw[nP fs.u W hm X ⟨k,rfl⟩ Y];exact U c
 ·have Z:∀ p∈d,p.1≠y0.string k:=fun p E h=>he ⟨p,E,h⟩;rw[p6 fs.u W ⟨_,_,ab.i⟩ hm X ⟨k,rfl⟩ Z];exact U 0
theorem GF {k:ByteArray} {K:Unit→x1→Prop} (h:iq w m) (V:∀ w',ad (fun r=>r=m) w w'→iq w' m→K () w'):aw x5 (Instr.mapUpdate fs (.map (some m)) (.string k) (.int .i64 c)) w K:=by
 obtain⟨d,hm,J⟩:=h;have W:∀ p∈d,∃ s,p.1=y0.string s:=fun p E=>by obtain⟨s,c,rfl⟩:=J p E;exact⟨s,rfl⟩
 refine nQ fs.u (Keys.str bY.u) hm W ⟨k,rfl⟩ (fun j v0 w' X O U=>V w' U ⟨_,O,fun p E=>?_⟩) (fun w' Y O U=>V w' U ⟨_,O,fun p E=>?_⟩)
 ·rcases W3 E with E|rfl
  ·exact J p E
  ·exact⟨_,_,rfl⟩
 ·rcases p8.1 E with E|E
  ·exact J p E
  ·rw[p9.1 E];exact⟨_,_,rfl⟩
theorem yf {b:List Int} (E:∀ x∈a,0≤x) (J:∀ x∈b,0≤x) (h:be (dl a)=be (dl b)):a=b:=by
 have h:strOfNums (dl a)=strOfNums (dl b):=y0.string.inj h;exact wF E J (str_inj (wG a) (wG b) h)
theorem sN {acc:List (List Int×Int)}:∀ p∈acc.map fun p=>(be (dl p.1),X0 .i64 1),∃ s,p.1=y0.string s:=fun p E=>by
 obtain⟨q,_,rfl⟩:=o8.1 E;exact⟨_,rfl⟩
theorem yg {acc:List (List Int×Int)} {t:List Int} (h:jf w m acc) (V:∀ p∈acc,∀ x∈p.1,0≤x) (W:∀ x∈t,0≤x):
  O x5 (Instr.lookup fs (.map (some m)) (be (dl t)) false) w K=K (.int .i64 (if t∈acc.map (·.1) then 1 else 0)):=by
 have J:=Keys.str bY.u;by_cases he:t∈acc.map (·.1)
 ·rw[if_pos he];obtain⟨p,E,rfl⟩:=o8.1 he;obtain⟨j,X⟩:=X1.1 E;rw[nP fs.u J h sN ⟨_,rfl⟩ (j:=j) (v:=.int .i64 1) (by rw[x7,X];rfl)];simp
 ·rw[if_neg he];rw[p6 fs.u J ⟨_,_,ab.i⟩ h sN ⟨_,rfl⟩ (fun p E Y=>?_)]
  ·simp
  ·obtain⟨q,U,rfl⟩:=o8.1 E;have:=yf (V q U) W Y;exact he (o8.2 ⟨q,U,this⟩)
theorem GG {acc:List (List Int×Int)} {t:List Int} {K:Unit→x1→Prop} (h:jf w m acc) (W:∀ p∈acc,∀ x∈p.1,0≤x) (X:∀ x∈t,0≤x) (Y:t∉acc.map (·.1))
  (Z:∀ w',ad (fun r=>r=m) w w'→jf w' m (acc++[(t,c)])→K () w'):aw x5 (Instr.mapUpdate fs (.map (some m)) (be (dl t)) (.int .i64 1)) w K:=by
 refine nQ fs.u (Keys.str bY.u) h sN ⟨_,rfl⟩ (fun j v0 w' J O U=>?_) (fun w' _ O U=>Z w' U ?_)
 ·rw[x7] at J;obtain⟨q,V,E⟩:=Z2.1 J;have E:be (dl q.1)=be (dl t):=congrArg Prod.fst E;have:=yf (W q (x2 V)) X E;exact absurd (o8.2 ⟨q,x2 V,this⟩) Y
 ·unfold jf;rw[j4];exact O
theorem GH {acc:List (List Int×Int)} {t:List Int} {ok:Prop} {K:Unit→x1→Prop} (U:iq w m) (aa:ok→jf w m acc∧(∀ p∈acc,∀ x∈p.1,0≤x)∧(∀ x∈t,0≤x)∧t∉acc.map (·.1))
  (V:∀ w',ad (fun r=>r=m) w w'→iq w' m→(ok→jf w' m (acc++[(t,c)]))→K () w'):
  O x5 (Instr.lookup fs (.map (some m)) (be (dl t)) false) w fun ac=>
  O x5 (ax .add ab false true ac (.int .i64 1)) w fun ae=>
  aw x5 (Instr.mapUpdate fs (.map (some m)) (be (dl t)) ae) w K:=by
 by_cases W:ok
 ·obtain⟨h1,X,Y,Z⟩:=aa W;rw[yg h1 X Y,if_neg Z,aB,wrap_i64 (by omega) (by omega)];exact GG (c:=c) h1 X Y Z fun w' J E=>V w' J E.any fun _=>E
 ·refine GD U fun af=>?_;rw[aB];exact GF U fun w' J E=>V w' J E fun h=>absurd h W
def eo {α:Type} (f:List α→aq→Option (α×aq)) (n:Nat) (acc:List α) (o:Option aq):Option (List α×aq):=o.bind (bZ f n acc)
theorem iq.U (h:iq w m) (J:ad S w w') (E:¬S m):iq w' m:=by
 obtain⟨d,h1,O⟩:=h;exact⟨d,h1.U J E,O⟩
theorem cK.words {g:Nat} {A:am} {B:am} {s:aq} (h:cK w g gs A B clean (some s)):s.toks.length≤100000:=by
 have h:cE w g gs A B s clean:=h;exact h.2.1.words.1
theorem yh {acc:List (List Int×Int)} {st:aq} {t:List Int} (O:∀ q,dV sizes [] (some st)=some q→t=q.1) (E:∀ q,aQ 0 ah ((dV sizes [] (some st)).map (·.2))=some q→c=q.1):
  (aQ 0 ah ((dV sizes [] (some st)).map (·.2))=none→dd sizes acc st=none)∧ ∀ q,aQ 0 ah ((dV sizes [] (some st)).map (·.2))=some q→dd sizes acc st=if t∈acc.map (·.1) then none else some ((t,c),q.2):=by
 have e:dV sizes [] (some st)=gK sizes [] st:=rfl;rw[e] at O E ⊢;unfold dd;cases h1:gK sizes [] st with
 |none=>exact⟨fun _=>rfl,fun q J=>(by cases J)⟩
 |some q=>
  obtain⟨X,U⟩:=q;rw[h1] at O E;have:=O _ rfl;subst this;have V:aQ 0 ah ((some (t,U)).map (·.2))=aS 0 ah U:=rfl;rw[V] at E ⊢;simp only;cases W:aS 0 ah U with
  |none=>exact⟨fun _=>rfl,fun q J=>(by cases J)⟩
  |some q=>
   obtain⟨Y,Z⟩:=q;rw[W] at E;have:=E _ rfl;subst this;exact⟨fun h=>(by cases h),fun q J=>(by cases J;rfl)⟩
set_option maxHeartbeats 8000000 in
theorem GI {g:Nat} {A B:am} {s:Option aq} {Q:y0→x1→Prop}
  (h:cK w g gs A B clean s) (cd:ay .i64 w sv sizes) (bl:∀ r,leads sv r→¬bf g gs A r∧r<w.heap.size) (ce:∀ z∈sizes,1≤z∧z≤ah) (cg:sizes.length≤100001) (ch:en w) (h1:bW g gs A B 1) (ci:(N:Int)≤ah)
  (bL:∀ v w' l,eP w g gs A B clean ((eo (dd sizes) N [] s).map (·.2)) w'→dp (dO w.heap.size) bd w' [v] (show List (List Int×Int) from l)→(∀ q,eo (dd sizes) N [] s=some q→l=q.1)→Q v w'):
  aw x5 (Instr.makeMap fs none) w fun bm W=>
 bO (.slice none 0 0) (.int .i64 0) W fun out i ai k=>
  bX (α:=y0→x1→Prop) (fun(cj:y0) (aE:x1)=>
   Split cj (aw x5 (Instr.alloc dj true (.tuple #[])) aE fun x V=>
  O x5 (Y4 #[an] ab #[sv]) V fun ck=>
  bO (.string ⟨#[]⟩) (.int .i64 0) V fun key bo aG cl=>
   O x5 (ax .lss ab false false bo ck) aG fun cm=>
   Split cm (O x5 (j9 an sv bo) aG fun cn=>
   O x5 (x6 aj cn) aG fun cp=>
   O x5 (ax .sub aj false true cp (.int .i64 1)) aG fun cq=>
   ag x5 kU [.pointer (some ⟨g,0,none⟩),(.int .i64 0),cq] aG fun bM aN=>
   O x5 (c9 bM 0) aN fun bN=>
   O x5 (c9 bM 1) aN fun dJ=>
   O x5 (x8 dj x 0) aN fun ct=>
   O x5 (x6 an ct) aN fun cu=>
   aw x5 (b6 an 1 #[(0,bN)]) aN fun cw al=>
   aw x5 (l9 #[an,an] an #[cu,cw]) al fun cz bP=>
   O x5 (x8 dj x 0) bP fun cA=>
   aw x5 (n0 an cA cz) bP fun(_:Unit) cB=>
   ag x5 rL [bN] cB fun cC a1=>
   O x5 (ax .add bY false true cC (.string ⟨#[32]⟩)) a1 fun cD=>
   O x5 (ax .add bY false false key cD) a1 fun cE=>
   O x5 (ax .add ab false true bo (.int .i64 1)) a1 fun cF=>
   cl cE cF a1)
    (ag x5 kU [.pointer (some ⟨g,0,none⟩),(.int .i64 0),(.int .i64 4611686018427387904)] aG fun bQ a2=>
  O x5 (c9 bQ 0) a2 fun cG=>
  O x5 (c9 bQ 1) a2 fun cH=>
  O x5 (x8 dj x 1) a2 fun cI=>
  aw x5 (n0 aj cI cG) a2 fun(_:Unit) cJ=>
  bX (α:=x1→Prop) (fun(aH:x1)=>
   O x5 (Instr.lookup fs bm key false) aH fun cL=>
   O x5 (ax .add ab false true cL (.int .i64 1)) aH fun cM=>
   aw x5 (Instr.mapUpdate fs bm key cM) aH fun(_:Unit) aO=>
   O x5 (x6 dj x) aO fun cN=>
   aw x5 (b6 gH 1 #[(0,cN)]) aO fun cO aV=>
   aw x5 (l9 #[gH,gH] gH #[out,cO]) aV fun cP a6=>
   O x5 (ax .add aj false true i (.int .i64 1)) a6 fun cQ=>
  k cP cQ a6) fun bR=>
  bX (α:=y0→x1→Prop) (fun(cR:y0) (az:x1)=>
   Split cR (ag x5 kV [.pointer (some ⟨g,0,none⟩),(.int .i64 4),cH] az fun dK bS=>
    bR bS)
    (bR az)) fun bT=>
  ag x5 iP [.pointer (some ⟨g,0,none⟩)] cJ fun cS aP=>
  Split cS (O x5 (Instr.lookup fs bm key false) aP fun cT=>
  O x5 (ax .gtr ab false true cT (.int .i64 0)) aP fun cU=>
  bT cU aP)
   (bT (.bool false) aP)))
    (Q out aE)) fun bU=>
  O x5 (ax .lss aj false false i (.int .i64 (N:Int))) ai fun cV=>
  Split cV (ag x5 iP [.pointer (some ⟨g,0,none⟩)] ai fun cW cY=>
  bU cW cY)
   (bU (.bool false) ai):=by
 obtain⟨dL,dM,dN,cZ,a7⟩:=h.side;have gT:∀ r,bf g gs A r→r<w.heap.size:=cZ;unfold ah at ci;refine p5 fun X W dP bp bt=>?_;have dQ:=bp.size;have dR:=bt.lt;generalize Z:eo (dd sizes) N [] s=bV at bL;refine⟨fun out bu ai=>∃ (i:Nat) (acc:List (List Int×Int)) (so:Option aq),bu= .int .i64 (i:Int)∧i≤N∧ad (bf g gs A) w ai∧W.heap.size≤ai.heap.size∧dp (dO W.heap.size) bd ai [out] acc∧cK ai g gs A B clean so∧
   bV=eo (dd sizes) (N-i) acc so∧iq ai X∧acc.length≤100001∧ ∀ st,so=some st→jf ai X acc∧(∀ p∈acc,∀ x∈p.1,0≤x)∧acc.length+st.toks.length≤100000,
  fun _ bu _=>N-(bk bu).toNat,⟨0,[],s,rfl,Z5 _,bp.U _,r9 _,iY,h.ext bp,Z.symm,⟨[],bt,fun p av=>(by cases av)⟩,by simp,fun st c0=>⟨bt,fun p av=>(by cases av),?_⟩⟩,?_⟩
 ·subst c0;have:=h.words;simpa using this
 rintro out _ ai ⟨i,acc,so,rfl,dS,bZ,z9,b1,bw,bb,c1,dT,bx⟩;refine aI (fun v aE=>Ext ai aE∧((v= .bool true∧i<N∧ ∃ st,so=some st)∨(v= .bool false∧(so=none∨i=N)))) ?_ ?_
 rotate_left
 ·intro dU bz;rw[aC,af];refine⟨fun c2=>?_,fun dW=>bz _ _ ⟨Ext.refl _,.inr ⟨rfl,.inr (by omega)⟩⟩⟩;refine (mE bw).mono ?_;rintro _ aE _ ⟨rfl,aA⟩;cases so with
  |none=>exact bz _ _ ⟨aA,.inr ⟨rfl,.inl rfl⟩⟩
  |some st=>exact bz _ _ ⟨aA,.inl ⟨rfl,by omega,st,rfl⟩⟩
 rintro _ aE ⟨aA,c3⟩;rcases c3 with⟨rfl,c2,st,rfl⟩|⟨rfl,c4⟩
 rotate_left
 ·rw[aR];have b2:bV=so.map fun st=>(acc,st):=by
   rcases c4 with rfl|rfl
   ·exact bb
   ·rw[X9] at bb;rw[bb];cases so <;> rfl
  refine bL out aE acc (eP.mk (bZ.trans (aA.U _)) ?_) (dc (au.mono b1 (fun r _ h=>by have h:W.heap.size≤r:=h;show w.heap.size≤r;omega) fun _ _ h=>h) aA) (fun q ao=>?_)
  ·rw[b2,Option.map_map];have e:X3 ((fun x=>x.2)∘fun st=>(acc,st)) so=so:=by cases so <;> rfl
   rw[e];exact bw.ext aA
  ·rw[b2] at ao;cases so with
   |none=>cases ao
   |some st=>cases ao;rfl
 rw[bq];obtain⟨bx,bA,dX⟩:=bx st rfl;have dY:=aA.size;refine bg dj.i fun Y V dZ b3 b4=>?_;have aW:=aA.trans b3;have bB:ad (bf g gs A) w V:=bZ.trans (aW.U _);have b5:ay .i64 V sv sizes:=hQ cd bB fun r E a n c ac c5=>(bl r ⟨a,n,c,ac,c5⟩).1 E;rw[aK an.u b5];have bc:¬bf g gs A Y:=fun Z=>by have:=gT _ Z;omega
 refine GA (s:=some st) (bw.ext aW) b5 (fun r E=>⟨(bl r E).1,by have:=(bl r E).2;omega⟩) ce cg (ch.U bB h1.1) h1 b4 bc (fun c6=>by have:=a7 _ c6;omega) fun t aG aJ gt ea c7 b7 c8 da db de df=>?_;have eb:=b3.size;have z12:=b7.size;have ec:=b4.lt;have bC:∀ x∈t,0≤x:=fun x J=>(c7 x J).1;refine (jP de).mono ?_;rintro _ aN _ ⟨bD,c,ed,rfl,dg,ee⟩;obtain⟨be,dh⟩:=bD.of;have ef:=be.size;rw[a8,ba,aF dj.p rfl];refine aY (g:=Y) (o:=1) aj.i rfl rfl (c8.U be bc) (by simp) fun al bh eg bE=>?_;have bE:aa al Y dj [aJ,.int .i64 c]:=bE;have di:ak .i64 aj al gt aJ t:=(da.U be (fun _ Z=>by have:=gT _ Z;omega)).U bh (fun _ he=>by have he:gt=Y:=he;omega);have bF:ad (fun r=>bf g gs A r∨r=Y) V al:=(b7.trans (be.mono fun r _ h=>.inl h)).trans (bh.mono fun r _ h=>.inr h);have aL:cK al g gs A B clean ((aQ 0 ah ((dV sizes [] (some st)).map (·.2))).map (·.2)):=dh.U bh (fun r E he=>by have he:r=Y:=he;exact bc (he▸E)) (fun r E he=>by have:=a7 r E.2;have he:r=Y:=he;omega);have b8:¬(fun r=>bf g gs A r∨r=Y) X:=fun h=>h.elim (fun h=>by have:=gT _ h;omega) (fun h=>by omega);have dk:iq al X:=(c1.U (aW.U (fun _=>False)) (fun h=>h)).U bF b8;have b9:jf al X acc:=(cr.ext bx aW).U bF b8;obtain⟨bG,bH⟩:=yh (acc:=acc) df dg;refine cX (fun aH=>ad (bf g gs A) al aH∧cK aH g gs A B clean ((dd sizes acc st).map (·.2))) ?_ ?_
 ·rintro aH ⟨aS,dl⟩;have bI:¬bf g gs A X:=fun h=>by have:=gT _ h;omega
  have eh:=bh.size;have ei:=aS.size;refine GH (acc:=acc) (t:=t) (c:=c) (ok:=∃ q,dd sizes acc st=some q) (dk.U aS bI) (fun⟨q,ao⟩=>⟨cr.U b9 aS bI,bA,bC,fun aD=>?_⟩) fun aO aX dm dn=>?_
  ·cases ap:aQ 0 ah ((dV sizes [] (some st)).map (·.2)) with
   |none=>rw[bG ap] at ao;cases ao
   |some aT=>rw[bH aT ap,if_pos aD] at ao;cases ao
  have ej:=aX.size;have dq:aa aO Y dj [aJ,.int .i64 c]:=(bE.U aS bc).U aX (fun he=>by have he:Y=X:=he;omega);have dr:ak .i64 aj aO gt aJ t:=(di.U aS (fun _ Z=>by have:=gT _ Z;omega)).U aX (fun _ he=>by have he:gt=X:=he;omega);rw[bn dj.p dj.i rfl dq.range];have ca:dp (dO V.heap.size) bd aO [aJ,.int .i64 c] (t,c):=⟨[aJ],[.int .i64 c],dO V.heap.size,bd,rfl,fun _ h=>h,fun _ h=>h.elim,fun _ _ _ h=>h,au.mono (mf dr) (fun r _ h=>by subst h;exact db) (fun _ _ h=>h),rfl⟩;refine k6 (α:=List Int×Int) (a:=(t,c)) (cs:=[aJ,.int .i64 c]) (A:=dO V.heap.size) (R:=bd) gH.u dj.i (by decide) rfl ca fun u aV aU _ ds=>?_;have z22:=aU.size;have dt:dp (fun r=>dO W.heap.size r∧r<V.heap.size∧r≠Y) bd V [out] acc:=dc (au.mono (ko b1) (fun r _ h=>⟨h.1,by have:=h.2;omega,by have:=h.2;omega⟩) fun _ _ h=>h) aW;have cb:ad (fun r=>bf g gs A r∨r=Y∨r=X) V aV:=(((bF.mono fun r _ h=>h.elim .inl fun h=>.inr (.inl h)).trans (aS.mono fun r _ h=>.inl h)).trans (aX.mono fun r _ h=>.inr (.inr h))).trans (aU.U _);have du:=au.U dt cb fun r E h Z=>by
   rcases h with h|h
   ·have bi:W.heap.size≤r:=h.1;rcases Z with Z|Z|Z
    ·have:=gT _ Z;omega
    ·exact h.2.2 Z
    ·omega
   ·exact h
  refine me (α:=List Int×Int) (a:=(t,c)) (A:=dO V.heap.size) gH.u dj.i rfl du ds (dc ca aU) (fun r _ h h'=>?_) (by omega) (by omega) fun ek a6 dv aZ=>?_
  ·rcases h' with h'|h'
   ·have:=h.2;have:V.heap.size≤r:=h';omega
   ·exact h'
  have em:=aZ.size;rw[aB,wrap_i64 (by omega) (by omega)];have dw:ad (bf g gs A) w aV:=fL bB cb fun r E h=>by
   rcases h with h|h|h
   ·exact h
   ·omega
   ·omega
  have dx:ad (bf g gs A) w a6:=fL dw aZ fun r E h=>by have bi:W.heap.size≤r:=h.1;omega
  have dy:cK aV g gs A B clean ((dd sizes acc st).map (·.2)):=(dl.U aX (fun r E he=>by have he:r=X:=he;exact bI (he▸E)) (fun r E he=>by have:=a7 r E.2;have he:r=X:=he;omega)).ext aU;have dz:∀ r,bf g gs A r→¬(dO W.heap.size r∧r<V.heap.size∧r≠Y):=fun r E he=>by have:=gT _ E;have bi:W.heap.size≤r:=he.1;omega
  have dA:∀ r,bW g gs A B r→¬(dO W.heap.size r∧r<V.heap.size∧r≠Y):=fun r E he=>by have:=a7 r E.2;have bi:W.heap.size≤r:=he.1;omega
  have cc:¬(dO W.heap.size X∧X<V.heap.size∧X≠Y):=fun he=>by have bi:W.heap.size≤X:=he.1;omega
  refine⟨⟨i+1,acc++[(t,c)],(dd sizes acc st).map (·.2),rfl,by omega,dx,by omega,?_,dy.U aZ dz dA,?_,(dm.U (aU.U (fun _=>False)) (fun h=>h)).U aZ cc,by simp;omega,fun dC dD=>?_⟩,by simp only[bk];omega⟩
  ·refine au.mono dv (fun r _ h=>?_) fun _ _ h=>h;show W.heap.size≤r;rcases h with h|h|h
   ·exact h.1
   ·have h:V.heap.size≤r:=h;omega
   ·omega
  ·rw[bb,show N-i=(N-(i+1))+1 by omega];cases ae:dd sizes acc st with
   |none=>exact mw ae
   |some q=>
    obtain⟨a,dC⟩:=q;have dE:a=(t,c):=by
     cases ap:aQ 0 ah ((dV sizes [] (some st)).map (·.2)) with
     |none=>rw[bG ap] at ae;cases ae
     |some aT=>
      rw[bH aT ap] at ae;split at ae
      ·cases ae
      ·cases ae;rfl
    subst dE;exact p3 ae
  ·obtain⟨q,ao,rfl⟩:=Z2.1 dD;have ep:=(lj ao).2.2.2.1;refine⟨cr.U ((cr.ext (dn ⟨q,ao⟩) aU)) aZ cc,fun p av=>?_,by simp only[u7,V5];omega⟩;rcases p8.1 av with av|av
   ·exact bA p av
   ·rw[p9.1 av];exact bC
 ·intro er bJ;cases ap:aQ 0 ah ((dV sizes [] (some st)).map (·.2)) with
  |none=>
   rw[ap] at aL;have ae:=bG ap;refine aI (fun v az=>Ext al az∧v= .bool false) ?_ ?_
   ·rintro _ az ⟨aM,rfl⟩;rw[aR];exact bJ _ ⟨aM.U _,by rw[ae];exact aL.ext aM⟩
   ·intro dF bK;refine (mE aL).mono ?_;rintro _ aP _ ⟨rfl,bj⟩;rw[show ((none:Option (Int×aq)).map (·.2)).isSome=false from rfl,aR];exact bK _ _ ⟨bj,rfl⟩
  |some aT=>
   rw[ap] at aL;have ae:=bH aT ap;refine aI (fun v az=>Ext al az∧v= .bool (decide (t∈acc.map (·.1)))) ?_ ?_
   ·rintro _ az ⟨aM,rfl⟩;rw[af];refine⟨fun aD=>?_,fun dG=>?_⟩
    ·refine (Gz (aL.ext aM) (by omega)).mono ?_;rintro _ bS _ bD;obtain⟨dH,dI⟩:=bD.of;exact bJ _ ⟨(aM.U _).trans dH,by rw[ae,if_pos aD];exact dI⟩
    ·exact bJ _ ⟨aM.U _,by rw[ae,if_neg dG];exact aL.ext aM⟩
   ·intro dF bK;refine (mE aL).mono ?_;rintro _ aP _ ⟨rfl,bj⟩;rw[show ((some aT:Option (Int×aq)).map (·.2)).isSome=true from rfl,bq,yg (cr.ext b9 bj) bA bC,br];refine bK _ _ ⟨bj,?_⟩;congr 1;by_cases aD:t∈acc.map (·.1)
    ·rw[if_pos aD,decide_eq_true aD];rfl
    ·rw[if_neg aD,decide_eq_false aD];rfl
theorem yi (sizes:List Int) (s:Option aq):gP sizes s=match aQ (-ah) ah s with
 |none=>none
 |some (n,s)=>
  if n<0 then match s.shared[(-n-1).toNat]? with
   |none=>none
   |some (z,l)=>if z=sizes then some (l,s) else none
  else bZ (dd sizes) n.toNat [] (hY n s):=by
 cases s with
 |none=>rfl
 |some s=>
  show cR sizes s=_;unfold cR;show _=match aS (-ah) ah s with
   |none=>none
   |some (n,s)=>
    if n<0 then match s.shared[(-n-1).toNat]? with
     |none=>none
     |some (z,l)=>if z=sizes then some (l,s) else none
    else bZ (dd sizes) n.toNat [] (hY n s)
  cases aS (-ah) ah s <;> rfl
theorem yj {m:Bool} {S R:am} {a:gN} (h:au.rep (α:=gN) m S R w cs a):∃ u v,cs=[u,v]∧au.rep (α:=List Int) false bd R w [u] a.1∧au.rep (α:=List (List Int×Int)) false bd R w [v] a.2:=by
 obtain⟨c,d,J,O,rfl,_,_,_,h1,E⟩:=h;have h1:au.rep (α:=List Int) false bd R w c a.1:=h1;have E:au.rep (α:=List (List Int×Int)) false bd R w d a.2:=E;obtain⟨u,rfl⟩:=V7.1 (show c.length=1 from au.len h1);obtain⟨v,rfl⟩:=V7.1 (show d.length=1 from au.len E);exact⟨u,v,rfl,h1,E⟩
set_option maxHeartbeats 4000000 in
theorem GJ {g:Nat} {A B:am} {s:Option aq}
  (h:cK w g gs A B clean s) (hi:∀ t,s=some t→de t) (aT:ay .i64 w sv sizes) (ai:∀ r,leads sv r→¬bf g gs A r∧r<w.heap.size) (aU:∀ z∈sizes,1≤z∧z≤ah) (aV:sizes.length≤100001) (aW:en w) (h1:bW g gs A B 1):
  ag x5 CG [.pointer (some ⟨g,0,none⟩),sv] w fun v w'=>eP w g gs A B clean ((gP sizes s).map (·.2)) w'∧ ∃ l,Seen (fun r=>bW g gs A B r∨w.heap.size≤r) w' [v] (show List (List Int×Int) from l)∧ ∀ q,gP sizes s=some q→l=q.1:=by
 have aX:=h.side;obtain⟨bz,bA,bB,aY,bC⟩:=id aX;have gT:∀ r,bf g gs A r→r<w.heap.size:=aY;refine ap func165 ?_;refine (jP (lo:=-ah) (hi:=ah) h).mono ?_;rintro _ ao _ ⟨aZ,n,at_,rfl,au,a1⟩;obtain⟨aj,aJ⟩:=aZ.of;have bD:=aj.size;have J:=yi sizes s;rw[a8,ba];have aK:ay .i64 ao sv sizes:=hQ aT aj fun r X a n c ac aw=>(ai r ⟨a,n,c,ac,aw⟩).1 X;have bE:∀ r,leads sv r→¬bf g gs A r∧r<ao.heap.size:=fun r X=>⟨(ai r X).1,by have:=(ai r X).2;omega⟩;have rest:∀ V,Ext ao V→(∀ q,aQ (-ah) ah s=some q→¬n<0)→ ∀ N:Nat,n=(N:Int)→(N:Int)≤ah→ ∀ W,ad (bf g gs A) V W→cK W g gs A B clean (((aQ (-ah) ah s).map (·.2)).map (hY n))→
   ∀ v w' l,eP W g gs A B clean ((eo (dd sizes) N [] (((aQ (-ah) ah s).map (·.2)).map (hY n))).map (·.2)) w'→dp (dO W.heap.size) bd w' [v] (show List (List Int×Int) from l)→(∀ q,eo (dd sizes) N [] (((aQ (-ah) ah s).map (·.2)).map (hY n))=some q→l=q.1)→
   eP w g gs A B clean ((gP sizes s).map (·.2)) w'∧ ∃ l,Seen (fun r=>bW g gs A B r∨w.heap.size≤r) w' [v] (show List (List Int×Int) from l)∧ ∀ q,gP sizes s=some q→l=q.1:=by
  intro V O ak N ax az W Z aA v w' l a2 a6 a7;obtain⟨bb,bc⟩:=a2.of;have be:=O.size;have z3:=Z.size;have e:gP sizes s=eo (dd sizes) N [] (((aQ (-ah) ah s).map (·.2)).map (hY n)):=by
   rw[J];cases E:aQ (-ah) ah s with
   |none=>rfl
   |some q=>
    obtain⟨bg,aa⟩:=q;have:=au _ E;subst this;simp only;rw[if_neg (ak _ E),ax,j6];rfl
  rw[e];refine⟨eP.mk (((aj.trans (O.U _)).trans Z).trans bb) bc,l,pz a6 fun r _ h=>?_,a7⟩;rcases h with h|h
  ·have h:W.heap.size≤r:=h;exact .inr (by omega)
  ·exact h.elim
 refine aI (fun v V=>Ext ao V∧v= .bool (decide (n<0∧(aQ (-ah) ah s).isSome=true))) ?_ ?_
 rotate_left
 ·intro bh an;refine (mE aJ).mono ?_;rintro _ V _ ⟨rfl,O⟩;cases E:aQ (-ah) ah s with
  |none=>
   rw[show ((none:Option (Int×aq)).map (·.2)).isSome=false from rfl,aR];exact an _ _ ⟨O,by rw[decide_eq_false];rintro⟨_,h⟩;rw[E] at h;cases h⟩
  |some q=>
   rw[show ((some q:Option (Int×aq)).map (·.2)).isSome=true from rfl,bq,aC];exact an _ _ ⟨O,by congr 1;rw[X8,decide_eq_true_eq,decide_eq_true_eq,E];exact⟨fun h=>⟨h,rfl⟩,fun h=>h.1⟩⟩
 rintro _ V ⟨O,rfl⟩;have ab:=aJ.ext O;have be:=O.size;rw[af];refine⟨fun ak=>?_,fun bi=>?_⟩
 rotate_left
 ·have ak:∀ q,aQ (-ah) ah s=some q→¬n<0:=fun q E h=>bi ⟨h,by rw[E];rfl⟩;obtain⟨N,ax,az⟩:∃ N:Nat,n=(N:Int)∧(N:Int)≤ah:=by
   cases E:aQ (-ah) ah s with
   |none=>rw[a1 E];exact⟨0,rfl,by unfold ah;omega⟩
   |some q=>
    have h1:=ak q E;have bj:=kz (n:=q.1) (s':=q.2) E;have bk:=au q E;exact⟨n.toNat,by omega,by omega⟩
  refine GC (at_:=at_) ab (fun t bl=>?_) fun W Z aA=>?_
  ·obtain⟨q,E,rfl⟩:=Z2.1 bl;have bj:=kz (n:=q.1) (s':=q.2) E;have bk:=au q E;refine⟨by omega,by omega,?_⟩;cases s with
   |none=>cases E
   |some s0=>
    have aL:=(cB (n:=q.1) (s':=q.2) E).eqs;have aM:=hi s0 rfl;intro aN;rw[aL.1];rw[aL.2.1] at aN;exact aM aN
  ·have z3:=Z.size;have bm:ad (bf g gs A) w W:=(aj.trans (O.U _)).trans Z;subst ax;refine GI (N:=N) aA ((hQ (aK.ext O) Z fun r X a n c ac aw=>(ai r ⟨a,n,c,ac,aw⟩).1 X)) (fun r X=>⟨(ai r X).1,by have:=(ai r X).2;omega⟩) aU aV (aW.U bm h1.1) h1 az fun v w' l a b c=>?_;exact rest V O ak N rfl az W Z aA v w' l a b c
 ·obtain⟨bn,bo⟩:=ak;obtain⟨⟨bg,aa⟩,E⟩:=Option.isSome_iff_exists.1 bo;have:=au _ E;subst this;have bG:=kz E;rw[E] at J ab;simp only at J;rw[if_pos bn] at J;have ab:cE V g gs A B aa clean:=ab;obtain⟨_,aM,bH,big,bI,bK,told,bL,aB,bM,aE⟩:=id ab;have bN:ah=4611686018427387904:=rfl;refine aI (fun v W=>Ext V W∧v= .bool (decide (gP sizes s=none))) ?_ ?_
  ·rintro _ W ⟨Y,rfl⟩;rw[af];refine⟨fun bp=>?_,fun aO=>?_⟩
   ·refine (p0 (ab.ext Y) (by omega)).mono ?_;rintro _ bO _ ⟨bt,bu⟩;rw[bp];refine⟨eP.mk (((aj.trans (O.U _)).trans (Y.U _)).trans (bt.mono fun r _ h=>.inl h)) bu,[],iY,fun q E=>by cases E⟩
   ·cases al:aa.shared[(-n-1).toNat]? with
    |none=>rw[al] at J;exact absurd J aO
    |some q=>
     obtain⟨z,l⟩:=q;rw[al] at J;simp only at J;have bw:z=sizes:=by
      by_cases ae:z=sizes
      ·exact ae
      ·rw[if_neg ae] at J;exact absurd J aO
     rw[if_pos bw] at J;rw[aD bF.p 3 (aB.ext Y) rfl,jJ,wrap_i64 (by omega) (by omega),dk,wrap_i64 (by omega) (by omega)];refine pB (α:=gN) (m:=true) (S:=A) (R:=bW g gs A B) (i:=(-n-1).toNat) (a:=(z,l)) (by omega) fI.u hL.i (dc aE Y) al fun b o cs aG aH=>?_;obtain⟨u,v,rfl,hu,ac⟩:=yj aH;rw[aF hL.p rfl,av (by kernel_rfl) (aG 1 v rfl)];rw[J];refine⟨eP.mk ((aj.trans (O.U _)).trans (Y.U _)) (ab.ext Y),l,pz ac fun r _ h=>?_,fun q E=>by cases E;rfl⟩;rcases h with h|h
     ·exact h.elim
     ·exact .inl h
  ·intro bh an;rw[jJ,wrap_i64 (by omega) (by omega),aD bF.p 3 aB rfl,iZ fI.u aE,br,af];refine⟨fun aP=>an _ _ ⟨Ext.refl _,?_⟩,fun aS=>?_⟩
   ·have aP:(aa.shared.length:Int)<0-n:=aP;rw[c8 (by omega)] at J;rw[decide_eq_true J]
   ·have aS:¬(aa.shared.length:Int)<0-n:=aS;have bx:(-n-1).toNat<aa.shared.length:=by omega
    obtain⟨⟨z,l⟩,al⟩:∃ q,aa.shared[(-n-1).toNat]? =some q:=⟨_,x4 bx⟩;rw[aD bF.p 3 aB rfl,jJ,wrap_i64 (by omega) (by omega),dk,wrap_i64 (by omega) (by omega)];refine pB (α:=gN) (m:=true) (S:=A) (R:=bW g gs A B) (i:=(-n-1).toNat) (a:=(z,l)) (by omega) fI.u hL.i aE al fun b o cs aG aH=>?_;obtain⟨u,v,rfl,hu,ac⟩:=yj aH;rw[aF hL.p rfl,av (by kernel_rfl) (aG 0 u rfl)];refine (Ed (kr hu) (aK.ext O)).mono ?_;rintro _ W _ ⟨rfl,Y⟩;rw[bJ];refine an _ _ ⟨Y,?_⟩;rw[al] at J;simp only at J;by_cases ae:z=sizes
    ·rw[if_pos ae] at J;rw[decide_eq_true ae,decide_eq_false (by rw[J];simp)];rfl
    ·rw[if_neg ae] at J;rw[decide_eq_false ae,decide_eq_true J];rfl
abbrev mF (n:Nat):am:=fun r=>r<n
def nZ (n:Int) (k:Nat) (s:Option aq):Option (List Int×aq):=s.bind (dN n k)
theorem GK {g k:Nat} {A B:am} {s:Option aq} {m:Int} (h:cK w g gs A B clean s) (O:k≤4611686018427387904) (hm:0≤m∧m≤1000000):
  ag x5 vv [.pointer (some ⟨g,0,none⟩),.int .i64 (k:Int),.int .i64 m] w fun v w'=>eP w g gs A B clean ((nZ m k s).map (·.2)) w'∧
   ∃ gr l,ak .i64 aj w' gr v l∧(∀ r,leads v r→w.heap.size≤r)∧l.length≤100001∧ ∀ q,nZ m k s=some q→l=q.1:=by
 cases s with
 |some s=>exact Fu (s:=s) h O hm
 |none=>
  have h:dz w g gs A B:=h;refine ap func163 ?_;refine⟨fun out W X=>w=X∧out= .slice none 0 0∧W= .int .i64 0,fun _ _ _=>0,⟨rfl,rfl,rfl⟩,?_⟩;rintro _ _ _ ⟨rfl,rfl,rfl⟩;refine aI (fun v V=>Ext w V∧v= .bool false) ?_ ?_
  ·rintro _ V ⟨E,rfl⟩;rw[aR];exact⟨eP.mk (E.U _) (h.ext E),0,[],ak.nil _ _ _ _,fun r Y=>absurd Y (fun h=>by obtain⟨a,n,c,h,_⟩:=h;cases h),by simp,fun q Z=>by cases Z⟩
  ·intro aa J;rw[aC,af];refine⟨fun _=>?_,fun _=>J _ _ ⟨Ext.refl _,rfl⟩⟩;refine (lk h).mono ?_;rintro _ V _ ⟨rfl,E⟩;exact J _ _ ⟨E,rfl⟩
def qg (z:List Int) (l:List (List Int×Int)) (s:aq):aq:={s with shared:=s.shared++[(z,l)]}
def yk (w:x1) (g gs:Nat):Prop:=∃ (e big E J told:Int) (sv:y0),aa w g bF (eB gs e big E J told sv)∧e≠0
def fx (w:x1) (g gs:Nat) (A:am) (B:am) (clean:Bool) (s:Option aq):Prop:=match s with
 |some s=>cE w g gs A B s clean
 |none=>yk w g gs
theorem cK.q {g:Nat} {A:am} {B:am} {s:Option aq} (h:cK w g gs A B clean s):fx w g gs A B clean s:=by
 cases s with
 |some s=>exact h
 |none=>
  obtain⟨_,e,big,E,J,told,sv,l,O,U,_⟩:=h;exact⟨e,big,E,J,told,sv,O,U.1⟩
theorem fx.U {g:Nat} {A:am} {B:am} {s:Option aq} (h:fx w g gs A B clean s) (J:ad S w w') (O:¬S g) (V:∀ r,bf g gs A r→r<w.heap.size→¬S r) (W:∀ r,bW g gs A B r→¬S r):fx w' g gs A B clean s:=by
 cases s with
 |some s=>
  have h:cE w g gs A B s clean:=h;exact cE.U h J (fun r E=>V r E (h.1.2.2.2.1 r E)) W
 |none=>
  obtain⟨e,big,X,Y,told,sv,Z,aa⟩:=h;exact⟨e,big,X,Y,told,sv,Z.U J O,aa⟩
theorem fx.ext {g:Nat} {A:am} {B:am} {s:Option aq} (h:fx w g gs A B clean s) (J:Ext w w'):fx w' g gs A B clean s:=h.U (J.U fun _=>False) (fun h=>h) (fun _ _ _ h=>h) (fun _ _ h=>h)
theorem yl {g:Nat} {A:am} {B:am} {s:Option aq} (h:fx w g gs A B clean s):ag x5 iP [.pointer (some ⟨g,0,none⟩)] w fun v w'=>v= .bool s.isSome∧Ext w w':=by
 cases s with
 |none=>
  obtain⟨e,big,U,V,told,sv,E,O⟩:=h;refine (su E).mono ?_;rintro _ W _ ⟨rfl,J⟩;exact⟨by rw[decide_eq_false O];rfl,J⟩
 |some s=>exact mv h
theorem fM.aX {g:Nat} {R':Nat→Prop} (h:fM w g R toks clean) (J:ad S w w') (V:¬S g) (W:∀ r,R r→¬S r) (X:∀ r,R r→R' r):fM w' g R' toks clean:=by
 obtain⟨Y,p,a,⟨h1,Z,aa,ab,ac,ae⟩,O,af⟩:=h;exact⟨Y,p,a,⟨h1,Z,aa,ab.U J V,ac,aZ ae J fun r E=>W r (O r E)⟩,fun r E=>X r (O r E),af⟩
theorem jQ {α:Type} [au α] {m:Bool} {S R:am} {l:List α} (h:au.rep m S R w [v] l):∃ a n c,v= .slice a n c:=by
 obtain⟨vs,J,F,O,he,E,hm⟩:=kq h;obtain⟨U,b,o,base,cap,rfl,_⟩:=E;exact⟨_,_,_,rfl⟩
def jg (w:x1) (g gs:Nat) (A:am) (B:am) (R:am) (clean:Bool) (s:Option aq):Prop:=match s with
 |some s=>jc w g gs A B∧fM w gs R s.toks clean∧(0≤s.told∧s.told≤ah∧s.shared.length+s.toks.length≤100000)∧
  ∃ big E J told sv,aa w g bF (eB gs 0 big E J told sv)∧((s.big=true↔big≠0)∧(s.big=false→told=s.told))∧dp A R w [sv] (show List gN from s.shared)
 |none=>yk w g gs
theorem jg.U {g:Nat} {A R:am} {B:am} {s:Option aq} (h:jg w g gs A B R clean s) (J:ad S w w') (X:¬S g) (Y:∀ r,bf g gs A r→r<w.heap.size→¬S r) (Z:∀ r,R r→¬S r):jg w' g gs A B R clean s:=by
 cases s with
 |some s=>
  obtain⟨h1,aa,ab,big,E,O,told,sv,V,W,ac⟩:=h;have ae:=h1.2.2.2.1;exact⟨h1.U J,aa.U J (Y gs (.inr (.inl rfl)) (ae _ (.inr (.inl rfl)))) Z,ab,big,E,O,told,sv,V.U J X,W,au.U ac J fun r af h=>h.elim (fun h=>Y r (.inr (.inr h)) af) (Z r)⟩
 |none=>
  obtain⟨e,big,E,O,told,sv,V,W⟩:=h;exact⟨e,big,E,O,told,sv,V.U J X,W⟩
theorem jg.out {g:Nat} {A R B E:am} {s:Option aq} (h:jg w g gs A B R clean s) (J:∀ r,R r→bW g gs A E r) (O:∀ r,E r→r<w.heap.size):fx w g gs A E clean s:=by
 cases s with
 |some s=>
  obtain⟨⟨U,V,W,X,aj⟩,⟨Y,p,a,Z,aa,ab⟩,ac,big,ad,ae,told,sv,af,ag,ah⟩:=h;exact⟨⟨U,V,W,X,O⟩,⟨Y,p,a,Z,fun r ai=>J r (aa r ai),ab⟩,ac,big,ad,ae,told,sv,af,ag,au.mono ah (fun _ _ h=>h) fun r _ h=>J r h⟩
 |none=>exact h
theorem cK.qr {g:Nat} {A R:am} {B:am} {s:Option aq} (h:cK w g gs A B clean s) (V:∀ r,bW g gs A B r→R r):jg w g gs A B R clean s:=by
 cases s with
 |some s=>
  obtain⟨h1,⟨W,p,a,X,Y,Z⟩,aa,big,E,J,told,sv,O,U,ab⟩:=h;exact⟨h1,⟨W,p,a,X,fun r ac=>V r (Y r ac),Z⟩,aa,big,E,J,told,sv,O,U,au.mono ab (fun _ _ h=>h) fun r _ h=>V r h⟩
 |none=>
  obtain⟨_,e,big,E,J,told,sv,l,O,U,_⟩:=h;exact⟨e,big,E,J,told,sv,O,U.1⟩
set_option maxHeartbeats 2000000 in
theorem GL {g ao:Nat} {A B R:am} {s:Option aq} {aO aU u:y0} {z:List Int} {l:List (List Int×Int)} {K:x1→Prop} (h:cK w g gs A B clean s) (ap:∀ r,bW g gs A B r→R r) (aH:∀ r,R r→bW g gs A (mF w.heap.size) r)
  (aI:∀ t,s=some t→t.shared.length+1+t.toks.length≤100000) (aJ:aa w ao bt [aO,u,aU,v])
  (hu:au.rep (α:=List Int) false bd R w [u] z) (ac:au.rep (α:=List (List Int×Int)) false bd R w [v] l)
  (aV:∀ w' W,ad (bf g gs A) w w'→(∀ r,W r→A r∨w.heap.size≤r)→jg w' g gs W (mF w.heap.size) R clean (s.map (qg z l))→K w'):
  O x5 (bl (.pointer (some ⟨g,0,none⟩))) w fun av=>
  O x5 (x8 bF av 3) w fun ax=>
  O x5 (x6 fI ax) w fun aK=>
  O x5 (x8 bt (.pointer (some ⟨ao,0,none⟩)) 1) w fun t76=>
  O x5 (x6 an t76) w fun t77=>
  O x5 (x8 bt (.pointer (some ⟨ao,0,none⟩)) 3) w fun aW=>
  O x5 (x6 gH aW) w fun aZ=>
  O x5 (Instr.build hL #[(0,t77),(1,aZ)]) w fun a1=>
  aw x5 (b6 fI 1 #[(0,a1)]) w fun a2 af=>
   (Ext w af∨bR x5 (x6 fI ax) aK af∧bR x5 (x8 bF av 3) ax af∧bR x5 (bl (.pointer (some ⟨g,0,none⟩))) av af∧True)∧
   aw x5 (l9 #[fI,fI] fI #[aK,a2]) af fun a6 ay=>
    O x5 (bl (.pointer (some ⟨g,0,none⟩))) ay fun a7=>
    O x5 (x8 bF a7 3) ay fun a8=>
    aw x5 (n0 fI a8 a6) ay fun(_:Unit) ba=>K ba:=by
 obtain⟨bb,e,big,X,Y,told,sv,ai,Z,aj,bn,bc⟩:jc w g gs A B∧ ∃ e big X Y told sv,∃ ai:List gN,aa w g bF (eB gs e big X Y told sv)∧dp A R w [sv] ai∧ai.length≤100000∧
   ∀ w' W ab,jc w' g gs W (mF w.heap.size)→ad (fun r=>A r∨r=g) w w'→aa w' g bF (eB gs e big X Y told ab)→dp W R w' [ab] (ai++[((z,l):gN)])→jg w' g gs W (mF w.heap.size) R clean (s.map (qg z l)):=by
  cases s with
  |none=>
   obtain⟨h1,e,big,X,Y,told,sv,l',az,ak,aA⟩:=h;exact⟨h1,e,big,X,Y,told,sv,l',az,au.mono aA (fun _ _ h=>h) fun r _ h=>ap r h,ak.2,fun w' W ab aL _ Z aj=>⟨e,big,X,Y,told,ab,Z,ak.1⟩⟩
  |some s=>
   obtain⟨h1,be,aM,big,X,Y,told,sv,az,ak,aA⟩:=h;have aI:=aI s rfl;refine⟨h1,0,big,X,Y,told,sv,s.shared,az,au.mono aA (fun _ _ h=>h) fun r _ h=>ap r h,(show s.shared.length≤100000 by omega),fun w' W ab aL bg Z aj=>⟨aL,?_,⟨aM.1,aM.2.1,?_⟩,big,X,Y,told,ab,Z,ak,aj⟩⟩
   ·exact fM.aX be bg (fun he=>he.elim h1.2.2.1 fun h=>h1.1 h.symm) (fun r E he=>he.elim (fun h=>E.1 (.inr (.inr h))) fun h=>E.1 (.inl h)) ap
   ·show (s.shared++[(z,l)]).length+s.toks.length≤100000;simp;omega
 obtain⟨bh,aB,bi,aN,bo⟩:=id bb;rw[aD bF.p 3 Z rfl,aP bt.p 1 aJ rfl,aP bt.p 3 aJ rfl];rw[ct (cs:=#[u,v]) (by obtain⟨_,_,_,rfl⟩:=jQ hu;obtain⟨_,_,_,rfl⟩:=jQ ac;kernel_rfl)];have aQ:dp (fun _=>False) R w [u,v] ((z,l):gN):=⟨[u],[v],bd,bd,rfl,fun _ h=>h,fun _ h=>h,fun _ _ h _=>h,hu,ac⟩;refine k6 (α:=gN) (a:=(z,l)) (cs:=[u,v]) (A:=fun _=>False) (R:=R) fI.u hL.i (by decide) rfl aQ fun x bp ae _ J=>?_;have bq:=ae.size;refine⟨.inl ae,?_⟩;refine me (α:=gN) (a:=(z,l)) (A:=fun _=>False) (R:=R) fI.u hL.i rfl (dc aj ae) J (dc aQ ae) (fun r _ bj ag=>?_) (by omega) (by omega) fun aR V aC aE=>?_
 ·rcases ag with ag|ag
  ·exact ag
  ·exact (aH r ag).1 (.inr (.inr bj))
 have br:=aE.size;have bk:=(Z.ext ae).U aE aB;rw[bB,aF bF.p rfl];refine aY (g:=g) (o:=6) fI.i (pA aC) (rV aC) bk (by simp[eB]) fun al aS bu aG=>?_;have aG:aa al g bF (eB gs e big X Y told aR):=aG;have aT:ad (fun r=>A r∨r=g) w al:=((ae.U _).trans (aE.mono fun r _ h=>.inl h)).trans (aS.mono fun r _ h=>.inr h);let W:am:=fun r=>(A r∨w.heap.size≤r)∧r<V.heap.size;have bw:g<w.heap.size:=aN g (.inl rfl);have bx:gs<w.heap.size:=aN gs (.inr (.inl rfl));have bm:=au.mono (S':=W) (R':=R) aC (fun r E h=>⟨h.elim .inl fun h=>h.elim False.elim fun h=>.inr (by omega),E⟩) (fun r E h=>h);refine aV al W (aT.mono fun r _ h=>h.elim (fun h=>.inr (.inr h)) .inl) (fun r E=>E.1) (bc al W aR ⟨bh,fun h=>h.1.elim aB fun h=>by omega,fun h=>h.1.elim bi fun h=>by omega,fun r E=>?_,?_⟩ aT aG (au.U bm aS fun r E ah he=>?_))
 ·rcases E with rfl|rfl|E
  ·omega
  ·omega
  ·have:=E.2;omega
 ·intro r E;have E:r<w.heap.size:=E;omega
 ·have he:r=g:=he;subst he;rcases ah with ah|ah
  ·exact ah.1.elim aB fun h=>by omega
  ·exact (aH _ ah).1 (.inl rfl)
end Go.Proofs.YthjegppepbbojaaGreatDoor
