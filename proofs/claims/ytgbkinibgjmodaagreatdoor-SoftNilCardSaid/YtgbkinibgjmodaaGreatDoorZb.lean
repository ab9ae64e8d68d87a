/- own texts, made small by a tool (wip/ holds them as they were written): no statement of the seat. -/
import Derived.Test.YtgbkinibgjmodaaGreatDoorZa
set_option linter.unusedVariables false
set_option linter.unusedSimpArgs false
set_option linter.unnecessarySimpa false
open Array renaming getElem?_eq_some_iff→o4,getElem?_toList→V9
open BitVec renaming ofInt→V0
open Bool renaming not_true→Z3,not_false→Y8,and_eq_true→X2,eq_iff_iff→X5,or_eq_false_iff→V7
open Decidable renaming not_not→Z7
open Go renaming Value→x1,World→x2,TypeId→u5,IntKind→r9,Builtin→n0,Program→Y3,Oper→W0,Operand→V5
open Go.Addr renaming add_mid→W5
open Go.Builtin renaming append_→l5,len_→Z8
open Go.Instr renaming loadAt→x7,fieldAt→x8,storeAt→o7,indexAt→j4,buildSlice→j9,extract→c9,sliceAt→Y9
open Go.IntKind renaming i64→X0,u64→X9
open Go.Proofs.Tryz renaming prog→x5
open Go.Result renaming andThen→Z6
open Go.Sem renaming run_bind→Z4,run_pure→Z9
open Go.Sort renaming Holds→V6
open Go.Value renaming int→Y5
open Int renaming toNat_natCast→c8
open List renaming getElem?_eq_getElem→y0,getElem?_eq_some_iff→x3,mem_of_getElem?→x4,getElem?_map→x6,replicate→v8,take_add_one→u4,getD_eq_getElem?_getD→u6,length_map→u7,length_append→r8,mem_singleton→p8,mem_append→p9,take_length→o3,length_take→o5,mem_map→o6,eq_nil_of_length_eq_zero→o8,map_append→o9,length_cons→l6,getElem?_eq_none→c6,getElem?_take_of_lt→c7,take_of_length_le→b6,getElem?_append_left→Z0,getElem?_append_right→Z2,getElem?_set→Y0,range→Y1,drop_eq_getElem_cons→Y2,ext_getElem?→Y4,mem_iff_getElem?→Y6,pairwise_iff_getElem→X3,length_set→X4,length→X7,append_assoc→X8,flatMap_cons→W7,length_eq_one_iff→W8,mem_or_eq_of_mem_set→V2,append_nil→V4,mem_cons→V8,getElem?_set_self→U1,length_singleton→U2
open Nat renaming le_refl→u9,zero_le→Z1,le_trans→Z5,mul_le_mul_right→Y7,sub_self→X6,add_mul→W3,beq→W6,mul_one→W9,zero_add→V3
open Option renaming some→n9,toList_some→l9,map_some→j6,isNone_some→c5,map_eq_some_iff→b8,map→X1
open Option.some renaming inj→j5,injEq→b9
open Prod.mk renaming injEq→V1
namespace Go.Vc
open Go Go.RowKit
set_option maxRecDepth 100000
theorem CX:(⟨#[]⟩:ByteArray)=strOfNums []:=rfl
theorem CY {E:x1→x1→x1→x2→Prop} {B:(x1→x1→x1→x2→Prop)→Prop} (G:x1→x1→x1→x2→Prop) (h1:∀ t u v w,G t u v w→E t u v w)
  (O:∀ J:x1→x1→x1→x2→Prop,(∀ t u v w,G t u v w→J t u v w)→B J):bR E B:=O E h1
theorem uU {E:x1→x1→x1→x1→x2→Prop} {B:(x1→x1→x1→x1→x2→Prop)→Prop} (G:x1→x1→x1→x1→x2→Prop) (h1:∀ s t u v w,G s t u v w→E s t u v w)
  (O:∀ J:x1→x1→x1→x1→x2→Prop,(∀ s t u v w,G s t u v w→J s t u v w)→B J):bR E B:=O E h1
abbrev bb (l:List Int):x1:=.string (strOfNums l)
def Bytes (l:List Int):Prop:=∀ b∈l,0≤b∧b<256
theorem jK (l:List Int):(strOfNums l).size=l.length:=strOfNums_size l
theorem CZ {l:List Int} (h:Bytes l) {i:Nat} {b:Int} (hi:l[i]? =some b):(strOfNums l)[i]? =some (UInt8.ofNat b.toNat)∧((UInt8.ofNat b.toNat).toNat:Int)=b:=by
 have U:=h b (x4 hi);have J:=x3.1 hi;refine⟨?_,by rw[UInt8.toNat_ofNat'];omega⟩;have O:i<(strOfNums l).size:=by rw[jK];exact J.1
 rw[getElem?_pos (strOfNums l) i O];congr 1;show (strOfNums l).data[i]=_;have E:(strOfNums l).data.toList[i]? =some (UInt8.ofNat b.toNat):=by rw[strOfNums_data,x6,hi];rfl
 rw[V9] at E;exact (o4.1 E).2
theorem str_inj {a b:List Int} (E:Bytes a) (O:Bytes b) (h:strOfNums a=strOfNums b):a=b:=by
 have h1:(strOfNums a).data.toList=(strOfNums b).data.toList:=by rw[h]
 rw[strOfNums_data,strOfNums_data] at h1;have key:∀ {l:List Int},Bytes l→(l.map fun n=>UInt8.ofNat n.toNat).map (fun u=>((u.toNat:Nat):Int))=l:=fun {l} U=>by
  rw[List.map_map]
  conv=>rhs;rw[←List.map_id l]
  refine List.map_congr_left fun x J=>?_;have:=U x J;show (((UInt8.ofNat x.toNat).toNat:Nat):Int)=x;rw[UInt8.toNat_ofNat'];omega
 rw[←key E,←key O,h1]
theorem C0 (a b:List Int):strOfNums a++strOfNums b=strOfNums (a++b):=by
 apply ByteArray.ext;rw[ByteArray.data_append];simp[strOfNums]
theorem C1 (l:List Int) (i j:Nat):(strOfNums l).extract i j=strOfNums ((l.take j).drop i):=by
 apply ByteArray.ext;rw[ByteArray.data_extract];apply Array.toList_inj.1;rw[Array.toList_extract];simp[strOfNums,List.extract_eq_take_drop,List.map_drop,List.map_take,List.drop_take]
theorem uV (l:List Int):(strOfNums l).toList=l.map fun n=>UInt8.ofNat n.toNat:=by
 rw[ByteArray.toList_eq];exact strOfNums_data l
theorem uW {a b:List Int} (E:Bytes a) (J:Bytes b):((strOfNums a).toList == (strOfNums b).toList)=decide (a=b):=by
 rw[X5,beq_iff_eq,decide_eq_true_eq,uV,uV];refine⟨fun h=>str_inj E J ?_,fun h=>by rw[h]⟩;unfold strOfNums;rw[h]
section
variable {P:Y3} {w:x2}
theorem kv {t E:u5} {l:List Int} {K:x1→Prop} (J:P.underlying t=some .string):O P (Z8 #[t] E #[bb l]) w K=K (.int .i64 l.length):=O.of fun w' _=>by
 simp[Z8,run_underlying J,goInt,jK]
theorem mz {t:u5} {k:r9} {y b:Int} {i:Nat} {l:List Int} {K:x1→Prop} (E:y=(i:Int)) (J:P.underlying t=some .string) (U:Bytes l) (hi:l[i]? =some b):O P (Instr.index t (bb l) (.int k y)) w K=K (.int .u8 b):=O.of fun w' _=>by
 subst E;obtain⟨h1,V⟩:=CZ U hi;have e:(0:Int)≤(i:Int):=by omega
 simp only[Instr.index,asIntOf,Z4,Z9,Z6,run_underlying J];rw[if_pos e,c8,h1];simp only[Z9,V]
theorem qQ {t:u5} {cx cy:Bool} {a b:List Int} {K:x1→Prop} (h:a.length+b.length≤9223372036854775807):O P (aB .add t cx cy (bb a) (bb b)) w K=K (bb (a++b)):=O.of fun w' _=>by
 have:=run_string_add_sum (P:=P) (w:=w') (strOfNums a) (strOfNums b) (by rw[jK,jK];exact h);simp only[aB,eqGuard,binOp];simp[this,C0]
theorem uX {t:u5} {cx cy:Bool} {a b:List Int} {K:x1→Prop} (E:Bytes a) (J:Bytes b):O P (aB .eql t cx cy (bb a) (bb b)) w K=K (.bool (decide (a=b))):=O.of fun w' _=>by
 simp[aB,eqGuard,binOp,Op.stringOp,uW E J]
theorem C2 {t:u5} {cx cy:Bool} {a b:List Int} {K:x1→Prop} (E:Bytes a) (J:Bytes b):O P (aB .neq t cx cy (bb a) (bb b)) w K=K (.bool (decide (a≠b))):=O.of fun w' _=>by
 simp[aB,eqGuard,binOp,Op.stringOp,uW E J]
theorem uY {t:u5} {k:r9} {y:Int} {i:Nat} {l:List Int} {K:x1→Prop} (E:y=(i:Int)) (J:P.underlying t=some .string) (hi:i≤l.length):O P (Y9 t (bb l) (some (.int k y)) none none) w K=K (bb (l.drop i)):=O.of fun w' _=>by
 have U:=od (P:=P) w' (sl:=false) (n:=(strOfNums l).size) (c:=(strOfNums l).size) (low:=some (.int k y)) (high:=none) (mx:=none) (l:=i) (h:=(strOfNums l).size) (m:=(strOfNums l).size) (ki i y E) hd eb (by rw[jK];exact hi) (u9 _) (u9 _);have e:(strOfNums l).extract i (strOfNums l).size=strOfNums (l.drop i):=by rw[C1,jK,o3]
 simp[Y9,Instr.slice,run_underlying J,U,e]
theorem qR {s t e:u5} {v:x1} {l:List Int} {K:x1→Prop} (E:P.underlying s=some (.slice e)) (he:P.underlying e=some (.int .u8)) (U:P.underlying t=some .string) (h:aC .u8 w v l):O P (convert s t v) w K=K (bb l):=O.of fun w' J=>by
 obtain⟨V,b,o,base,cap,rfl,_,_,X,Y⟩:=h.ext J;have V:l.length=l.length*1:=by simpa using V
 by_cases Z:0<l.length
 ·rw[X Z];refine run_convert_bytes_arg w' s e E he b o l.length cap l rfl (fun i hi=>?_) t U;have W:l[i]? =some l[i]:=y0 hi;rw[u6,W];exact Y i _ (il W)
 ·have aa:l=[]:=o8 (by omega);subst aa;cases base with
  |none=>
   rw[run_convert_bytes_nil w' s e E he _ _ t U];rfl
  |some a=>
   rw[run_convert_bytes_string w' s t e _ _ _ E he U];have:=run_bytesToString (P:=P) w' a 0 cap [] (by have:=run_loadCells_list (P:=P) w' a [] (fun j v ab=>by simp at ab);simpa using this);simp only[List.length_nil];rw[this];rfl
theorem qS {s t e:u5} {u:TypeDesc} {l:List Int} {K:x1→x2→Prop} (V:P.underlying s=some u) (W:P.underlying t=some (.slice e)) (he:P.underlying e=some (.int .u8)) (X:Bytes l) (hm:l.length≤1000000000)
  (Y:∀ v w',Ext w w'→aC .u8 w' v l→(∀ r,(∃ a n c,v= .slice (some a) n c∧a.block=r)→w.heap.size≤r)→K v w'):aA P (convert s t (bb l)) w K:=by
 have Z:=Lib.bytesWorld_at_new w e (strOfNums l);have O:=fun j E=>Lib.bytesWorld_at_old w e (strOfNums l) j E;have aa:=Lib.bytesWorld_size w e (strOfNums l);refine .of (Lib.run_convert_string_bytes w s t e (strOfNums l) V W he) ⟨rfl,⟨rfl,Nat.le_succ _⟩,rfl,by omega,fun r o J _=>?_⟩ (Y _ _ ⟨by omega,fun r o J _=>?_⟩ ?_ ?_)
 ·rw[O r (o4.1 J).1];exact J
 ·rw[O r (o4.1 J).1];exact J
 ·rw[jK];refine⟨by simp,w.heap.size,0,_,_,rfl,?_,?_,fun _=>rfl,fun j v ac=>?_⟩
  ·exact grownCap_ge w _ _ _
  ·exact grownCap_le_maxLen w _ _ _ (by simp[maxLen];omega)
  ·have E:j<l.length:=by have:=(x3.1 ac).1;simpa using this
   have U:l[j]? =some l[j]:=y0 E;rw[V3,Lib.bytesWorld_cell w e (strOfNums l) j (by rw[jK];exact E)];rw[il U] at ac;rw[←j5 ac,strOfNums_data,u6,x6,U];have:=X l[j] (List.getElem_mem E);simp only[j6,Option.getD_some];congr 2;rw[UInt8.toNat_ofNat'];omega
 ·rintro r ⟨a,n,c,h1,rfl⟩;cases h1;exact u9 _
end
end Go.Vc
namespace Go.Proofs.YtgbkinibgjmodaaGreatDoor
open Go Go.Vc Go.RowKit Go.Proofs Go.Proofs.Tryz
set_option maxRecDepth 100000
theorem uZ {b:Int} (h:bK b=true):bg b=false:=by
 have h:=of_decide_eq_true h;unfold bg;rw[decide_eq_false_iff_not];omega
theorem u0 {b:Int} {p:List Int} (h:bK b=true):lex (b::p)=lex p:=by
 rw[hR,hR p,List.dropWhile_cons,if_pos h]
theorem C3 {b:Int} {p:List Int} (h:bK b=false) (E:bg b=false):lex (b::p)=([],false):=by
 rw[hR,List.dropWhile_cons,if_neg (by simp[h])];simp only[E,Bool.false_eq_true,if_false]
theorem u1 {b:Int} {p:List Int} (h:bg b=true):lex (b::p)=match p.dropWhile bg with
  |[]=>([b::p.takeWhile bg],true)
  |c::r=>if bK c then ((b::p.takeWhile bg)::(lex (c::r)).1,(lex (c::r)).2) else ([],false):=by
 have E:bK b=false:=by
  cases J:bK b with
  |false=>rfl
  |true=>rw[uZ J] at h;cases h
 rw[hR,List.dropWhile_cons,if_neg (by simp[E])];simp only[h,if_true,List.dropWhile_cons,List.takeWhile_cons]
 all_goals (cases List.dropWhile bg p <;> rfl)
def fT:List Int→List (List Int)→List Int→Bool→List (List Int)×Bool
 |[],out,w,op=>(if op then out++[w] else out,true)
 |b::p,out,w,op=>
  if bK b then fT p (if op then out++[w] else out) [] false
  else if bg b then fT p out (if op then w++[b] else[b]) true
  else (out,false)
theorem mA:∀ (p:List Int) (out:List (List Int)) (w:List Int),fT p out w false=(out++(lex p).1,(lex p).2)∧
  fT p out w true=match p.dropWhile bg with
   |[]=>(out++[w++p.takeWhile bg],true)
   |c::r=>if bK c then (out++[w++p.takeWhile bg]++(lex (c::r)).1,(lex (c::r)).2) else (out,false)
 |[],out,w=>by simp[fT,hR []]
 |b::p,out,w=>by
  by_cases E:bK b=true
  ·have hw:=uZ E;refine⟨?_,?_⟩
   ·rw[fT,if_pos E,(mA p _ _).1,u0 E];simp
   ·rw[fT,if_pos E,if_pos rfl,(mA p _ _).1,List.dropWhile_cons,if_neg (by simp[hw])];simp only[E,if_true,u0 E,List.takeWhile_cons,hw,Bool.false_eq_true,if_false,V4]
  ·have O:bK b=false:=by cases h:bK b;rfl;exact absurd h E
   by_cases hw:bg b=true
   ·refine⟨?_,?_⟩
    ·rw[fT,if_neg E,if_pos hw,if_neg (by simp),(mA p _ _).2,u1 hw];cases p.dropWhile bg with
     |nil=>simp
     |cons c r=>
      simp only;by_cases J:bK c=true
      ·simp[J]
      ·simp[J]
    ·rw[fT,if_neg E,if_pos hw,if_pos rfl,(mA p _ _).2,List.dropWhile_cons,if_pos hw,List.takeWhile_cons,if_pos hw];cases p.dropWhile bg with
     |nil=>simp
     |cons c r=>
      simp only;by_cases J:bK c=true
      ·simp[J]
      ·simp[J]
   ·have U:bg b=false:=by cases h:bg b;rfl;exact absurd h hw
    refine⟨?_,?_⟩
    ·rw[fT,if_neg E,if_neg hw,C3 O U];simp
    ·rw[fT,if_neg E,if_neg hw,List.dropWhile_cons,if_neg hw];simp[O]
theorem C4 (p:List Int):fT p [] [] false=lex p:=by rw[(mA p [] []).1];simp
def lr:Nat→Nat→List Int
 |0,_=>[]
 |k+1,n=>(if n<10 then[] else lr k (n / 10))++[48+((n % 10:Nat):Int)]
def dU (n:Nat):List Int:=lr (n+1) n
theorem u2:∀ {k m n:Nat},n<k→n<m→lr k n=lr m n
 |k+1,m+1,n,h1,E=>by
  unfold lr;by_cases h:n<10
  ·rw[if_pos h,if_pos h]
  ·rw[if_neg h,if_neg h,u2 (k:=k) (m:=m) (n:=n / 10) (by omega) (by omega)]
theorem kw (n:Nat):dU n=(if n<10 then[] else dU (n / 10))++[48+((n % 10:Nat):Int)]:=by
 unfold dU;rw[lr];by_cases h:n<10
 ·rw[if_pos h,if_pos h]
 ·rw[if_neg h,if_neg h,u2 (k:=n) (m:=n / 10+1) (by omega) (by omega)]
theorem u3:∀ (k n:Nat),n<k→ ∀ b∈dU n,48≤b∧b≤57
 |k+1,n,J,b,E=>by
  rw[kw] at E;rcases p9.1 E with E|E
  ·by_cases h:n<10
   ·rw[if_pos h] at E;simp at E
   ·rw[if_neg h] at E;exact u3 k (n / 10) (by omega) b E
  ·rw[p8] at E;omega
theorem va (n:Nat):∀ b∈dU n,48≤b∧b≤57:=u3 (n+1) n (by omega)
def mB (l:List Int):Int:=l.foldl (fun n b=>10*n+(b-48)) 0
theorem C5 (l:List Int) (b:Int):mB (l++[b])=10*mB l+(b-48):=by simp[mB]
theorem qT:∀ (k n:Nat),n<k→mB (dU n)=n
 |k+1,n,E=>by
  rw[kw,C5];by_cases h:n<10
  ·rw[if_pos h];have:mB []=0:=rfl;omega
  ·rw[if_neg h,qT k (n / 10) (by omega)];omega
theorem C6 {a b:Nat} (h:dU a=dU b):a=b:=by
 have h1:=qT (a+1) a (by omega);have E:=qT (b+1) b (by omega);rw[h,E] at h1;omega
theorem qU:∀ (k n:Nat),n<10 ^ k→1≤k→(dU n).length≤k
 |k+1,n,h,_=>by
  rw[kw,r8];by_cases E:n<10
  ·rw[if_pos E];simp
  ·rw[if_neg E];have J:1≤k:=by
    rcases k with _|k
    ·simp at h;omega
    ·omega
   have O:(10:Nat) ^ (k+1)=10*10 ^ k:=by rw[Nat.pow_succ,Nat.mul_comm]
   have:=qU k (n / 10) (by omega) J;simp only[U2];omega
def dc (t:List Int):List Int:=t.flatMap fun v=>dU v.toNat++[32]
theorem C7 (t:List Int) (v:Int):dc (t++[v])=dc t++(dU v.toNat++[32]):=by simp[dc]
theorem vb {l r:List Int} (E:∀ b∈l,b≠32):(l++32::r).takeWhile (fun b=>decide (b≠32))=l∧(l++32::r).dropWhile (fun b=>decide (b≠32))=32::r:=by
 induction l with
 |nil=>simp
 |cons x l O=>
  have J:=E x (.head _);have:=O fun b U=>E b (.tail _ U);simp only[List.cons_append,List.takeWhile_cons,List.dropWhile_cons];simp only[J,ne_eq,not_false_eq_true,decide_true,if_true];exact⟨by rw[this.1],this.2⟩
theorem vc:∀ {a b:List Int},(∀ x∈a,0≤x)→(∀ x∈b,0≤x)→dc a=dc b→a=b
 |[],[],_,_,_=>rfl
 |[],y::b,_,_,h=>by simp[dc] at h
 |x::a,[],_,_,h=>by simp[dc] at h
 |x::a,y::b,U,V,h=>by
  have e:∀ (z:Int) (l:List Int),dc (z::l)=dU z.toNat++32::dc l:=fun z l=>by simp[dc]
  rw[e,e] at h;have d:∀ z:Int,∀ c∈dU z.toNat,c≠32:=fun z c X=>by have:=va _ c X;omega
  have E:=vb (r:=dc a) (d x);have W:=vb (r:=dc b) (d y);rw[h] at E;have Y:dU x.toNat=dU y.toNat:=E.1.symm.trans W.1;have Z:=E.2.symm.trans W.2;have J:=U x (.head _);have ab:=V y (.head _);have:=C6 Y;have aa:x=y:=by omega
  subst aa;rw[vc (fun z O=>U z (.tail _ O)) (fun z O=>V z (.tail _ O)) (List.cons.inj Z).2]
theorem vd (t:List Int):Bytes (dc t):=fun b E=>by
 obtain⟨v,_,E⟩:=List.mem_flatMap.1 E;rcases p9.1 E with E|E
 ·have:=va _ b E;omega
 ·rw[p8] at E;omega
theorem ve {b:Int} {w:x2}:ah x5 Bl [.int .u8 b] w fun v w'=>v= .bool (bK b)∧Ext w w':=by
 refine aq func204 ?_;refine aL (fun v J=>v= .bool (bK b)∧Ext w J) (fun _ _ h=>h) fun O E=>?_;rw[bc,aa];refine⟨fun h=>E _ _ ⟨by unfold bK;rw[decide_eq_true (.inl h)],Ext.refl _⟩,fun h1=>?_⟩;rw[bc,aa];refine⟨fun h=>E _ _ ⟨by unfold bK;rw[decide_eq_true (.inr (.inl h))],Ext.refl _⟩,fun U=>?_⟩;rw[bc,aa];refine⟨fun h=>E _ _ ⟨by unfold bK;rw[decide_eq_true (.inr (.inr (.inl h)))],Ext.refl _⟩,fun V=>?_⟩;rw[bc];refine E _ _ ⟨?_,Ext.refl _⟩;congr 1;unfold bK;rw[X5,decide_eq_true_eq,decide_eq_true_eq];omega
theorem C8 {b:Int} {w:x2}:ah x5 Bk [.int .u8 b] w fun v w'=>v= .bool (bg b)∧Ext w w':=by
 refine aq func203 ?_;refine aL (fun v J=>v= .bool (bg b)∧Ext w J) (fun _ _ h=>h) fun O E=>?_;rw[ca,aa];refine⟨fun h=>?_,fun h=>E _ _ ⟨by unfold bg;rw[decide_eq_false (by omega)],Ext.refl _⟩⟩;rw[mn];refine E _ _ ⟨?_,Ext.refl _⟩;congr 1;unfold bg;rw[X5,decide_eq_true_eq,decide_eq_true_eq];omega
def jb (w:x2) (g:Nat) (E:x1) (p:List Int) (at_:Nat) (bad:Int):Prop:=Bytes p∧p.length≤100000∧at_≤p.length∧ad w g fw [E,.int .i64 (at_:Int),.int .i64 bad]∧ ∃ J,am .u8 bY w J E p
theorem jb.ext {w w':x2} {g:Nat} {E:x1} {p:List Int} {at_:Nat} {bad:Int} (h:jb w g E p at_ bad) (J:Ext w w'):jb w' g E p at_ bad:=by
 obtain⟨h1,O,U,V,W,X⟩:=h;exact⟨h1,O,U,V.ext J,W,X.ext J⟩
theorem C9 {v:x1} {l:List Int} {w:x2} (h:aC .u8 w v l) (ad:l.length≤100000):ah x5 Bf [v] w fun J w'=>Ext w w'∧ ∃ g,am .u8 bY w' g J l:=by
 have E:=h;obtain⟨ae,b,o,base,cap,rfl,af,hm,U,V⟩:=h;refine aq func197 ?_;rw[mo bZ.u,b3];refine⟨fun W=>⟨Ext.refl _,0,?_⟩,fun _=>?_⟩
 ·have:l=[]:=by
   cases base with
   |none=>
        by_cases E:0<l.length
        ·have:=U E;cases this
        ·exact o8 (by omega)
   |some a=>cases W
  subst this;exact am.nil _ _ _ _
 ·refine hM (k:=1) (cs:=#[]) bZ.u bY.i (by omega) (by kernel_rfl) fun g X ag O Y=>?_;have Z:am .u8 bY X g (.slice (some ⟨g,0,none⟩) 0 0) []:=am.of (n:=0) (br.full (by simpa using Y) rfl (by simp));refine gM bZ.u bY.i rfl Z (E.ext O) (by simp;omega) (by simp;omega) fun J aa ai aj ab ac=>?_;exact⟨O.then ac (fun r V he=>by have he:r=g:=he;omega),aa,by simpa using ab⟩
theorem vf {v:x1} {l:List Int} {w:x2} (h:aC .u8 w v l) (W:Bytes l) (J:l.length≤100000):ah x5 tR [v] w fun X w'=>Ext w w'∧ ∃ g,X= .pointer (some ⟨g,0,none⟩)∧w.heap.size≤g∧ ∃ E,jb w' g E l 0 (-1):=by
 refine aq func146 ?_;refine (C9 h J).mono ?_;rintro E aa _ ⟨O,Y,U⟩;rw[cI (cs:=#[E,.int .i64 0,.int .i64 (-1)]) (by obtain⟨_,_,_,_,_,rfl,_⟩:=U.ls;kernel_rfl)];refine a7 fun g ab ac V Z=>?_;have ad:=O.size;exact⟨O.trans V,g,rfl,by omega,E,W,J,Z1 _,Z,Y,U.ext V⟩
def runN (f:Int→Bool) (p:List Int):Nat:=(p.takeWhile f).length
theorem Da (f:Int→Bool) (p:List Int):runN f p≤p.length:=(List.takeWhile_sublist f).length_le
theorem vg {f:Int→Bool} {p:List Int} {i:Nat} {b:Int} (hi:p[i]? =some b) (ag:f b=true):i+runN f (p.drop i)=(i+1)+runN f (p.drop (i+1)):=by
 have E:=x3.1 hi;unfold runN;rw[Y2 E.1,E.2,List.takeWhile_cons,if_pos ag,l6];omega
theorem vh {f:Int→Bool} {p:List Int} {i:Nat} (h:∀ b,p[i]? =some b→f b=false):runN f (p.drop i)=0:=by
 unfold runN;cases E:p[i]? with
 |none=>
  rw[List.drop_of_length_le (List.getElem?_eq_none_iff.1 E)];rfl
 |some b=>
  have J:=x3.1 E;rw[Y2 J.1,J.2,List.takeWhile_cons,if_neg (by simp[h b E])];rfl
theorem Db {w:x2} {g at_:Nat} {ad:x1} {p:List Int} {bad:Int} (h:jb w g ad p at_ bad):ah x5 Bj [.pointer (some ⟨g,0,none⟩)] w fun v w'=>v= .int .i64 ((at_+runN bK (p.drop at_):Nat):Int)∧Ext w w':=by
 obtain⟨av,aw,af,E,ay,U⟩:=h;refine aq func202 ?_;rw[ax,ae fw.p rfl,V (by kernel_rfl) (E.cell (o:=0+1) rfl)];refine⟨fun v W=>Ext w W∧ ∃ i:Nat,v= .int .i64 (i:Int)∧i≤p.length∧i+runN bK (p.drop i)=at_+runN bK (p.drop at_),fun v _=>p.length-(bl v).toNat,⟨Ext.refl _,at_,rfl,af,rfl⟩,?_⟩;rintro _ W ⟨O,i,rfl,hi,he⟩;refine aL (fun v X=>Ext w X∧ ∃ c:Bool,v= .bool c∧(c=true↔ ∃ b,p[i]? =some b∧bK b=true)) ?_ ?_
 ·rintro _ X ⟨Y,c,rfl,Z⟩;rw[b3];refine⟨fun ai=>?_,fun ag=>?_⟩
  ·obtain⟨b,J,aj⟩:=Z.1 ai;have ak:=(x3.1 J).1;rw[aF,wrap_i64 (by omega) (by omega)];exact⟨⟨Y,i+1,rfl,ak,by rw[←he,vg J aj]⟩,by simp only[bl];omega⟩
  ·have al:=vh (f:=bK) (p:=p) (i:=i) fun b E=>by
    cases am:bK b with
    |false=>rfl
    |true=>rw[Z.2 ⟨b,E,am⟩] at ag;cases ag
   exact⟨by rw[←he,al,Nat.add_zero],Y⟩
 ·intro az ab;have ac:=E.ext O;rw[ax,ae fw.p rfl,V (by kernel_rfl) (ac.cell (o:=0+0) rfl),aI bZ.u (U.ext O).ls,ao,aa];refine⟨fun aA=>?_,fun aB=>ab _ _ ⟨O,false,rfl,⟨fun h=>(by cases h),fun⟨b,E,_⟩=>by have:=(x3.1 E).1;omega⟩⟩⟩;have ap:i<p.length:=by omega
  have J:p[i]? =some p[i]:=y0 ap;rw[ax,ae fw.p rfl,V (by kernel_rfl) (ac.cell (o:=0+0) rfl),a1 bZ.u bY.i (by kernel_rfl) (U.ext O).ls J];refine ve.mono ?_;rintro _ aC _ ⟨rfl,au⟩;exact ab _ _ ⟨O.trans au,_,rfl,⟨fun h=>⟨_,J,h⟩,fun⟨b,E,h⟩=>by rw[J] at E;cases E;exact h⟩⟩
inductive Dc where
 |word (from_ to:Nat)
 |none
 |text (at_:Nat)
def eL (p:List Int) (at_:Nat):Nat:=at_+runN bK (p.drop at_)
def gl (p:List Int) (a:Nat):Nat:=a+runN bg (p.drop a)
open Classical in
noncomputable def lu (p:List Int) (at_:Nat):Dc:=
 if gl p (eL p at_)<p.length∧(∀ c,p[gl p (eL p at_)]? =some c→bK c=false) then .text (gl p (eL p at_)) else if eL p at_=gl p (eL p at_) then .none else .word (eL p at_) (gl p (eL p at_))
def mC (w:x2) (g:Nat) (E:x1) (p:List Int) (at_:Nat) (v:x1) (w':x2):Prop:=
 match lu p at_ with
 | .word a b=>v= .tuple #[bb ((p.take b).drop a),.int .i64 (a:Int),.int .i64 0]∧af (fun r=>r=g) w w'∧jb w' g E p b (-1)
 | .none=>∃ n:Nat,v= .tuple #[bb [],.int .i64 (n:Int),.int .i64 2]∧Ext w w'
 | .text b=>v= .tuple #[bb [],.int .i64 (b:Int),.int .i64 11]∧af (fun r=>r=g) w w'∧jb w' g E p at_ (b:Int)
theorem fk {S aG:Nat→Prop} {a b c:x2} (h:af S a b) (k:af aG b c) (U:∀ r,r<a.heap.size→aG r→S r):af S a c:=
 ⟨Z5 h.size k.size,fun r o E J O=>k.aW r o (h.aW r o E J O) J fun hu=>O (U r (o4.1 E).1 hu)⟩
theorem bB {w:x2} {g J:Nat} {k:r9} {e O:u5} {v:x1} {l:List Int} {cs:List x1} (h:am k e w g v l) (U:ad w J O cs) (W:e≠O) {r:Nat} (V:leads v r):r≠J:=by
 obtain⟨rfl,_⟩:=bw h V;obtain⟨_,⟨rfl,_⟩|⟨_,_,_,E,_⟩⟩:=h
 ·obtain⟨a,n,c,h,_⟩:=V;cases h
 ·rintro rfl;unfold ad at U E;rw[U] at E;injection E with h1;injection h1 with Y X;exact W X.symm
theorem Dd {s t:u5} {J U:r9} {b i j:Nat} {z v:x1} {l:List Int} {w:x2} {K:x1→Prop} (V:x5.underlying s=some (.slice t)) (hi:aE x5 t 1 b z)
  (h:aC .u8 w v l) (W:i≤j) (X:j≤l.length) (Y:∀ E,aC .u8 w E ((l.take j).drop i)→K E):O x5 (Y9 s v (some (.int J (i:Int))) (some (.int U (j:Int))) none) w K:=by
 refine ow V hi h (ki i _ rfl) (kj j _ rfl) W X fun E h'=>Y E (aC.of (n:=j-i) ?_);have Z:((ints .u8 l).drop (i*1)).take ((j-i)*1)=ints .u8 ((l.take j).drop i):=by
  rw[W9,W9,ints,ints,List.map_drop,List.map_take,List.drop_take]
 rw[Z] at h';exact h'
set_option maxHeartbeats 1000000 in
theorem De {w:x2} {g at_:Nat} {ai:x1} {p:List Int} (h:jb w g ai p at_ (-1)):ah x5 qs [.pointer (some ⟨g,0,none⟩)] w (mC w g ai p at_):=by
 obtain⟨aA,aB,aV,E,aC,aj⟩:=id h;refine aq func152 ?_;rw[cB n3.u,c5,aP,ax,ae fw.p rfl,V (by kernel_rfl) (E.cell (o:=0+2) rfl),ca,aa];refine⟨fun h=>by omega,fun _=>?_⟩;refine (Db h).mono ?_;rintro _ aW _ ⟨rfl,aY⟩;obtain⟨a,aD⟩:∃ a,a=at_+runN bK (p.drop at_):=⟨_,rfl⟩;rw[←aD];have a2:a≤p.length:=by have:=Da bK (p.drop at_);rw[List.length_drop] at this;omega
 refine⟨fun v ak=>Ext aW ak∧ ∃ i:Nat,v= .int .i64 (i:Int)∧a≤i∧i≤p.length∧i+runN bg (p.drop i)=a+runN bg (p.drop a),fun v _=>p.length-(bl v).toNat,⟨Ext.refl _,a,rfl,u9 _,a2,rfl⟩,?_⟩;rintro _ ak ⟨aE,i,rfl,a6,hi,he⟩;have al:=aY.trans aE;have aG:=E.ext al;have aH:=aj.ext al;refine aL (fun v Y=>Ext ak Y∧ ∃ c:Bool,v= .bool c∧(c=true↔ ∃ b,p[i]? =some b∧bg b=true)) ?_ ?_
 rotate_left
 ·intro a7 O;rw[ax,ae fw.p rfl,V (by kernel_rfl) (aG.cell (o:=0+0) rfl),aI bZ.u aH.ls,ao,aa];refine⟨fun a8=>?_,fun ba=>O _ _ ⟨Ext.refl _,false,rfl,⟨fun h=>(by cases h),fun⟨b,E,_⟩=>by have:=(x3.1 E).1;omega⟩⟩⟩;have Z:i<p.length:=by omega
  have J:p[i]? =some p[i]:=y0 Z;rw[ax,ae fw.p rfl,V (by kernel_rfl) (aG.cell (o:=0+0) rfl),a1 bZ.u bY.i (by kernel_rfl) aH.ls J];refine C8.mono ?_;rintro _ Y _ ⟨rfl,ac⟩;exact O _ _ ⟨ac,_,rfl,⟨fun h=>⟨_,J,h⟩,fun⟨b,E,h⟩=>by rw[J] at E;cases E;exact h⟩⟩
 rintro _ Y ⟨ac,c,rfl,W⟩;have am:=al.trans ac;have aJ:=E.ext am;have aK:=aj.ext am;rw[b3];refine⟨fun ap=>?_,fun ag=>?_⟩
 ·obtain⟨b,J,bb⟩:=W.1 ap;have bd:=(x3.1 J).1;rw[aF,wrap_i64 (by omega) (by omega)];exact⟨⟨aE.trans ac,i+1,rfl,by omega,bd,by rw[←he,vg J bb]⟩,by simp only[bl];omega⟩
 have bj:=vh (f:=bg) (p:=p) (i:=i) fun b E=>by
  cases au:bg b with
  |false=>rfl
  |true=>rw[W.2 ⟨b,E,au⟩] at ag;cases ag
 have be:i=a+runN bg (p.drop a):=by omega
 refine aL (fun v av=>Ext Y av∧ ∃ c:Bool,v= .bool c∧(c=true↔i<p.length∧ ∀ c,p[i]? =some c→bK c=false)) ?_ ?_
 rotate_left
 ·intro a7 O;rw[ax,ae fw.p rfl,V (by kernel_rfl) (aJ.cell (o:=0+0) rfl),aI bZ.u aK.ls,ao,aa];refine⟨fun a8=>?_,fun ba=>O _ _ ⟨Ext.refl _,false,rfl,⟨fun h=>(by cases h),fun h=>by omega⟩⟩⟩;have Z:i<p.length:=by omega
  have J:p[i]? =some p[i]:=y0 Z;rw[ax,ae fw.p rfl,V (by kernel_rfl) (aJ.cell (o:=0+0) rfl),a1 bZ.u bY.i (by kernel_rfl) aK.ls J];refine ve.mono ?_;rintro _ av _ ⟨rfl,aw⟩;rw[bJ];refine O _ _ ⟨aw,_,rfl,⟨fun h=>⟨Z,fun c W=>?_⟩,fun h=>by rw[h.2 _ J];rfl⟩⟩;rw[J] at W;cases W;cases au:bK p[i] with
  |false=>rfl
  |true=>rw[au] at h;cases h
 rintro _ av ⟨aw,bk,rfl,aM⟩;have X:=am.trans aw;have ad:=E.ext X;have af:=aj.ext X;have aN:∀ r,leads ai r→r≠g:=fun r bf=>bB af ad (by decide) bf;have ay:lu p at_=open Classical in if i<p.length∧(∀ c,p[i]? =some c→bK c=false) then .text i else if a=i then .none else .word a i:=by
  unfold lu;rw[show eL p at_=a from aD.symm,show gl p a=i from be.symm]
 rw[b3];refine⟨fun ap=>?_,fun aO=>?_⟩
 ·rw[ax,ae fw.p rfl];refine aZ (g:=g) (o:=2) ab.i rfl rfl ad (by simp) fun bm aQ bn bh=>?_;unfold mC;rw[ay,if_pos (aM.1 ap)];exact⟨rfl,(X.U _).trans aQ,aA,aB,aV,bh,aC,aX af aQ aN⟩
 ·have aR:¬(i<p.length∧ ∀ c,p[i]? =some c→bK c=false):=fun h=>by rw[aM.2 h] at aO;cases aO
  rw[bc,aa];refine⟨fun bo=>?_,fun bp=>?_⟩
  ·intro bq az _ _;rw[ax,ae fw.p rfl,V (by kernel_rfl) ((ad.ext az).cell (o:=0+0) rfl),aI bZ.u (af.ext az).ls];unfold mC;rw[ay,if_neg aR,if_pos (by omega)];exact⟨p.length,rfl,X.trans az⟩
  ·rw[ax,ae fw.p rfl];refine aZ (g:=g) (o:=1) ab.i rfl rfl ad (by simp) fun br aS bt aT=>?_;have aU:=aX af aS aN;rw[ax,ae fw.p rfl,V (by kernel_rfl) (aT.cell (o:=0+0) rfl)];refine Dd (i:=a) (j:=i) bZ.u bY.i aU.ls a6 hi fun bu bi=>?_;rw[qR bZ.u bY.u cc.u bi];unfold mC;rw[ay,if_neg aR,if_neg (by omega)];exact⟨rfl,(X.U _).trans aS,aA,aB,hi,aT,aC,aU⟩
abbrev a8:an:=fun _=>False
abbrev dD (n:Nat):an:=fun r=>n≤r
theorem Df {a b:List Int} {Y bv:x1} {w:x2} (E:aC .i64 w Y a) (Z:aC .i64 w bv b):
  ah x5 AK [Y,bv] w fun v w'=>v= .bool (decide (a=b))∧Ext w w':=by
 refine aq func124 ?_;rw[aI al.u E,aI al.u Z];simp only[be,aa];refine⟨fun U=>⟨?_,Ext.refl _⟩,fun ac=>?_⟩
 ·rw[decide_eq_false];rintro rfl;exact U rfl
 ·have ac:a.length=b.length:=by omega
  rw[aI al.u E];refine bM.range a.length (fun i _ V=>Ext w V∧a.take i=b.take i) E.le ⟨Ext.refl _,rfl⟩ ?_ ?_
  ·rintro i t4 V k ad ⟨J,W⟩ ae;simp only[ao,aa,dj];refine⟨fun _ ag af _ _=>?_,fun h=>by omega⟩;have J:=J.trans af;obtain⟨x,X⟩:∃ x,a[i]? =some x:=⟨_,y0 ad⟩;obtain⟨y,O⟩:∃ y,b[i]? =some y:=⟨_,y0 (by omega)⟩;rw[a1 al.u ab.i (by kernel_rfl) (E.ext J) X,a1 al.u ab.i (by kernel_rfl) (Z.ext J) O];simp only[be,aa,aF];refine⟨fun U=>⟨?_,J⟩,fun ai=>ae _ _ ⟨J,qF W X O (by omega)⟩⟩;rw[decide_eq_false];rintro rfl;rw[X] at O;cases O;exact U rfl
  ·rintro _ V k ⟨J,W⟩;simp only[ao,aa];refine⟨fun h=>by omega,fun _=>⟨?_,J⟩⟩;rw[decide_eq_true];rwa [o3,ac,o3] at W
def gO (rest:List (List Int)) (i:Nat):List (List Int):=(Y1 i).flatMap fun(v:Nat)=>rest.map fun t=>(v:Int)::t
theorem Dg (rest:List (List Int)) (i:Nat):gO rest (i+1)=gO rest i++rest.map fun t=>(i:Int)::t:=by
 simp[gO,List.range_succ]
theorem vi (rest:List (List Int)) (i:Nat):(gO rest i).length=i*rest.length:=by
 simp only[gO,List.length_flatMap,u7];rw[List.map_const',List.length_range,List.sum_replicate_nat]
theorem vj:∀ (s:List Int) {sv:x1} {w:x2},aC .i64 w sv s→bu s→
  ah x5 Aw [sv] w fun v w'=>Ext w w'∧de (dD w.heap.size) a8 w' [v] (bm s)
 |[],sv,w,h,Z=>by
  refine aq func90 ?_;rw[aI al.u h];simp only[bc,List.length_nil,Int.natCast_zero,decide_true,bh];refine kp (α:=List Int) (a:=[]) (cs:=[.slice none 0 0]) (A:=a8) dO.u al.i (by decide) rfl im fun v w' J E _=>⟨J,ay.mono E (fun r _ h=>?_) fun _ _ h=>h⟩;exact h.elim False.elim id
 |k::s,sv,w,h,Z=>by
  have aP:=prod_bound Z;have ac:bu s:=Z.drop 1;have aQ:=Z.2 k (.head _);have ap:=ip ac.2;have aR:=prod_bound ac;obtain⟨kn,rfl⟩:∃ kn:Nat,k=kn:=⟨k.toNat,by omega⟩;have aS:kn*(bm s).length≤1073741824:=by
   have e:((kn*(bm s).length:Nat):Int)=aD ((kn:Int)::s):=by
    rw[Int.natCast_mul,ap,aD,Int.toNat_of_nonneg (by omega)]
   omega
  refine aq func90 ?_;rw[aI al.u h];simp only[bc,aa];refine⟨fun au=>by simp at au;omega,fun _=>?_⟩;refine CT (i:=1) rfl al.u ab.i h (by simp) fun av h'=>?_;refine (vj s h' ac).mono ?_;rintro aT U _ ⟨ad,W⟩;have aU:=jE W;refine bM.range kn (fun i out X=>Ext U X∧de (dD U.heap.size) a8 X [out] (gO (bm s) i)) (by omega) ⟨Ext.refl _,im⟩ ?_ ?_
  ·rintro i out aw ax aj ⟨V,E⟩ az;have aA:=cT W V;rw[eS (y:=0) (i:=0) rfl al.u ab.i (by kernel_rfl) (h.ext (ad.trans V)) (by rfl)];simp only[ao,aa];refine⟨fun _=>?_,fun h=>by omega⟩;rw[io dO.u aA];refine bM.range (bm s).length (fun j out X=>Ext U X∧de (dD U.heap.size) a8 X [out] (gO (bm s) i++((bm s).take j).map fun t=>(i:Int)::t)) (by omega) ⟨V,by simpa using E⟩ ?_ ?_
   ·rintro j out O aB aE ⟨Y,E⟩ aG;simp only[ao,aa];refine⟨fun _=>?_,fun h=>by omega⟩;obtain⟨x,ae⟩:∃ x,(bm s)[j]? =some x:=⟨_,y0 aE⟩;have aV:x.length≤100:=by
     have:=Cx ae;have:=ac.1;omega
    refine uB rfl rfl dO.u al.i (by kernel_rfl) (cT W Y) ae fun u hu=>?_;refine dC al.u ab.i rfl fun a aW aX aY af aH=>?_;refine gM al.u ab.i rfl aH (jH (cT hu af)) (by simp;omega) (by simp;omega) fun b aZ aJ a1 ag aK=>?_;have a2:=af.size;have ak:Ext O aJ:=af.then aK (by rintro r W rfl;omega);have a6:=ak.size;refine kp (α:=List Int) (a:=(i:Int)::x) (cs:=[b]) (A:=dD O.heap.size) (R:=a8) dO.u al.i (by decide) (oi (lm ag (R:=a8))) (ay.mono (lm ag) (fun r _ h=>by subst h;show O.heap.size≤r;omega) fun _ _ h=>h) fun c a7 ai _ aL=>?_;have am:=ak.trans ai;have ba:=ai.size;refine ll (α:=List Int) (a:=(i:Int)::x) (A:=dD O.heap.size) dO.u al.i rfl (cT (jE E) am) aL (cT (ay.mono (lm ag) (fun r _ h=>by subst h;show O.heap.size≤r;omega) fun _ _ h=>h) ai) (fun r _ h h'=>?_) ?_ ?_ fun av bb aM aN=>?_
    ·rcases h' with h'|h'
     ·have:=h.2;have:O.heap.size≤r:=h';omega
     ·exact h'
    ·have aO:(gO (bm s) i++((bm s).take j).map fun t=>(i:Int)::t).length+1≤kn*(bm s).length:=by
      simp only[r8,vi,u7,o5];have:(i+1)*(bm s).length≤kn*(bm s).length:=Y7 _ aj;rw[W3] at this;omega
     omega
    ·have aO:(gO (bm s) i++((bm s).take j).map fun t=>(i:Int)::t).length+1≤kn*(bm s).length:=by
      simp only[r8,vi,u7,o5];have:(i+1)*(bm s).length≤kn*(bm s).length:=Y7 _ aj;rw[W3] at this;omega
     omega
    ·simp only[aF];have bd:=Y.size;refine aG _ _ ⟨(Y.trans am).then aN (fun r W h=>?_),?_⟩
     ·have:=h.1;have:U.heap.size≤r:=this;omega
     ·have e:gO (bm s) i++((bm s).take (j+1)).map (fun t=>(i:Int)::t)=(gO (bm s) i++((bm s).take j).map fun t=>(i:Int)::t)++[(i:Int)::x]:=by
       rw[u4,ae];simp
      rw[e];refine ay.mono aM (fun r _ h=>?_) fun _ _ h=>h;show U.heap.size≤r;rcases h with h|h|h
      ·exact h.1
      ·have:O.heap.size≤r:=h;omega
      ·omega
   ·rintro out O aB ⟨Y,E⟩;simp only[ao,aa,aF];refine⟨fun h=>by omega,fun _=>az _ _ ⟨Y,?_⟩⟩;rw[Dg];simpa using E
  ·rintro out aw ax ⟨V,E⟩;rw[eS (y:=0) (i:=0) rfl al.u ab.i (by kernel_rfl) (h.ext (ad.trans V)) (by rfl)];simp only[ao,aa];refine⟨fun h=>by omega,fun _=>⟨ad.trans V,?_⟩⟩;have be:=ad.size;have e:bm ((kn:Int)::s)=gO (bm s) kn:=by simp[bm,gO]
   rw[e];exact ay.mono E (fun r _ h=>by have:U.heap.size≤r:=h;show w.heap.size≤r;omega) fun _ _ h=>h
end Go.Proofs.YtgbkinibgjmodaaGreatDoor
namespace Go.Proofs.YtgbkinibgjmodaaGreatDoor
open Go Go.Vc Go.RowKit Go.Proofs Go.Proofs.Tryz
set_option maxRecDepth 100000
theorem Dh:∀ (x:Nat),0<x→ ∃ k m,x=2 ^ k*(2*m+1):=by
 intro x;induction x using Nat.strongRecOn with
 |_ x E=>
  intro h;by_cases O:x % 2=1
  ·exact⟨0,x / 2,by omega⟩
  ·obtain⟨k,m,J⟩:=E (x / 2) (by omega) (by omega);refine⟨k+1,m,?_⟩;rw[Nat.pow_succ,Nat.mul_assoc,Nat.mul_comm 2,←Nat.mul_assoc,←J];omega
theorem qV {k m i:Nat}:(2 ^ k*(2*m+1)).testBit i=(decide (i=k)||decide (k<i)&&m.testBit (i-k-1)):=by
 rw[Nat.testBit_two_pow_mul];by_cases h:k≤i
 ·obtain⟨d,rfl⟩:=Nat.exists_eq_add_of_le h;cases d with
  |zero=>simp
  |succ d=>
   have e:(2*m+1).testBit (d+1)=m.testBit d:=by rw[Nat.testBit_succ];congr 1;omega
   simp[e,show k+(d+1)-k=d+1 by omega]
 ·simp[h,show i≠k by omega,show ¬k<i by omega]
theorem Di {k m:Nat} (J:2 ^ k*(2*m+1)<2 ^ 64):(2 ^ k*(2*m+1)) &&& (2 ^ 64-2 ^ k*(2*m+1))=2 ^ k:=by
 have X:0<2 ^ k:=Nat.two_pow_pos k;have O:k<64:=by
  rcases Nat.lt_or_ge k 64 with h|h
  ·exact h
  ·have:2 ^ 64≤2 ^ k:=Nat.pow_le_pow_right (by omega) h;have:2 ^ k*1≤2 ^ k*(2*m+1):=Nat.mul_le_mul_left _ (by omega);omega
 have U:2 ^ k*(2*m+1)=(2 ^ k*(2*m)+(2 ^ k-1))+1:=by rw[Nat.mul_add];omega
 apply Nat.eq_of_testBit_eq;intro i;rw[Nat.testBit_and,qV]
 conv=>lhs;rhs;rw[U]
 rw[Nat.testBit_two_pow_sub_succ (by omega),Nat.testBit_two_pow_mul_add _ (by omega),Nat.testBit_two_pow];by_cases h1:i=k
 ·subst h1;simp[O]
 ·by_cases E:k<i
  ·have V:(2*m).testBit (i-k)=m.testBit (i-k-1):=by
    obtain⟨d,W⟩:∃ d,i-k=d+1:=⟨i-k-1,by omega⟩;rw[W,Nat.testBit_succ];congr 1;omega
   simp[h1,E,show ¬i<k by omega,V,show k≠i by omega];intro h;simp[h]
  ·simp[h1,E,show k≠i by omega]
def hh (a c:Nat):Nat:=(BitVec.ofNat 64 a &&& ~~~BitVec.ofNat 64 c).toNat
theorem vk (a c i:Nat):(hh a c).testBit i=(decide (i<64)&&(a.testBit i&& !c.testBit i)):=by
 unfold hh;rw[BitVec.testBit_toNat,BitVec.getLsbD_and,BitVec.getLsbD_not,BitVec.getLsbD_ofNat,BitVec.getLsbD_ofNat];by_cases h:i<64 <;> simp[h]
theorem Dj (a c:Nat):hh a c<2 ^ 64:=BitVec.isLt _
theorem Dk {a n:Nat} (h:∀ i,n≤i→a.testBit i=false):a<2 ^ n:=Nat.lt_pow_two_of_testBit a h
theorem vl {a n i:Nat} (h:a<2 ^ n) (hi:n≤i):a.testBit i=false:=Nat.testBit_lt_two_pow (Nat.lt_of_lt_of_le h (Nat.pow_le_pow_right (by omega) hi))
def e8 (b n:Nat):List Nat:=(Y1 n).filter fun i=>b.testBit i
theorem vm (b n:Nat):(e8 b n).Pairwise (·< ·):=List.Pairwise.filter _ List.pairwise_lt_range
theorem Dl {b n i:Nat}:i∈e8 b n↔i<n∧b.testBit i=true:=by simp[e8]
def kx:Option Nat→Int
 |some i=>(i:Int)
 |none=>-1
def hj (b n:Nat) (v:Int):Int:=kx ((Y1 n).find? (fun i:Nat=>decide (v<(i:Int))&&b.testBit i))
theorem vn:∀ {l:List Nat} {k x:Nat},l.Pairwise (·< ·)→l[k]? =some x→l.filter (fun i=>decide (x<i))=l.drop (k+1)
 |y::l,0,x,h,E=>by
  simp at E;subst E;rw[List.pairwise_cons] at h;simp only[List.drop_succ_cons,List.drop_zero];rw[List.filter_cons_of_neg (by simp),List.filter_eq_self.2 fun a J=>by simpa using h.1 a J]
 |y::l,k+1,x,h,E=>by
  simp only[List.getElem?_cons_succ] at E;rw[List.pairwise_cons] at h;have:y<x:=h.1 x (x4 E);rw[List.filter_cons_of_neg (by simp;omega),List.drop_succ_cons];exact vn h.2 E
theorem vo (b n:Nat) (v:Int):hj b n v=kx (((e8 b n).filter (fun i:Nat=>decide (v<i))).head?):=by
 unfold hj e8;rw[←List.head?_filter,List.filter_filter]
theorem Dm (b n:Nat):hj b n (-1)=kx ((e8 b n)[0]?):=by
 rw[vo,List.filter_eq_self.2 (fun a _=>by simp;omega),List.head?_eq_getElem?]
theorem vp {b n k x:Nat} (h:(e8 b n)[k]? =some x):hj b n x=kx ((e8 b n)[k+1]?):=by
 have e:(fun i:Nat=>decide ((x:Int)<i))=fun i=>decide (x<i):=by funext i;simp
 rw[vo,e,vn (vm b n) h,List.head?_eq_getElem?,List.getElem?_drop]
theorem Dn {b n:Nat} {v:Int} (h:(n:Int)-1≤v):hj b n v= -1:=by
 unfold hj;rw[List.find?_eq_none.2 fun i hi=>by simp at hi ⊢;omega];rfl
theorem Do {b n k m s:Nat} (Z:n≤64) (U:b<2 ^ n) {r:Nat} (J:∀ i,r.testBit i=(decide (s≤i)&&b.testBit i)) (O:r=2 ^ k*(2*m+1)) {v:Int} (ac:v+1=s):hj b n v=k:=by
 have V:r.testBit k=true:=by rw[O,qV];simp
 have W:∀ i,i<k→r.testBit i=false:=fun i hi=>by rw[O,qV];simp[show i≠k by omega,show ¬k<i by omega]
 have E:=V;rw[J] at E;simp at E;have X:k<n:=by
  rcases Nat.lt_or_ge k n with h|h
  ·exact h
  ·rw[vl U h] at E;cases E.2
 unfold hj;have:(Y1 n).find? (fun i:Nat=>decide (v<(i:Int))&&b.testBit i)=some k:=by
  rw[List.find?_range_eq_some];refine⟨by simp[E.2];omega,by simpa using X,fun j Y=>?_⟩;have:=W j Y;rw[J] at this;simp only[Bool.not_eq_true',Bool.and_eq_false_iff,decide_eq_false_iff_not] at this ⊢;rcases this with h|h
  ·exact .inl (by omega)
  ·exact .inr h
 rw[this];rfl
theorem Dp {b n s:Nat} {r:Nat} (E:∀ i,r.testBit i=(decide (s≤i)&&b.testBit i)) (J:r=0) {v:Int} (ac:v+1=s):hj b n v= -1:=by
 unfold hj;rw[List.find?_eq_none.2]
 ·rfl
 ·intro i hi;have:=E i;rw[J,Nat.zero_testBit] at this;simp at hi this ⊢;intro h;exact this (by omega)
end Go.Proofs.YtgbkinibgjmodaaGreatDoor
namespace Go.Proofs.YtgbkinibgjmodaaGreatDoor
open Go Go.Vc Go.RowKit Go.Proofs Go.Proofs.Tryz
set_option maxRecDepth 100000
section
variable {P:Y3} {w:x2} {t:u5} {cx cy:Bool} {a b:Nat} {K:x1→Prop}
theorem lv (a:Nat):V0 64 (a:Int)=BitVec.ofNat 64 a:=BitVec.ofInt_natCast _ _
theorem vq (x:BitVec 64):X9.wrap (x.toNat:Int)=(x.toNat:Int):=by
 have:=x.isLt;rw[wrap_u64 (by omega) (by omega)]
theorem u64_and (E:a<2 ^ 64) (J:b<2 ^ 64):O P (aB .and t cx cy (.int .u64 a) (.int .u64 b)) w K=K (.int .u64 ((a &&& b:Nat):Int)):=O.of fun w' _=>by
 have e:(V0 64 (a:Int) &&& V0 64 (b:Int)).toNat=a &&& b:=by
  rw[lv,lv,BitVec.toNat_and,BitVec.toNat_ofNat,BitVec.toNat_ofNat,Nat.mod_eq_of_lt E,Nat.mod_eq_of_lt J]
 have hw:X9.wrap ((a &&& b:Nat):Int)=((a &&& b:Nat):Int):=by rw[←e];exact vq _
 have U:(V0 X9.bits (a:Int) &&& V0 X9.bits (b:Int)).toNat=a &&& b:=e;simp only[aB,eqGuard,binOp,Op.intBits,U,hw];rfl
theorem vr:O P (aB .andNot t cx cy (.int .u64 a) (.int .u64 b)) w K=K (.int .u64 (hh a b:Int)):=O.of fun w' _=>by
 have e:(V0 64 (a:Int) &&& ~~~V0 64 (b:Int)).toNat=hh a b:=by rw[lv,lv];rfl
 have hw:X9.wrap (hh a b:Int)=(hh a b:Int):=vq _;have E:(V0 X9.bits (a:Int) &&& ~~~V0 X9.bits (b:Int)).toNat=hh a b:=e;simp only[aB,eqGuard,binOp,Op.intBits,E,hw];rfl
theorem oz {k:r9} {n:Nat} (E:n<64):O P (aB .shr t cx cy (.int .u64 (a:Int)) (.int k (n:Int))) w K=K (.int .u64 ((a / 2 ^ n:Nat):Int)):=O.of fun w' _=>by
 have e:(a:Int).fdiv (2 ^ min n X9.bits)=((a / 2 ^ n:Nat):Int):=by
  have:min n X9.bits=n:=Nat.min_eq_left (by show n≤64;omega);rw[this,Int.fdiv_eq_ediv_of_nonneg _ (by exact Int.le_of_lt (Int.pow_pos (by omega)))];simp
 simp only[aB,eqGuard,binOp,Op.shift,c8,e];simp[show ¬(n:Int)<0 by omega]
theorem qW {k:r9} {n:Nat} (E:n<64):O P (aB .shl t cx cy (.int .u64 1) (.int k (n:Int))) w K=K (.int .u64 ((2 ^ n:Nat):Int)):=by
 rw[Ck (by omega)];have e:min ((n:Int).toNat) X9.bits=n:=Nat.min_eq_left (by show n≤64;omega);have J:2 ^ n<2 ^ 64:=Nat.pow_lt_pow_right (by omega) E;rw[e,Int.one_mul,show ((2:Int) ^ n)=((2 ^ n:Nat):Int) by simp];generalize 2 ^ n=q at J ⊢;rw[wrap_u64 (by omega) (by omega)]
end
def oA:List Int:=[0,1,56,2,57,49,28,3,61,58,42,50,38,29,17,4,62,47,59,36,45,43,51,22,53,39,33,30,24,18,12,5,63,55,48,27,60,41,37,16,46,35,44,21,52,32,23,11,54,26,40,15,34,20,31,10,25,14,19,9,13,8,7,6]
def Laid (w:x2):Prop:=w.rangeAt 0 0 (ints .u8 oA)
theorem Laid.ext {w w':x2} (h:Laid w) (J:Ext w w'):Laid w':=lh J h
theorem Dq:∀ k:Nat,k<64→oA[(2 ^ k*285870213051353865 % 2 ^ 64) / 2 ^ 58]? =some (k:Int):=by decide
theorem Dr {x k m:Nat} {w:x2} (O:Laid w) (J:x=2 ^ k*(2*m+1)) (U:x<2 ^ 64):
  ah x5 BC [.int .u64 (x:Int)] w fun v w'=>v= .int .i64 (k:Int)∧Ext w w':=by
 have ad:0<2 ^ k:=Nat.two_pow_pos k;have ae:2 ^ k≤x:=by
  have:2 ^ k*1≤2 ^ k*(2*m+1):=Nat.mul_le_mul_left _ (by omega);omega
 have W:k<64:=by
  rcases Nat.lt_or_ge k 64 with h|h
  ·exact h
  ·have:2 ^ 64≤2 ^ k:=Nat.pow_le_pow_right (by omega) h;omega
 refine aq func239 ?_;simp only[bc,aa];refine⟨fun h=>by omega,fun _=>?_⟩;rw[iZ];have X:X9.wrap (0-(x:Int))=((2 ^ 64-x:Nat):Int):=by
  simp only[r9.wrap,r9.bits,r9.signed];simp;omega
 rw[X,u64_and U (by omega),J,Di (by omega)];simp only[fx];have Y:X9.wrap (((2 ^ k:Nat):Int)*285870213051353865)=((2 ^ k*285870213051353865 % 2 ^ 64:Nat):Int):=by
  have e:((2 ^ k:Nat):Int)*285870213051353865=((2 ^ k*285870213051353865:Nat):Int):=by simp
  rw[e];simp only[r9.wrap,r9.bits,r9.signed];simp
 have Z:(58:Int)=((58:Nat):Int):=rfl;rw[Y,Z,oz (by omega)];have E:=Dq k W;have ac:=(x3.1 E).1;rw[qE (t:=n5) n5.u bY.i ac,V (by kernel_rfl) (by rw[W9];exact O _ _ (il E)),e7 bY.u ab.u,wrap_i64 (by omega) (by omega)];exact⟨rfl,Ext.refl _⟩
def gP (b n:Nat):x1:=.agg #[.int .u64 (b:Int),.int .i64 (n:Int)]
def jL (b n:Nat):Prop:=n≤32∧b<2 ^ n
theorem vt (s i:Nat):(2 ^ s-1).testBit i=decide (i<s):=Nat.testBit_two_pow_sub_one s i
theorem vu {b n:Nat} {v:Int} {w:x2}:ah x5 Aq [gP b n,.int .i64 v] w fun r w'=>r= .bool (decide (0≤v∧v<n))∧Ext w w':=by
 refine aq func79 ?_;refine a7 fun g O U E J=>?_;simp only[bR,ca,aa];refine⟨fun h=>?_,fun h=>⟨?_,E⟩⟩
 ·rw[ae bz.p rfl,V (by kernel_rfl) (J.cell (o:=0+1) rfl)];simp only[ao];exact⟨by simp[h],E⟩
 ·rw[decide_eq_false];omega
theorem vv {b n:Nat} {w:x2}:ah x5 Ab [gP b n] w fun r w'=>r= .int .i64 n∧Ext w w':=by
 refine aq func62 ?_;refine a7 fun g O U E J=>?_;rw[ae bz.p rfl,V (by kernel_rfl) (J.cell (o:=0+1) rfl)];exact⟨rfl,E⟩
theorem Ds {n:Int} {w:x2}:ah x5 An [.int .i64 n] w fun r w'=>Ext w w'∧r=(if 1≤n∧n≤32 then .tuple #[gP (2 ^ n.toNat-1) n.toNat,.int .i64 0] else .tuple #[gP 0 0,.int .i64 1]):=by
 refine aq func76 ?_;refine bi bz.i fun g W ac O U=>?_;refine aL (fun v X=>v= .bool (decide (¬(1≤n∧n≤32)))∧W=X) ?_ ?_
 ·rintro _ _ ⟨rfl,rfl⟩;simp only[aa];refine⟨fun h=>?_,fun h=>?_⟩
  ·rw[cI (cs:=#[.int .u64 0,.int .i64 0]) (by kernel_rfl)];refine bP (vs:=[.int .u64 0,.int .i64 0]) bz.i rfl rfl (by intro u hu;simp at hu;rcases hu with rfl|rfl <;> rfl) U fun Y E Z J=>?_;rw[eo bz.p bz.i rfl J.range,if_neg h];exact⟨O.then E (by rintro r ab rfl;omega),rfl⟩
  ·have h:1≤n∧n≤32:=Z7.1 h;obtain⟨m,rfl⟩:∃ m:Nat,n=m:=⟨n.toNat,by omega⟩;rw[qW (by omega)];have ad:0<2 ^ m:=Nat.two_pow_pos m;have ae:2 ^ m≤2 ^ 32:=Nat.pow_le_pow_right (by omega) (by omega);simp only[cY];rw[wrap_u64 (by omega) (by omega),show (((2 ^ m:Nat):Int)-1)=((2 ^ m-1:Nat):Int) by omega];rw[cI (cs:=#[.int .u64 ((2 ^ m-1:Nat):Int),.int .i64 m]) (by kernel_rfl)];refine bP (vs:=[.int .u64 ((2 ^ m-1:Nat):Int),.int .i64 m]) bz.i rfl rfl (by intro u hu;simp at hu;rcases hu with rfl|rfl <;> rfl) U fun Y E Z J=>?_;rw[eo bz.p bz.i rfl J.range,if_pos h];exact⟨O.then E (by rintro r ab rfl;omega),rfl⟩
 ·intro af V;simp only[ao,bA,aa];refine⟨fun h=>V _ _ ⟨?_,rfl⟩,fun h=>V _ _ ⟨?_,rfl⟩⟩
  ·rw[decide_eq_true];omega
  ·congr 1;simp;omega
theorem vw {b n:Nat} {v:Int} {w:x2} (ab:jL b n) (ad:Laid w) (ac: -1≤v):ah x5 Ba [gP b n,.int .i64 v] w fun r w'=>r= .int .i64 (hj b n v)∧Ext w w':=by
 obtain⟨am,J⟩:=ab;have O:b<2 ^ 64:=Nat.lt_of_lt_of_le J (Nat.pow_le_pow_right (by omega) (by omega));refine aq func186 ?_;refine a7 fun g af ao E U=>?_;rw[ae bz.p rfl,V (by kernel_rfl) (U.cell (o:=0+1) rfl)];simp only[cY,ca,aa];rw[wrap_i64 (by omega) (by omega)];refine⟨fun h=>⟨by rw[Dn h],E⟩,fun ap=>?_⟩;rw[ae bz.p rfl,V (by kernel_rfl) (U.cell (o:=0+0) rfl)];refine aL (fun u ag=>af=ag∧ ∃ r s:Nat,u= .int .u64 (r:Int)∧r<2 ^ 64∧v+1=s∧ ∀ i,r.testBit i=(decide (s≤i)&&b.testBit i)) ?_ ?_
 ·rintro _ _ ⟨rfl,r,s,rfl,ai,W,X⟩;simp only[bc,aa];refine⟨fun aj=>⟨by rw[Dp X (by omega) W],E⟩,fun aj=>?_⟩;obtain⟨k,m,Y⟩:=Dh r (by omega);refine (Dr (ad.ext E) Y ai).mono ?_;rintro _ au _ ⟨rfl,ak⟩;exact⟨by rw[Do (by omega) J X Y W],E.trans ak⟩
 ·intro av Z;refine⟨fun h=>?_,fun h=>?_⟩
  ·obtain⟨s,rfl⟩:∃ s:Nat,v=s:=⟨v.toNat,by omega⟩;have aw:0<2 ^ (s+1):=Nat.two_pow_pos _;have ax:2 ^ (s+1)≤2 ^ 32:=Nat.pow_le_pow_right (by omega) (by omega);simp only[aF];rw[wrap_i64 (by omega) (by omega),show ((s:Int)+1)=((s+1:Nat):Int) by omega,qW (by omega)];simp only[cY];rw[wrap_u64 (by omega) (by omega),show (((2 ^ (s+1):Nat):Int)-1)=((2 ^ (s+1)-1:Nat):Int) by omega,vr];refine Z _ _ ⟨rfl,_,s+1,rfl,Dj _ _,by omega,fun i=>?_⟩;rw[vk,vt];by_cases al:i<64
   ·by_cases hi:s+1≤i
    ·simp[al,hi,show ¬i<s+1 by omega]
    ·simp[hi,show i<s+1 by omega]
   ·rw[vl O (by omega)];simp
  ·exact Z _ _ ⟨rfl,b,0,rfl,O,by omega,fun i=>by simp⟩
theorem Dt {b n:Nat} {w:x2} (J:jL b n) (O:Laid w):ah x5 A9 [gP b n] w fun r w'=>r= .int .i64 (hj b n (-1))∧Ext w w':=by
 refine aq func185 ?_;refine a7 fun g W X E U=>?_;rw[bj bz.p bz.i rfl U.range];refine (vw J (O.ext E) (by omega)).mono ?_;rintro _ Y _ ⟨rfl,V⟩;exact⟨rfl,E.trans V⟩
theorem Du {b n:Nat} {v:Int} {w:x2} (ak:jL b n):ah x5 Ap [gP b n,.int .i64 v] w fun r w'=>r=gP (if 0≤v∧v<n then hh b (2 ^ v.toNat) else b) n∧Ext w w':=by
 refine aq func78 ?_;refine a7 fun g ay az Y Z=>?_;refine bi bz.i fun al aA aB ab ac=>?_;have aC:=Y.size;have aD:=Z.lt;refine dd (fun J=>∃ O,ad J g bz [.int .u64 ((O:Nat):Int),.int .i64 (n:Int)]∧ad J al bz [.int .u64 0,.int .i64 0]∧Ext w J∧O=(if 0≤v∧v<n then hh b (2 ^ v.toNat) else b)) ?_ ?_
 ·rintro J ⟨O,am,ao,ap,rfl⟩;rw[bj bz.p bz.i rfl am.range];refine bP (vs:=[_,_]) bz.i rfl rfl (by intro u hu;simp at hu;rcases hu with rfl|rfl <;> rfl) ao fun aE au aF av=>?_;rw[eo bz.p bz.i rfl av.range];exact⟨rfl,ap.then au (by rintro r aw rfl;omega)⟩
 ·intro aG af;have W:=Z.ext ab;rw[bj bz.p bz.i rfl W.range];refine vu.mono ?_;rintro _ aH _ ⟨rfl,E⟩;have ag:=(Y.trans ab).trans E;simp only[aa,dj];refine⟨fun h aI X _ _=>?_,fun h=>af _ ⟨b,W.ext E,ac.ext E,ag,by rw[if_neg h]⟩⟩;have ai:=(W.ext E).ext X;rw[ae bz.p rfl,V (by kernel_rfl) (ai.cell (o:=0+0) rfl)];obtain⟨s,rfl⟩:∃ s:Nat,v=s:=⟨v.toNat,by omega⟩;have aJ:=ak.1;rw[qW (by omega),vr,ae bz.p rfl];refine aZ e4.i rfl rfl ai (by simp[gP,x1.cells]) fun aK aj aL ax=>?_;refine af _ ⟨_,ax,((ac.ext E).ext X).U aj (by omega),(ag.trans X).then aj (by rintro r aw rfl;omega),?_⟩;rw[if_pos h,c8]
def lw (v:Int):Nat:=if v<0 then 0 else 40-v.toNat
theorem qX (x:Nat):lw x=40-x:=by unfold lw;rw[if_neg (by omega)];omega
theorem vx {b n g:Nat} (O:jL b n):
  k4 x5 jy [.pointer (some ⟨g,0,none⟩)] (e8 b n).length (fun k vs _=>∃ v:Nat,(e8 b n)[k]? =some v∧vs=[.int .i64 (v:Int)])
   (fun w=>ad w g bz [.int .u64 (b:Int),.int .i64 (n:Int)]∧Laid w):=by
 refine⟨jy.enters,fun l af au w W _ ag ⟨X,Y⟩ ah=>?_⟩;have av:=O.1;refine n8 func184 ?_;rw[bj bz.p bz.i rfl X.range];refine (Dt O Y).free.mono ?_;rintro _ aw ⟨ai,rfl,J⟩;refine⟨fun v E=>∃ k,k≤(e8 b n).length∧v= .int .i64 (kx (e8 b n)[k]?)∧af k E∧ad E g bz [.int .u64 (b:Int),.int .i64 (n:Int)]∧Laid E,
  fun v _=>lw (bl v),⟨0,Z1 _,by rw[Dm],W 0 _ _ J ai.b ah,X.ext J,Y.ext J⟩,?_⟩
 rintro _ E ⟨k,ax,rfl,Z,aj,ak⟩;cases ac:(e8 b n)[k]? with
 |none=>
  have:k=(e8 b n).length:=by
   have:=List.getElem?_eq_none_iff.1 ac;omega
  subst this;simp only[kx,ca,aa];exact⟨fun h=>by omega,fun _=>.inl Z⟩
 |some x=>
  have U:=(x3.1 ac).1;have ay:=(Dl.1 (x4 ac)).1;simp only[kx,ca,aa];refine⟨fun _=>?_,fun h=>by omega⟩;refine⟨rfl,(ag k _ E U ⟨aj,ak⟩ ⟨x,ac,rfl⟩ Z).mono ?_⟩;rintro _ az (⟨rfl,⟨ab,ae⟩,al⟩|⟨rfl,am⟩)
  ·simp only[bJ,Z3,aP];rw[bj bz.p bz.i rfl ab.range];refine (vw O ae (by omega)).free.mono ?_;rintro _ aA ⟨ao,rfl,V⟩;refine⟨⟨k+1,U,congrArg (Y5 .i64) (vp ac),W _ _ _ V ao.b al.1,ab.ext V,ae.ext V⟩,?_⟩;rw[vp ac];cases ap:(e8 b n)[k+1]? with
   |none=>show 0<lw x;rw[qX];omega
   |some y=>
    have aB:x<y:=by
     have h1:=(x3.1 ac).2;have aq:=(x3.1 ap).2;rw[←h1,←aq];exact X3.1 (vm b n) k (k+1) _ _ (by omega)
    show lw y<lw x;rw[qX,qX];omega
  ·simp only[bJ,Y8,bh];exact .inr ⟨k,U,am⟩
theorem vy {b n:Nat} {w:x2}:ah x5 AH [gP b n] w fun r w'=>Ext w w'∧ ∃ g,r= .func (.func jy) #[] #[.pointer (some ⟨g,0,none⟩)]∧w.heap.size≤g∧ad w' g bz [.int .u64 (b:Int),.int .i64 (n:Int)]:=by
 refine aq func118 ?_;refine a7 fun g O U E J=>?_;rw[hL];exact⟨E,g,rfl,by omega,J⟩
end Go.Proofs.YtgbkinibgjmodaaGreatDoor
namespace Go.Proofs.YtgbkinibgjmodaaGreatDoor
open Go Go.Vc Go.RowKit Go.Proofs Go.Proofs.Tryz
set_option maxRecDepth 100000
abbrev dt (s:List Int):Prop:=∀ x∈s,1≤x∧x≤32
theorem dt.tail {k:Int} {s:List Int} (h:dt (k::s)):dt s:=fun x J=>h x (.tail _ J)
theorem jc {s:List Int} (h:dt s):1≤aD s:=(mu s h).1
theorem lx:∀ (s t:List Int) (m:Int),cd s t m=(cd s t 0).map fun n=>n+m*aD s
 |[],[],m=>by simp[cd,aD]
 |k::s,v::t,m=>by
  unfold cd;split
  ·rw[lx s t (m*k+v),lx s t (0*k+v)];simp only[Option.map_map,aD];congr 1;funext n;simp only[Function.comp];rw[Int.add_mul,Int.add_mul,←Int.mul_assoc];simp;omega
  ·rfl
 |[],_::_,_=>rfl
 |_::_,[],_=>rfl
theorem qY {L j:Nat} {rest:List (List Int)} (O:rest.length=L):∀ {kn v:Nat},v<kn→ ∀ {x:List Int},rest[j]? =some x→
  ((Y1 kn).flatMap fun(v:Nat)=>rest.map fun t=>(v:Int)::t)[v*L+j]? =some ((v:Int)::x)
 |0,v,h,_,_=>by omega
 |kn+1,v,h,x,J=>by
  have U:=(x3.1 J).1;have E:((Y1 kn).flatMap fun(v:Nat)=>rest.map fun t=>(v:Int)::t).length=kn*L:=by
   simp only[List.length_flatMap,u7,O];rw[List.map_const',List.length_range,List.sum_replicate_nat]
  rw[List.range_succ,List.flatMap_append];by_cases ac:v<kn
  ·have:(v+1)*L≤kn*L:=Y7 _ ac;rw[W3] at this;rw[Z0 (by rw[E];omega)];exact qY O ac J
  ·have ac:v=kn:=by omega
   subst ac;rw[Z2 (by rw[E];omega),E,show v*L+j-v*L=j by omega];simp[J]
theorem qZ:∀ {s:List Int},dt s→ ∀ {i:Nat} {t:List Int},(bm s)[i]? =some t→cd s t 0=some (i:Int)
 |[],_,i,t,h=>by
  cases i with
  |zero=>simp[bm] at h;subst h;rfl
  |succ i=>simp[bm] at h
 |k::s,E,i,t,h=>by
  have Y:=E k (.head _);have O:=ip E.tail;have Z:=jc E.tail;obtain⟨kn,rfl⟩:∃ kn:Nat,k=kn:=⟨k.toNat,by omega⟩;have hi:=(x3.1 h).1;rw[ip E,aD,Int.toNat_mul (by omega) (by omega),←O,c8] at hi;have V:0<(bm s).length:=by omega
  have ac:i / (bm s).length<kn:=Nat.div_lt_of_lt_mul (by rw[Nat.mul_comm];exact hi);have W:i % (bm s).length<(bm s).length:=Nat.mod_lt _ V;obtain⟨x,J⟩:∃ x,(bm s)[i % (bm s).length]? =some x:=⟨_,y0 W⟩;have U:=qY (kn:=kn) rfl ac J;rw[Nat.mul_comm,Nat.div_add_mod] at U;have h':((Y1 ((kn:Int).toNat)).flatMap fun(v:Nat)=>(bm s).map fun t=>(v:Int)::t)[i]? =some t:=h;rw[c8,U] at h';cases h';unfold cd;rw[if_pos ⟨Int.natCast_nonneg _,Int.ofNat_lt.2 ac⟩,lx,qZ E.tail J];simp only[j6,b9,Int.zero_mul,Int.zero_add];have X:aD s=((bm s).length:Int):=by rw[O];omega
  rw[X,←Int.natCast_mul,←Int.natCast_add];congr 1;rw[Nat.mul_comm,Nat.add_comm,Nat.div_add_mod]
theorem oB:∀ {s:List Int},dt s→ ∀ {t:List Int} {n:Int},cd s t 0=some n→(bm s)[n.toNat]? =some t
 |[],_,[],n,h=>by simp[cd] at h;subst h;rfl
 |k::s,J,v::t,n,h=>by
  have X:=J k (.head _);have U:=ip J.tail;have Y:=jc J.tail;obtain⟨kn,rfl⟩:∃ kn:Nat,k=kn:=⟨k.toNat,by omega⟩;unfold cd at h;split at h
  ·rename_i ac;rw[lx] at h;cases O:cd s t 0 with
   |none=>rw[O] at h;cases h
   |some q=>
    rw[O] at h;simp only[j6,b9,Int.zero_mul,Int.zero_add] at h;have V:=kr J.tail O;simp only[Int.zero_mul,Int.zero_add,Int.one_mul] at V;obtain⟨E,rfl⟩:∃ E:Nat,v=E:=⟨v.toNat,by omega⟩;have W:=qY (kn:=kn) (v:=E) rfl (by omega) (oB J.tail O);have e:n.toNat=E*(bm s).length+q.toNat:=by
     rw[←h,U];have:((E*(aD s).toNat:Nat):Int)=(E:Int)*aD s:=by rw[Int.natCast_mul,Int.toNat_of_nonneg (by omega)]
     omega
    rw[e];show ((Y1 ((kn:Int).toNat)).flatMap fun(v:Nat)=>(bm s).map fun t=>(v:Int)::t)[_]? =_;rw[c8];exact W
  ·cases h
 |[],_,_::_,_,h=>by cases h
 |_::_,_,[],_,h=>by cases h
theorem vz:∀ (s:List Int),dt s→ ∀ (n c:Int),ce s (n+c*aD s)=ce s n
 |[],_,_,_=>rfl
 |k::s,E,n,c=>by
  have J:=jc E.tail;simp only[ce,aD];rw[←Int.mul_assoc,vz s E.tail,Int.add_mul_ediv_right _ _ (by omega),Int.add_mul_emod_self_right]
theorem oC:∀ {s:List Int},dt s→ ∀ {n:Int},0≤n→n<aD s→cd s (ce s n) 0=some n
 |[],_,n,J,h1=>by simp[aD] at h1;simp[ce,cd];omega
 |k::s,E,n,J,h1=>by
  have V:=E k (.head _);have W:=jc E.tail;simp only[ce,aD] at h1 ⊢;have O:n / aD s<k:=Int.ediv_lt_of_lt_mul (by omega) h1;have U:0≤n / aD s:=Int.ediv_nonneg J (by omega);have hm:n / aD s % k=n / aD s:=Int.emod_eq_of_lt U O;rw[hm];unfold cd;rw[if_pos ⟨U,O⟩,lx];have e:ce s n=ce s (n % aD s):=by
   have:=vz s E.tail (n % aD s) (n / aD s);rw[←this];congr 1;have:=Int.emod_add_mul_ediv n (aD s);rw[Int.mul_comm (n / aD s)];omega
  rw[e,oC E.tail (Int.emod_nonneg _ (by omega)) (Int.emod_lt_of_pos _ (by omega))];simp only[j6,b9,Int.zero_mul,Int.zero_add];have:=Int.emod_add_mul_ediv n (aD s);rw[Int.mul_comm (n / aD s)];omega
theorem oD {s:List Int} (E:dt s) {i:Nat} (h:(i:Int)<aD s):(bm s)[i]? =some (ce s i):=by
 have:=oB E (oC E (n:=(i:Int)) (by omega) h);simpa using this
end Go.Proofs.YtgbkinibgjmodaaGreatDoor
namespace Go.Proofs.YtgbkinibgjmodaaGreatDoor
open Go Go.Vc Go.RowKit Go.Proofs Go.Proofs.Tryz
set_option maxRecDepth 100000
def cC (s cs t:List Int):Int:=match cd s t 0 with
 |some n=>cs.getD n.toNat 0
 |none=>0
def upto {α:Type} (l:List α) (d:α) (i:Nat):List α:=l.take i++v8 (l.length-i) d
theorem mD {α:Type} (l:List α) (d:α) (i:Nat):(upto l d i).length=l.length:=by simp[upto];omega
theorem mE {α:Type} (l:List α) (d:α):upto l d 0=v8 l.length d:=by simp[upto]
theorem mF {α:Type} (l:List α) (d:α):upto l d l.length=l:=by simp[upto]
theorem mG {α:Type} {l:List α} {d x:α} {i:Nat} (h:l[i]? =some x):(upto l d i).set i x=upto l d (i+1):=by
 have hi:=(x3.1 h).1;unfold upto;rw[List.set_append_right _ _ (by simp;omega),u4,h];have e:i-(l.take i).length=0:=by simp;omega
 obtain⟨m,hm⟩:∃ m,l.length-i=m+1:=⟨l.length-i-1,by omega⟩;rw[e,hm,show l.length-(i+1)=m by omega];simp[List.replicate_succ]
theorem Dv {α:Type} {l:List α} {i:Nat} {x:α} (h:l[i]? =some x):l.set i x=l:=by
 apply Y4;intro j;rw[Y0];split
 ·rename_i E;subst E;rw[if_pos (x3.1 h).1,h]
 ·rfl
end Go.Proofs.YtgbkinibgjmodaaGreatDoor
namespace Go.Proofs.YtgbkinibgjmodaaGreatDoor
open Go Go.Vc Go.RowKit Go.Proofs Go.Proofs.Tryz
set_option maxRecDepth 100000
def q0:List Int→Int
 |[]=>0
 |x::l=>l.foldl min x
def vA (P:Int→Prop) (m:Int):Prop:=P m∧ ∀ x,P x→m≤x
def cv (s t:List Int):Prop:=∃ n,cd s t 0=some n
theorem Dw (k v:Int) (s t:List Int):cd (k::s) (v::t) 0=if 0≤v∧v<k then (cd s t 0).map (fun n=>n+(0*k+v)*aD s) else none:=by
 conv=>lhs;unfold cd
 rw[lx]
theorem vB {k v:Int} {s t:List Int}:cv (k::s) (v::t)↔(0≤v∧v<k)∧cv s t:=by
 unfold cv;rw[Dw];constructor
 ·rintro⟨n,h⟩;split at h
  ·rename_i ac;cases E:cd s t 0 with
   |none=>rw[E] at h;cases h
   |some q=>exact⟨ac,q,rfl⟩
  ·cases h
 ·rintro⟨ac,q,E⟩;rw[if_pos ac,E];exact⟨_,rfl⟩
theorem vC {t:List Int}:cv [] t↔t=[]:=by
 cases t with
 |nil=>exact⟨fun _=>rfl,fun _=>⟨0,rfl⟩⟩
 |cons v t=>
  constructor
  ·rintro⟨_,h⟩;cases h
  ·intro h;cases h
theorem oE {s t:List Int} (h:cv s t):s.length=t.length:=by
 obtain⟨n,h⟩:=h;rcases Nat.decEq s.length t.length with E|E
 ·rw[qJ s t 0 E] at h;cases h
 ·exact E
theorem vD {s t:List Int} (E:dt s) {n:Int} (h:cd s t 0=some n):ce s n=t:=by
 have O:=kr E h;have h1:=oB E h;simp only[Int.zero_mul,Int.zero_add,Int.one_mul] at O;have J:=oD E (i:=n.toNat) (by omega);rw[h1] at J;have e:((n.toNat:Nat):Int)=n:=by omega
 rw[e] at J;exact (j5 J).symm
theorem oF {s cs:List Int} (E:dt s) (J:cs.length=(aD s).toNat):cs=(Y1 (aD s).toNat).map fun(q:Nat)=>cC s cs (ce s q):=by
 apply List.ext_getElem
 ·simp[J]
 ·intro i h1 O;rw[List.getElem_map,List.getElem_range];have U:=jc E;have hi:(i:Int)<aD s:=by omega
  unfold cC;rw[oC E (by omega) hi];simp only[c8];rw[u6,y0 h1];rfl
theorem q1 {s:List Int} (E:dt s) {q:Nat} (J:q<(aD s).toNat):cv s (ce s q):=⟨_,oC E (by omega) (by have:=jc E;omega)⟩
theorem Dx {s cs E:List Int} (J:dt s) (O:cs.length=(aD s).toNat) (U:E.length=(aD s).toNat) (h:∀ t,cv s t→cC s cs t=cC s E t):cs=E:=by
 rw[oF J O,oF J U];apply List.map_congr_left;intro q V;exact h _ (q1 J (by simpa using V))
theorem Dy {l:List Int} (h:l≠[]):vA (fun c=>c∈l) (q0 l):=by
 obtain⟨x,r,rfl⟩:∃ v r,l=v::r:=by cases l with
  |nil=>exact absurd rfl h
  |cons v r=>exact⟨v,r,rfl⟩
 clear h;show vA (fun c=>c∈x::r) (r.foldl min x);induction r generalizing x with
 |nil=>exact⟨.head _,fun y O=>by simp at O;simp[O]⟩
 |cons y r U=>
  rw[List.foldl_cons];obtain⟨h1,J⟩:=U (min x y);refine⟨?_,fun z E=>?_⟩
  ·rcases V8.1 h1 with h1|h1
   ·rw[h1];rcases Int.le_total x y with h|h
    ·rw[Int.min_eq_left h];exact .head _
    ·rw[Int.min_eq_right h];exact .tail _ (.head _)
   ·exact .tail _ (.tail _ h1)
  ·rcases V8.1 E with rfl|E
   ·have:=J _ (.head _);omega
   ·rcases V8.1 E with rfl|E
    ·have:=J _ (.head _);omega
    ·exact J _ (.tail _ E)
end Go.Proofs.YtgbkinibgjmodaaGreatDoor
namespace Go.Proofs.YtgbkinibgjmodaaGreatDoor
open Go Go.Vc Go.RowKit Go.Proofs Go.Proofs.Tryz
set_option maxRecDepth 100000
def ly (m:List Int) (i j:Nat):Prop:=∀ (p q:Nat) (x y:Int),p<q→q≤i→q≠j→m[p]? =some x→m[q]? =some y→x≤y
def mH (m:List Int) (i:Nat):Prop:=∀ (p q:Nat) (x y:Int),p<q→q<i→m[p]? =some x→m[q]? =some y→x≤y
theorem Dz {m:List Int} {i:Nat} (h:mH m i):ly m i i:=fun p q x y h1 O U E J=>h p q x y h1 (by omega) E J
theorem DA {m:List Int} {i:Nat} (h:ly m i 0):mH m (i+1):=fun p q x y h1 O E J=>h p q x y h1 (by omega) (by omega) E J
theorem DB {m:List Int} {i j:Nat} {a b:Int} (h:ly m i j) (Y:0<j) (O:m[j-1]? =some a) (V:m[j]? =some b) (W:a≤b):mH m (i+1):=by
 intro p q x y h1 Z E J;by_cases U:q=j
 ·subst U;rw[V] at J;cases J;by_cases X:p=q-1
  ·subst X;rw[O] at E;cases E;exact W
  ·have:=h p (q-1) x a (by omega) (by omega) (by omega) E O;omega
 ·exact h p q x y h1 (by omega) U E J
theorem DC {m:List Int} {i j:Nat} {a b:Int} (h:ly m i j) (ac:0<j) (hi:j≤i) (V:m[j-1]? =some a) (W:m[j]? =some b) (ad:b<a):ly ((m.set j a).set (j-1) b) i (j-1):=by
 intro p q x y h1 U X E J;have Y:=(x3.1 W).1;have Z:∀ (r:Nat),((m.set j a).set (j-1) b)[r]? =if r=j-1 then some b else if r=j then some a else m[r]?:=fun r=>by
  by_cases h:r=j-1
  ·subst h;rw[U1 (by simp;omega),if_pos rfl]
  ·rw[List.getElem?_set_ne (Ne.symm h),if_neg h];by_cases h':r=j
   ·subst h';rw[U1 Y,if_pos rfl]
   ·rw[List.getElem?_set_ne (Ne.symm h'),if_neg h']
 rw[Z] at E J;rw[if_neg X] at J;by_cases O:q=j
 ·rw[if_pos O] at J;cases J;split at E
  ·cases E;omega
  ·split at E
   ·omega
   ·exact h p (j-1) x a (by omega) (by omega) (by omega) E V
 ·rw[if_neg O] at J;split at E
  ·cases E;have:=h j q b y;by_cases aa:j<q
   ·exact this aa U O W J
   ·omega
  ·split at E
   ·rename_i ab;subst ab;cases E;exact h (p-1) q a y (by omega) U O V J
   ·exact h p q x y h1 U O E J
theorem swap_perm {m:List Int} {i j:Nat} {a b:Int} (U:i<j) (J:m[i]? =some a) (E:m[j]? =some b):((m.set j a).set i b).Perm m:=by
 induction m generalizing i j with
 |nil=>simp at J
 |cons x m O=>
  cases j with
  |zero=>omega
  |succ j=>
   cases i with
   |zero=>
    simp at J E ⊢;subst J;obtain⟨V,E⟩:=x3.1 E;rw[show m=m.take j++m[j]::m.drop (j+1) by simp];rw[List.set_append_right _ _ (by simp;omega)];have e:j-(m.take j).length=0:=by simp;omega
    rw[e,E];simp only[List.set_cons_zero];refine (List.Perm.cons b (List.perm_middle)).trans ?_;refine (List.Perm.swap x b _).trans ?_;exact List.Perm.cons x List.perm_middle.symm
   |succ i=>
    simp at J E ⊢;exact O (by omega) J E
theorem DD {m:List Int} (h:mH m m.length):m.Pairwise (·≤ ·):=by
 rw[X3];intro i j hi E J;exact h i j _ _ J E (y0 hi) (y0 E)
end Go.Proofs.YtgbkinibgjmodaaGreatDoor
namespace Go.Proofs.YtgbkinibgjmodaaGreatDoor
open Go Go.Vc Go.RowKit Go.Proofs Go.Proofs.Tryz
set_option maxRecDepth 100000
def Good (o:List Int) (n:Nat):Prop:=o.length=n∧ ∀ (i:Nat) (p:Int),o[i]? =some p→(0≤p∧p<n)∧ ∀ j,j<i→o[j]? ≠some p
theorem Good.inj {o:List Int} {n i j:Nat} {p:Int} (h:Good o n) (hi:o[i]? =some p) (E:o[j]? =some p):i=j:=by
 rcases Nat.lt_trichotomy i j with h1|h1|h1
 ·exact absurd hi ((h.2 j p E).2 i h1)
 ·exact h1
 ·exact absurd E ((h.2 i p hi).2 j h1)
def vE (m:List Int):Prop:=∀ i:Nat,i<m.length→m[i]? =some (i:Int)
theorem vF {o m:List Int} {n:Nat} (h:Good o n) (E:m.Perm o) (X:m.Pairwise (·≤ ·)):vE m:=by
 have Y:o.Nodup:=X3.2 fun i j hi Z ad he=>by
  have:=h.inj (i:=i) (j:=j) (p:=o[j]) (by rw[y0 hi,he]) (y0 Z);omega
 have aa:m.Nodup:=E.nodup_iff.2 Y;have ae:m.length=n:=by rw[E.length_eq,h.1]
 have V:∀ x∈m,0≤x∧x<(n:Int):=fun x J=>by
  obtain⟨i,hi,he⟩:=List.getElem_of_mem (E.mem_iff.1 J);exact (h.2 i x (by rw[y0 hi,he])).1
 have W:∀ (i:Nat) (hi:i+1<m.length),m[i]<m[i+1]:=fun i hi=>by
  have h1:=X3.1 X i (i+1) (by omega) hi (by omega);have O:=X3.1 aa i (i+1) (by omega) hi (by omega);omega
 have ab:∀ (i:Nat) (hi:i<m.length),(i:Int)≤m[i]:=by
  intro i;induction i with
  |zero=>intro hi;exact (V _ (List.getElem_mem hi)).1
  |succ i U=>
   intro hi;have h1:=U (by omega);have O:=W i hi;omega
 have ac:∀ (d i:Nat) (hi:i<m.length),i+d+1=m.length→m[i]≤(i:Int):=by
  intro d;induction d with
  |zero=>
   intro i hi he;have:=(V _ (List.getElem_mem hi)).2;omega
  |succ d U=>
   intro i hi he;have h1:=U (i+1) (by omega) (by omega);have O:=W i (by omega);omega
 intro i hi;rw[y0 hi];have h1:=ab i hi;have O:=ac (m.length-i-1) i hi (by omega);congr 1;omega
theorem DE {o m:List Int} (h:vE m) (J:m.Perm o):Good o m.length:=by
 have X:m.Nodup:=X3.2 fun i j hi E Z he=>by
  have h1:=h i hi;have O:=h j E;rw[y0 hi] at h1;rw[y0 E] at O;have h1:=j5 h1;have O:=j5 O;omega
 have Y:o.Nodup:=J.nodup_iff.1 X;refine⟨J.length_eq.symm,fun i p hi=>⟨?_,fun j E U=>?_⟩⟩
 ·obtain⟨k,V,he⟩:=List.getElem_of_mem (J.mem_iff.2 (x4 hi));have h1:=h k V;rw[y0 V,he] at h1;cases h1;omega
 ·have W:i<o.length:=(x3.1 hi).1;have:=X3.1 Y j i (by omega) W E;rw[y0 W] at hi;rw[y0 (show j<o.length by omega)] at U;exact this ((j5 U).trans (j5 hi).symm)
theorem Good.vG {o:List Int} {n p:Nat} (h:Good o n) (J:p<n):∃ j:Nat,o[j]? =some (p:Int):=by
 let le:Int→Int→Bool:=fun a b=>decide (a≤b);have h1:(o.mergeSort le).Perm o:=List.mergeSort_perm o le;have E:(o.mergeSort le).Pairwise (·≤ ·):=by
  refine (List.pairwise_mergeSort (le:=le) (fun a b c h1 E=>?_) (fun a b=>?_) o).imp fun h=>by simpa[le] using h
  ·simp[le] at*;omega
  ·simp[le];omega
 have O:=vF h h1 E p (by rw[h1.length_eq,h.1];exact J);obtain⟨j,U,he⟩:=List.getElem_of_mem (h1.mem_iff.1 (x4 O));exact⟨j,by rw[y0 U,he]⟩
def jd (o x:List Int):List Int:=(Y1 o.length).map fun(p:Nat)=>x.getD (o.idxOf (p:Int)) 0
theorem vH (o x:List Int):(jd o x).length=o.length:=by simp[jd]
theorem vI {o x:List Int} {n j:Nat} {p:Int} (h:Good o n) (J:x.length=n) (E:o[j]? =some p):(jd o x)[p.toNat]? =x[j]?:=by
 have h1:=(h.2 j p E).1;have W:j<o.length:=(x3.1 E).1;have hm:p∈o:=x4 E;have O:=List.idxOf_lt_length_of_mem hm;have U:o.idxOf p=j:=h.inj (by rw[y0 O,List.getElem_idxOf O]) E;have V:((p.toNat:Nat):Int)=p:=by omega
 have X:=h.1;unfold jd;rw[x6,List.getElem?_range (by omega)];simp only[j6,V,U];rw[u6,y0 (show j<x.length by omega)];rfl
theorem vJ {o x y:List Int} {n:Nat} (h:Good o n) (J:x.length=n) (W:y.length=n) (U:∀ (j:Nat) (p:Int),o[j]? =some p→y[p.toNat]? =x[j]?):y=jd o x:=by
 refine Y4 fun p=>?_;have X:=h.1;by_cases V:p<n
 ·obtain⟨j,E⟩:=h.vG V;have h1:=U j p E;have O:=vI h J E;rw[c8] at h1 O;rw[h1,O]
 ·rw[c6 (by omega),c6 (by rw[vH];omega)]
theorem ky:∀ {s t:List Int},cv s t↔s.length=t.length∧ ∀ (i:Nat) (a v:Int),s[i]? =some a→t[i]? =some v→0≤v∧v<a
 |[],t=>by
  rw[vC];exact⟨fun h=>⟨by rw[h],fun i a v h _=>by simp at h⟩,fun h=>o8 h.1.symm⟩
 |k::s,[]=>⟨fun h=>absurd (oE h) (by simp),fun h=>absurd h.1 (by simp)⟩
 |k::s,v::t=>by
  rw[vB,ky (s:=s) (t:=t)];refine⟨fun⟨h1,J,O⟩=>⟨by simp[J],fun i a u E hu=>?_⟩,fun⟨h1,J⟩=>⟨J 0 k v rfl rfl,by simpa using h1,fun i a u E hu=>J (i+1) a u (by simpa using E) (by simpa using hu)⟩⟩;cases i with
  |zero=>simp at E hu;subst E;subst hu;exact h1
  |succ i=>exact O i a u (by simpa using E) (by simpa using hu)
def dg (s o:List Int):List Int:=o.map fun p=>s.getD p.toNat 0
theorem oG (s o:List Int):(dg s o).length=o.length:=by simp[dg]
theorem vK {s o:List Int} {n j:Nat} {p:Int} (h:Good o n) (J:s.length=n) (E:o[j]? =some p):(dg s o)[j]? =s[p.toNat]?:=by
 have h1:=(h.2 j p E).1;unfold dg;rw[x6,E,j6,u6,y0 (show p.toNat<s.length by omega)];rfl
theorem DF {s o:List Int} {n:Nat} (h:Good o n) (U:s.length=n) {x:Int} (J:x∈dg s o):x∈s:=by
 obtain⟨p,E,rfl⟩:=o6.1 J;obtain⟨j,O,he⟩:=List.getElem_of_mem E;have h1:=(h.2 j p (by rw[y0 O,he])).1;rw[u6,y0 (show p.toNat<s.length by omega)];exact List.getElem_mem _
theorem bu.DG {s o:List Int} {n:Nat} (E:bu s) (h:Good o n) (O:s.length=n):bu (dg s o):=
 ⟨by rw[oG,h.1,←O];exact E.1,fun x J=>E.2 x (DF h O J)⟩
theorem DH {s o x:List Int} {n:Nat} (h:Good o n) (E:s.length=n) (J:cv (dg s o) x):cv s (jd o x):=by
 obtain⟨h1,X⟩:=ky.1 J;rw[oG,h.1] at h1;refine ky.2 ⟨by rw[vH,h.1,E],fun p a v O ac=>?_⟩;have Y:p<n:=by have:=(x3.1 O).1;omega
 obtain⟨j,U⟩:=h.vG Y;have V:=vK h E U;have W:=vI h h1.symm U;rw[c8] at V W;exact X j a v (by rw[V,O]) (by rw[←W,ac])
def kz (s cs o:List Int):List Int:=(Y1 (aD (dg s o)).toNat).map fun(q:Nat)=>cC s cs (jd o (ce (dg s o) q))
theorem vL (s cs o:List Int):(kz s cs o).length=(aD (dg s o)).toNat:=by simp[kz]
theorem q2 {f:Int→Bool} {x:Int} {l:List Int}:runN f (x::l)=if f x=true then runN f l+1 else 0:=by
 unfold runN;rw[List.takeWhile_cons];by_cases h:f x=true
 ·rw[if_pos h,if_pos h,l6]
 ·rw[if_neg h,if_neg h];rfl
theorem q3 (f:Int→Bool):∀ l:List Int,l.dropWhile f=l.drop (runN f l)
 |[]=>rfl
 |x::l=>by
  rw[List.dropWhile_cons,q2];by_cases h:f x=true
  ·rw[if_pos h,if_pos h,q3 f l];rfl
  ·rw[if_neg h,if_neg h];rfl
theorem vM (f:Int→Bool):∀ l:List Int,l.takeWhile f=l.take (runN f l)
 |[]=>rfl
 |x::l=>by
  rw[List.takeWhile_cons,q2];by_cases h:f x=true
  ·rw[if_pos h,if_pos h,List.take_succ_cons,vM f l]
  ·rw[if_neg h,if_neg h];rfl
theorem vN {f:Int→Bool}:∀ {l:List Int} {b:Int} {q:List Int},l.dropWhile f=b::q→f b=false
 |x::l,b,q,h=>by
  rw[List.dropWhile_cons] at h;by_cases J:f x=true
  ·rw[if_pos J] at h;exact vN h
  ·rw[if_neg J] at h;have:=(List.cons.inj h).1;subst this;cases ag:f x
   ·rfl
   ·exact absurd ag J
theorem q4 {p:List Int} {a:Nat} {b:Int} {q:List Int} (h:p.drop a=b::q):p[a]? =some b:=by
 have:=List.getElem?_drop (xs:=p) (i:=a) (j:=0);rw[h] at this;simpa using this.symm
theorem DI (p:List Int) (at_:Nat):match lu p at_ with
  | .word a b=>lex (p.drop at_)=(((p.take b).drop a)::(lex (p.drop b)).1,(lex (p.drop b)).2)
  | .none=>lex (p.drop at_)=([],true)
  | .text _=>lex (p.drop at_)=([],false):=by
 have U:(p.drop at_).dropWhile bK=p.drop (eL p at_):=by rw[q3,List.drop_drop];rfl
 have V:(p.drop (eL p at_)).dropWhile bg=p.drop (gl p (eL p at_)):=by rw[q3,List.drop_drop];rfl
 have X:(p.drop (eL p at_)).takeWhile bg=(p.take (gl p (eL p at_))).drop (eL p at_):=by
  rw[vM,List.drop_take];congr 1;unfold gl;omega
 have O:runN bg (p.drop (eL p at_))=gl p (eL p at_)-eL p at_:=by unfold gl;omega
 have ai:eL p at_≤gl p (eL p at_):=by unfold gl;omega
 unfold lu;generalize eL p at_=a at*;generalize gl p a=b at*;by_cases h1:b<p.length∧(∀ c,p[b]? =some c→bK c=false)
 ·rw[if_pos h1];simp only;rw[hR,U];cases E:p.drop a with
  |nil=>
   have:=List.drop_eq_nil_iff.1 E;omega
  |cons x q=>
   simp only;rw[E] at V X O;by_cases J:bg x=true
   ·rw[if_pos J,V];cases W:p.drop b with
    |nil=>have:=List.drop_eq_nil_iff.1 W;omega
    |cons c r=>
     simp only;rw[h1.2 c (q4 W)];rfl
   ·rw[if_neg J]
 ·rw[if_neg h1];by_cases Y:a=b
  ·rw[if_pos Y];simp only;subst Y;rw[hR,U];cases E:p.drop a with
   |nil=>rfl
   |cons x q=>
    exfalso;have Z:=q4 E;have ad:=(x3.1 Z).1;rw[E] at O;rw[E] at U;have ae:=vN U;refine h1 ⟨ad,fun c aa=>?_⟩;rw[Z] at aa;cases aa;exact ae
  ·rw[if_neg Y];simp only;rw[hR (p.drop at_),U];cases E:p.drop a with
   |nil=>
    rw[E] at O;have:runN bg []=0:=rfl;omega
   |cons x q=>
    simp only;rw[E] at V X O;have J:bg x=true:=by
     rw[q2] at O;by_cases J:bg x=true
     ·exact J
     ·rw[if_neg J] at O;omega
    rw[if_pos J,V,X];cases W:p.drop b with
    |nil=>simp only;rw[hR []];rfl
    |cons c r=>
     simp only;have ab:=q4 W;have af:=(x3.1 ab).1;have ag:bK c=true:=by
      cases ah:bK c with
      |true=>rfl
      |false=>exact absurd ⟨af,fun d ac=>by rw[ab] at ac;cases ac;exact ah⟩ h1
     rw[if_pos ag]
def fl (w:x2) (g:Nat) (R:Nat→Prop) (toks:List (List Int)) (clean:Bool):Prop:=∃ E p at_,jb w g E p at_ (-1)∧(∀ r,leads E r→R r)∧lex (p.drop at_)=(toks,clean)
theorem fl.U {S:Nat→Prop} {w w':x2} {g:Nat} {R:Nat→Prop} {toks:List (List Int)} {clean:Bool} (h:fl w g R toks clean) (J:af S w w') (O:¬S g) (V:∀ r,R r→¬S r):fl w' g R toks clean:=by
 obtain⟨W,p,a,⟨h1,X,Y,Z,aa,ab⟩,E,ac⟩:=h;exact⟨W,p,a,⟨h1,X,Y,Z.U J O,aa,aX ab J fun r ad=>V r (E r ad)⟩,E,ac⟩
theorem fl.words {w:x2} {g:Nat} {R:Nat→Prop} {toks:List (List Int)} {clean:Bool} (h:fl w g R toks clean):toks.length≤100000∧ ∀ t∈toks,Bytes t∧t≠[]∧t.length≤100000:=by
 obtain⟨W,p,a,⟨X,Y,Z,_⟩,_,J⟩:=h;have aa:(p.drop a).length≤100000:=by rw[List.length_drop];omega
 have E:=mw _ (p.drop a) (u9 _);rw[J] at E;refine⟨by show toks.length≤_;have E:toks.length≤_:=E;omega,fun t U=>?_⟩;have O:=oq _ (p.drop a) (u9 _) t (by rw[J];exact U);refine⟨fun b V=>?_,O.1,by omega⟩;have:=of_decide_eq_true (O.2.1 b V);omega
def DJ (w:x2) (g:Nat) (R:Nat→Prop) (toks:List (List Int)) (clean:Bool) (v:x1) (w':x2):Prop:=af (fun r=>r=g) w w'∧match toks with
 |t::l=>fl w' g R l clean∧ ∃ n:Int,v= .tuple #[bb t,.int .i64 n,.int .i64 0]
 |[]=>∃ n:Int,v= .tuple #[bb [],.int .i64 n,.int .i64 (if clean then 2 else 11)]
theorem mI {w:x2} {g:Nat} {R:Nat→Prop} {toks:List (List Int)} {clean:Bool} (h:fl w g R toks clean):ah x5 qs [.pointer (some ⟨g,0,none⟩)] w (DJ w g R toks clean):=by
 obtain⟨Z,p,a,h1,aa,W⟩:=h;refine (De h1).mono ?_;intro v w' _ hw;have E:=DI p a;unfold mC at hw;cases X:lu p a with
 |word x y=>
  rw[X] at hw E;simp only at hw E;rw[W] at E;obtain⟨rfl,Y,ab⟩:=hw;obtain⟨O,V⟩:=Prod.mk.inj E;subst O V;exact⟨Y,⟨Z,p,y,ab,aa,rfl⟩,_,rfl⟩
 |none=>
  rw[X] at hw E;simp only at hw E;rw[W] at E;obtain⟨O,V⟩:=Prod.mk.inj E;subst O V;obtain⟨n,rfl,J⟩:=hw;exact⟨J.U _,_,rfl⟩
 |text b=>
  rw[X] at hw E;simp only at hw E;rw[W] at E;obtain⟨O,V⟩:=Prod.mk.inj E;subst O V;obtain⟨rfl,Y,_⟩:=hw;exact⟨Y,_,rfl⟩
def hT (w:List Int):x1:=match eK w with
 |some n=>.tuple #[.int .i64 n,.int .i64 0]
 |none=>.tuple #[.int .i64 0,.int .i64 4]
theorem vO {l:List Int} {i:Nat} {b:Int} (hi:l[i]? =some b):(l.take (i+1)).all eJ=((l.take i).all eJ&&eJ b):=by
 rw[u4,hi,List.all_append];simp
theorem vP {l:List Int} {i:Nat} {b:Int} (hi:l[i]? =some b):(l.take (i+1)).foldl dI 0=dI ((l.take i).foldl dI 0) b:=by
 rw[u4,hi,List.foldl_append];rfl
theorem vQ {l:List Int} (E:l≠[]) (h:l.all eJ=true):hS l=some (l.foldl dI 0):=by
 unfold hS;cases l with
 |nil=>exact absurd rfl E
 |cons x l=>simp only[h,if_true]
theorem vR {l:List Int} {i:Nat} {b:Int} (hi:l[i]? =some b) (E:eJ b=false):hS l=none:=by
 unfold hS;cases l with
 |nil=>simp at hi
 |cons x l=>
  simp only;rw[if_neg];intro h;have:=List.all_eq_true.1 h b (x4 hi);rw[E] at this;cases this
def lz (w l:List Int) (s:Int):Prop:=(s=1∨s= -1)∧eK w=(hS l).map fun n=>s*n
theorem vS {l:List Int}:lz (45::l) l (-1):=⟨.inr rfl,by simp only[eK];congr 1;funext n;omega⟩
theorem vT {w:List Int} (h:∀ b,w[0]? =some b→b≠45):lz w w 1:=⟨.inl rfl,by
 have e:eK w=hS w:=by
  unfold eK;cases w with
  |nil=>rfl
  |cons x l=>
   have:=h x rfl;split
   ·rename_i l' he;exact absurd (List.cons.inj he).1 this
   ·rfl
 rw[e];cases hS w with
 |none=>rfl
 |some n=>simp⟩
theorem oH {w l:List Int} {s:Int} (h:lz w l s) (E:hS l=none):hT w= .tuple #[.int .i64 0,.int .i64 4]:=by
 unfold hT;rw[h.2,E];rfl
theorem vU {w l:List Int} {s n:Int} (h:lz w l s) (E:hS l=some n):hT w= .tuple #[.int .i64 (s*n),.int .i64 0]:=by
 unfold hT;rw[h.2,E];rfl
set_option maxHeartbeats 1000000 in
theorem DK {l:List Int} {w:x2} (Z:Bytes l) (am:l.length≤100000):ah x5 Bg [bb l] w fun v w'=>v=hT l∧Ext w w':=by
 refine aq func198 ?_;rw[CX];refine gH (fun az aA ap=>Ext w ap∧ ∃ (m:List Int) (s:Int),az=bb m∧aA= .int .i64 s∧Bytes m∧m.length≤100000∧lz l m s) ?_ ?_
 ·rintro _ _ ap ⟨af,m,s,rfl,rfl,ai,aO,ab⟩;rw[uX ai (fun b E=>by cases E),aa];refine⟨fun J=>⟨by rw[oH ab (by rw[J];rfl)],af⟩,fun J=>?_⟩;refine qS cc.u bZ.u bY.u ai (by omega) fun bv ac au av _=>?_;rw[aI bZ.u av];refine nF.range m.length (fun i _ _ c ad=>Ext ac ad∧c= .int .i64 ((m.take i).foldl dI 0)∧(m.take i).all eJ=true) (by omega) ⟨Ext.refl _,rfl,rfl⟩ ?_ ?_
  ·rintro i aB t3 _ ad aC hi ⟨O,rfl,U⟩ aD;obtain⟨b,W⟩:∃ b,m[i]? =some b:=⟨_,y0 hi⟩;have aQ:=ai b (x4 W);rw[ao,aa];refine⟨fun _=>?_,fun h=>by omega⟩;refine CY (fun _ _ c ae=>Ext ac ae∧c= .int .i64 ((m.take (i+1)).foldl dI 0)∧(m.take (i+1)).all eJ=true) ?_ ?_
   ·rintro aR aS c ae aE;rw[aF];exact aD _ _ _ _ aE
   intro aG V;rw[a1 bZ.u bY.i (by kernel_rfl) (av.ext O) W];refine aL (fun v ae=>ad=ae∧v= .bool (!eJ b)) ?_ ?_
   rotate_left
   ·intro aH X;rw[ao,aa];refine⟨fun h=>X _ _ ⟨rfl,by unfold eJ;rw[decide_eq_false (by omega)];rfl⟩,fun h=>?_⟩;rw[bA];refine X _ _ ⟨rfl,?_⟩;unfold eJ;congr 1;by_cases aw:57<b
    ·rw[decide_eq_true aw,decide_eq_false (by omega)];rfl
    ·rw[decide_eq_false aw,decide_eq_true (by omega)];rfl
   rintro _ _ ⟨rfl,rfl⟩;cases al:eJ b with
   |false=>
    rw[Y8,bh];exact⟨by rw[oH ab (vR W al)],(af.trans au).trans O⟩
   |true=>
    rw[Z3,aP];have aT:=of_decide_eq_true al;have Y:=ot (l:=m.take i) (n:=0) U ⟨Int.le_refl _,by decide⟩;rw[vP W,vO W,U,al] at V;generalize (m.take i).foldl dI 0=n at*;have Y:0≤n∧n≤4611686018427387904:=Y;rw[cY,wrap_u8 (by omega) (by omega),e7 bY.u aj.u,wrap_i64 (x:=b-48) (by omega) (by omega),cY,wrap_i64 (by omega) (by omega),ob (by decide),Int.tdiv_eq_ediv_of_nonneg (by omega)];rw[wrap_i64 (by omega) (by omega),bA,aa];refine⟨fun aJ=>V _ _ _ _ ⟨O,?_,rfl⟩,fun aJ=>?_⟩
    ·congr 1;unfold dI ak;omega
    ·rw[fx,wrap_i64 (by omega) (by omega),aF,wrap_i64 (by omega) (by omega)];refine V _ _ _ _ ⟨O,?_,rfl⟩;congr 1;unfold dI ak;omega
  ·rintro aB t3 _ ad aC ⟨O,rfl,U⟩;rw[o3] at U ⊢;rw[ao,aa];refine⟨fun h=>by omega,fun _=>?_⟩;have Y:=ot (l:=m) (n:=0) U ⟨Int.le_refl _,by decide⟩;have Y:0≤m.foldl dI 0∧m.foldl dI 0≤4611686018427387904:=Y;rw[fx];have hw:X0.wrap (s*m.foldl dI 0)=s*m.foldl dI 0:=by
    rcases ab.1 with rfl|rfl <;> exact wrap_i64 (by omega) (by omega)
   rw[hw];exact⟨by rw[vU ab (vQ J U)],(af.trans au).trans O⟩
 ·intro aG V;refine aL (fun v ac=>w=ac∧ ∃ c:Bool,v= .bool c∧(c=true↔l[0]? =some 45)) ?_ ?_
  ·rintro _ _ ⟨rfl,c,rfl,ax⟩;rw[b3];refine⟨fun aK=>?_,fun ag=>?_⟩
   ·intro aU aM _ _;have ay:=ax.1 aK;cases l with
    |nil=>simp at ay
    |cons x r=>
     have aN:x=45:=by simpa using ay
     subst aN;rw[uY (y:=1) (i:=1) rfl cc.u (by simp)];exact V _ _ _ ⟨aM,r,-1,rfl,rfl,fun b E=>Z b (.tail _ E),by simp at am;omega,vS⟩
   ·refine V _ _ _ ⟨Ext.refl _,l,1,rfl,rfl,Z,am,vT fun b E he=>?_⟩;subst he;rw[ax.2 E] at ag;cases ag
  ·intro aH X;rw[C2 Z (fun b E=>by cases E),aa];refine⟨fun J=>?_,fun J=>X _ _ ⟨rfl,false,rfl,⟨fun h=>(by cases h),fun h=>by rw[Z7.1 J] at h;simp at h⟩⟩⟩;cases l with
   |nil=>exact absurd rfl J
   |cons x r=>
    rw[mz (y:=0) (i:=0) (b:=x) rfl cc.u Z rfl,bc];exact X _ _ ⟨rfl,_,rfl,by simp⟩
theorem oI {s s':aw} {w:List Int} (h:cU s=some (w,s')):s.toks=w::s'.toks∧s'={s with toks:=s'.toks}:=by
 unfold cU at h;cases E:s.toks with
 |nil=>rw[E] at h;cases h
 |cons x l=>
  rw[E] at h;simp only[b9,V1] at h;obtain⟨rfl,rfl⟩:=h;exact⟨rfl,rfl⟩
theorem fB {lo hi n:Int} {s s':aw} (h:aT lo hi s=some (n,s')):(lo≤n∧n≤hi)∧(∃ w,s.toks=w::s'.toks∧eK w=some n)∧s'={s with toks:=s'.toks}:=by
 unfold aT at h;cases hw:cU s with
 |none=>rw[hw] at h;cases h
 |some q=>
  obtain⟨w,U⟩:=q;rw[hw] at h;simp only at h;obtain⟨h1,J⟩:=oI hw;cases E:eK w with
  |none=>rw[E] at h;cases h
  |some m=>
   rw[E] at h;simp only at h;split at h
   ·rename_i O;simp only[b9,V1] at h;obtain⟨rfl,rfl⟩:=h;exact⟨O,⟨w,h1,E⟩,J⟩
   ·cases h
def fU (k:Nat) (s s':aw):Prop:=s.toks.length=s'.toks.length+k∧s'={s with toks:=s'.toks}
theorem fU.refl (s:aw):fU 0 s s:=⟨rfl,rfl⟩
theorem fU.trans {a b:Nat} {r s t:aw} (h:fU a r s) (k:fU b s t):fU (a+b) r t:=⟨by have:=h.1;have:=k.1;omega,by rw[k.2,h.2]⟩
theorem cN {lo hi n:Int} {s s':aw} (h:aT lo hi s=some (n,s')):fU 1 s s':=by
 obtain⟨_,⟨w,h1,_⟩,E⟩:=fB h;exact⟨by rw[h1];simp,E⟩
theorem fU.eqs {k:Nat} {s s':aw} (h:fU k s s'):s'.told=s.told∧s'.big=s.big∧s'.shared=s.shared:=by rw[h.2];exact⟨rfl,rfl,rfl⟩
theorem hU {α:Type} {f:List α→aw→Option (α×aw)} (I:List α→aw→Prop) (ag:∀ acc s a s',I acc s→f acc s=some (a,s')→I (acc++[a]) s'):
  ∀ (n:Nat) (acc:List α) (s:aw) (l:List α) (s':aw),I acc s→b1 f n acc s=some (l,s')→I l s'∧l.length=acc.length+n
 |0,acc,s,l,s',E,h=>by
  simp only[b1,b9,V1] at h;obtain⟨rfl,rfl⟩:=h;exact⟨E,by omega⟩
 |n+1,acc,s,l,s',E,h=>by
  simp only[b1] at h;cases J:f acc s with
  |none=>rw[J] at h;cases h
  |some q=>
   obtain⟨a,O⟩:=q;rw[J] at h;have:=hU I ag n _ _ _ _ (ag _ _ _ _ E J) h;exact⟨this.1,by rw[this.2];simp;omega⟩
theorem q5 {n:Int} {k:Nat} {s s':aw} {l:List Int} (h:dJ n k s=some (l,s')):fU l.length s s'∧l.length=k∧l.Nodup∧ ∀ v∈l,0≤v∧v<n:=by
 have:=hU (fun acc t=>fU acc.length s t∧acc.Nodup∧ ∀ v∈acc,0≤v∧v<n) (fun acc t a X ⟨h1,U,V⟩ h=>by
  cases E:aT 0 (n-1) t with
  |none=>rw[E] at h;cases h
  |some q=>
   obtain⟨v,Y⟩:=q;rw[E] at h;simp only at h;split at h
   ·cases h
   ·rename_i W;simp only[b9,V1] at h;obtain⟨rfl,rfl⟩:=h;have Z:=(fB E).1;refine⟨by rw[r8];exact h1.trans (cN E),List.nodup_append.2 ⟨U,by simp,fun x J y O he=>?_⟩,fun x J=>?_⟩
    ·rw[p8] at O;subst O;subst he;exact W J
    ·rcases p9.1 J with J|J
     ·exact V x J
     ·rw[p8.1 J];omega) k [] s l s' ⟨fU.refl s,List.nodup_nil,fun v ac=>by cases ac⟩ h
 exact⟨this.1.1,by simpa using this.2,this.1.2.1,this.1.2.2⟩
theorem q6:∀ {ks acc:List Int} {s s':aw} {t:List Int},gk ks acc s=some (t,s')→ ∃ u,t=acc++u∧cv ks u∧fU u.length s s'
 |[],acc,s,s',t,h=>by
  simp only[gk,b9,V1] at h;obtain⟨rfl,rfl⟩:=h;exact⟨[],by simp,vC.2 rfl,fU.refl s⟩
 |k::ks,acc,s,s',t,h=>by
  simp only[gk] at h;cases E:aT 0 (k-1) s with
  |none=>rw[E] at h;cases h
  |some q=>
   obtain⟨v,O⟩:=q;rw[E] at h;obtain⟨u,rfl,hu,J⟩:=q6 h;have U:=(fB E).1;exact⟨v::u,by simp,vB.2 ⟨by omega,hu⟩,by rw[l6,Nat.add_comm];exact (cN E).trans J⟩
def jM (sizes:List Int) (l:List (List Int×Int)):Prop:=(l.map (·.1)).Nodup∧ ∀ p∈l,cv sizes p.1∧0≤p.2
theorem lA {sizes:List Int} {acc:List (List Int×Int)} {s s':aw} {a:List Int×Int} (h:cV sizes acc s=some (a,s')):a.1∉acc.map (·.1)∧cv sizes a.1∧0≤a.2∧fU (a.1.length+1) s s':=by
 unfold cV at h;cases J:gk sizes [] s with
 |none=>rw[J] at h;cases h
 |some q=>
  obtain⟨t,O⟩:=q;rw[J] at h;simp only at h;obtain⟨u,hu,ac,U⟩:=q6 J;rw[List.nil_append] at hu;subst hu;cases E:aT 0 ak O with
  |none=>rw[E] at h;cases h
  |some q=>
   obtain⟨c,W⟩:=q;rw[E] at h;simp only at h;split at h
   ·cases h
   ·rename_i V;simp only[b9,V1] at h;obtain⟨rfl,rfl⟩:=h;exact⟨V,ac,(fB E).1.1,U.trans (cN E)⟩
structure vV (s s':aw):Prop where
 toks:s'.toks.length<s.toks.length
 big:s.big=true→s'.big=true
theorem DL {N:Nat} {sizes:List Int} {s s':aw} {l:List (List Int×Int)} (ab:∀ q∈s.shared,jM q.1 q.2∧q.2.length≤N) (al:s.toks.length≤N) (h:cW sizes s=some (l,s')):
  jM sizes l∧l.length≤N∧s'.shared=s.shared∧vV s s':=by
 unfold cW at h;cases W:aT (-ak) ak s with
 |none=>rw[W] at h;cases h
 |some q=>
  obtain⟨n,O⟩:=q;rw[W] at h;simp only at h;have h1:=cN W;obtain⟨am,ac,X⟩:=h1.eqs;split at h
  ·cases Y:O.shared[(-n-1).toNat]? with
   |none=>rw[Y] at h;cases h
   |some q=>
    obtain⟨z,l'⟩:=q;rw[Y] at h;simp only at h;split at h
    ·rename_i af;simp only[b9,V1] at h;obtain⟨rfl,rfl⟩:=h;subst af;have hm:=x4 Y;rw[X] at hm;exact⟨(ab _ hm).1,(ab _ hm).2,X,by have:=h1.1;omega,fun U=>by rw[ac];exact U⟩
    ·cases h
  ·have:=hU (fun acc t=>jM sizes acc∧t.shared=s.shared∧t.toks.length+acc.length≤O.toks.length∧(s.big=true→t.big=true)) (fun acc t a ao ⟨V,Z,ag,aa⟩ g=>by
    obtain⟨ah,ai,aj,ad⟩:=lA g;obtain⟨f1,f2,f3⟩:=ad.eqs;refine⟨⟨?_,fun p E=>?_⟩,by rw[f3,Z],by have:=ad.1;simp only[r8,U2];omega,fun U=>by rw[f2];exact aa U⟩
    ·rw[o9];exact List.nodup_append.2 ⟨V.1,by simp,fun x J y ae he=>by
      simp only[List.map_cons,List.map_nil,p8] at ae;subst ae;subst he;exact ah J⟩
    ·rcases p9.1 E with E|E
     ·exact V.2 p E
     ·rw[p8.1 E];exact⟨ai,aj⟩) n.toNat [] (aQ (decide (16384<min (O.told+n) ak)) {O with told:=min (O.told+n) ak}) l s' ⟨⟨by simp,fun p E=>by cases E⟩,X,by simp[aQ],fun U=>by simp[aQ,ac,U]⟩ h
   obtain⟨⟨V,Z,ag,aa⟩,_⟩:=this;have:=h1.1;exact⟨V,by omega,Z,⟨by omega,aa⟩⟩
structure oJ (all:List Int) (N:Nat) (f:bH):Prop where
 scope:f.scope.Nodup∧ ∀ v∈f.scope,0≤v∧v<all.length
 sizes:f.sizes=f.scope.map fun v=>all.getD v.toNat 0
 other:0≤f.other
 lines:jM f.sizes f.lines
 len:f.lines.length≤N
theorem DM {N:Nat} {all:List Int} {s s':aw} {f:bH} (aa:∀ q∈s.shared,jM q.1 q.2∧q.2.length≤N) (aA:s.toks.length≤N) (h:ck all s=some (f,s')):
  oJ all N f∧(∀ q∈s'.shared,jM q.1 q.2∧q.2.length≤N)∧vV s s'∧(s'.big=false→f.scope.length≤6∧cE f.sizes=false):=by
 unfold ck at h;cases ab:aT (-ak) ak s with
 |none=>rw[ab] at h;cases h
 |some q=>
 obtain⟨a,am⟩:=q;rw[ab] at h;simp only at h;have t0:=cN ab;obtain⟨aB,ao,ap⟩:=t0.eqs;cases h1:dJ all.length a.natAbs am with
 |none=>rw[h1] at h;cases h
 |some q=>
 obtain⟨sc,V⟩:=q;rw[h1] at h;simp only at h;obtain⟨ad,aC,aq,au⟩:=q5 h1;obtain⟨aD,av,ax⟩:=ad.eqs;generalize ay:sc.map (fun v=>all.getD v.toNat 0)=sizes at h;cases X:aT 0 ak (aQ (decide (6<a.natAbs)||cE sizes) V) with
 |none=>rw[X] at h;cases h
 |some q=>
 obtain⟨other,O⟩:=q;rw[X] at h;simp only at h;have ae:=cN X;obtain⟨aE,Y,W⟩:=ae.eqs;have W:O.shared=s.shared:=by rw[W];show V.shared=_;rw[ax,ap]
 have aF:O.toks.length<s.toks.length:=by
  have:=t0.1;have:=ad.1;have Z:=ae.1;have:(aQ (decide (6<a.natAbs)||cE sizes) V).toks.length=V.toks.length:=rfl;omega
 cases Z:cW sizes O with
 |none=>rw[Z] at h;cases h
 |some q=>
 obtain⟨lines,J⟩:=q;rw[Z] at h;simp only[b9,V1] at h;obtain⟨rfl,rfl⟩:=h;obtain⟨af,ag,ah,ai⟩:=DL (N:=N) (by rw[W];exact aa) (by omega) Z;have az:=ai.big;have gt:=ai.toks;have aj:O.big=true→ ∀ ac:aw,ac=(if a<0 then {J with shared:=J.shared++[(sizes,lines)]} else J)→ac.big=true:=fun U ac he=>by
  rw[he];split <;> exact az U
 have Y:O.big=(s.big||(decide (6<a.natAbs)||cE sizes)):=by
  rw[Y];show (V.big||_)=_;rw[av,ao]
 refine⟨⟨⟨aq,au⟩,ay.symm,(fB X).1.1,af,ag⟩,fun q E=>?_,⟨?_,fun U=>aj (by rw[Y,U];rfl) _ rfl⟩,fun U=>?_⟩
 ·split at E
  ·rcases p9.1 E with E|E
   ·rw[show J.shared=s.shared by rw[ah,W]] at E;exact aa q E
   ·rw[p8.1 E];exact⟨af,ag⟩
  ·rw[show J.shared=s.shared by rw[ah,W]] at E;exact aa q E
 ·have:(if a<0 then {J with shared:=J.shared++[(sizes,lines)]} else J).toks=J.toks:=by split <;> rfl
  rw[this];omega
 ·have al:O.big=false:=by
   cases E:O.big with
   |false=>rfl
   |true=>rw[aj E _ rfl] at U;cases U
  rw[Y,V7,V7,decide_eq_false_iff_not] at al;show sc.length≤6∧_;exact⟨by omega,al.2.2⟩
structure dP (N:Nat) (f:bx):Prop where
 name:f.name.length≤64
 k:1≤f.k∧f.k≤2147483648
 sizes:1≤f.sizes.length∧f.sizes.length≤64∧ ∀ z∈f.sizes,1≤z∧z≤32
 iu:f.funs.length≤256
 funs:∀ x∈f.funs,oJ f.sizes N x∧x.scope.length≤6∧cE x.sizes=false
theorem mJ {b:Bool} {s:aw} (h:(aQ b s).big=false):s.big=false∧b=false:=by
 have h:(s.big||b)=false:=h;exact V7.1 h
theorem DN {a b:aw} (h:a.big=true→b.big=true) (E:b.big=false):a.big=false:=by
 cases J:a.big with
 |false=>rfl
 |true=>rw[h J] at E;cases E
set_option maxHeartbeats 800000 in
theorem vW {s s':aw} {f:bx} (aA:s.shared=[]) (h:fA s=some (f,s')) (E:s'.big=false):dP s.toks.length f∧f.name∈s.toks:=by
 unfold fA at h;cases af:cU s with
 |none=>rw[af] at h;cases h
 |some q=>
 obtain⟨name,s0⟩:=q;rw[af] at h;simp only at h;obtain⟨au,aB⟩:=oI af;cases h1:aT 1 ak (aQ (decide (64<name.length)) s0) with
 |none=>rw[h1] at h;cases h
 |some q=>
 obtain⟨n,Z⟩:=q;rw[h1] at h;simp only at h;have U:=cN h1;cases ag:aT 1 ak (aQ (decide (64<n)) Z) with
 |none=>rw[ag] at h;cases h
 |some q=>
 obtain⟨most,aC⟩:=q;rw[ag] at h;simp only at h;have ah:=cN ag;cases ai:aT 0 ak aC with
 |none=>rw[ai] at h;cases h
 |some q=>
 obtain⟨aa,ab⟩:=q;rw[ai] at h;simp only at h;have t3:=cN ai;cases ac:aT 1 ak (aQ (decide (256<aa)) ab) with
 |none=>rw[ac] at h;cases h
 |some q=>
 obtain⟨k,W⟩:=q;rw[ac] at h;simp only at h;have t4:=cN ac;cases aj:b1 (ep most) n.toNat [] (aQ (decide (2147483648<k)) W) with
 |none=>rw[aj] at h;cases h
 |some q=>
 obtain⟨sizes,ad⟩:=q;rw[aj] at h;simp only at h;cases al:b1 (fun _ s=>ck sizes s) aa.toNat [] ad with
 |none=>rw[al] at h;cases h
 |some q=>
 obtain⟨funs,aD⟩:=q;rw[al] at h;simp only[b9,V1] at h;obtain⟨rfl,rfl⟩:=h;have aE:=hU (fun(acc:List Int) t=>t.shared=[]∧t.toks.length≤s.toks.length∧(t.big=false→W.big=false∧k≤2147483648∧ ∀ z∈acc,1≤z∧z≤32)) (fun acc t a aF ⟨am,av,ao⟩ g=>by
  unfold ep at g;cases V:aT 1 most t with
  |none=>rw[V] at g;cases g
  |some q=>
   obtain⟨z,U⟩:=q;rw[V] at g;simp only[b9,V1] at g;obtain⟨rfl,rfl⟩:=g;have ax:=cN V;obtain⟨a7,aG,aH⟩:=ax.eqs;have a8:=(fB V).1;refine⟨by show U.shared=[];rw[aH,am],by show U.toks.length≤_;have:=ax.1;omega,fun E=>?_⟩;obtain⟨O,X⟩:=mJ E;rw[aG] at O;obtain⟨ap,aq,aI⟩:=ao O;refine⟨ap,aq,fun y Y=>?_⟩;rcases p9.1 Y with Y|Y
   ·exact aI y Y
   ·rw[p8.1 Y];have:=of_decide_eq_false X;omega) n.toNat [] (aQ (decide (2147483648<k)) W) sizes ad ⟨by
     show W.shared=[];rw[t4.eqs.2.2];show ab.shared=[];rw[t3.eqs.2.2,ah.eqs.2.2];show Z.shared=[];rw[U.eqs.2.2];show s0.shared=[];rw[aB];exact aA,by
     show W.toks.length≤_;have aJ:=U.1;have aK:=ah.1;have a3:=t3.1;have a4:=t4.1;have O:(aQ (decide (64<name.length)) s0).toks=s0.toks:=rfl;have X:(aQ (decide (64<n)) Z).toks=Z.toks:=rfl;have ae:(aQ (decide (256<aa)) ab).toks=ab.toks:=rfl;rw[O] at aJ;rw[X] at aK;rw[ae] at a4;rw[au,l6];omega,fun E=>by
     obtain⟨O,X⟩:=mJ E;have:=of_decide_eq_false X;exact⟨O,by omega,fun z aL=>by cases aL⟩⟩ aj
 obtain⟨⟨aM,aN,aO⟩,aP⟩:=aE;have aR:=hU (fun(acc:List bH) t=>(∀ q∈t.shared,jM q.1 q.2∧q.2.length≤s.toks.length)∧t.toks.length≤s.toks.length∧(t.big=false→ad.big=false∧ ∀ x∈acc,oJ sizes s.toks.length x∧x.scope.length≤6∧cE x.sizes=false)) (fun acc t a aF ⟨am,av,ao⟩ g=>by
  obtain⟨aS,aU,ay,aV⟩:=DM am av g;refine⟨aU,by have:=ay.toks;omega,fun E=>?_⟩;obtain⟨ap,aq⟩:=ao (DN ay.big E);refine⟨ap,fun x J=>?_⟩;rcases p9.1 J with J|J
  ·exact aq x J
  ·rw[p8.1 J];exact⟨aS,aV E⟩) aa.toNat [] ad funs aD ⟨(by rw[aM];intro q V;cases V),aN,fun E=>⟨E,fun x J=>by cases J⟩⟩ al
 obtain⟨⟨_,_,d3⟩,d4⟩:=aR;obtain⟨aW,d5⟩:=d3 E;obtain⟨ae,aX,aY⟩:=aO aW;rw[t4.eqs.2.1] at ae;obtain⟨az,aZ⟩:=mJ ae;rw[t3.eqs.2.1,ah.eqs.2.1] at az;obtain⟨O,a1⟩:=mJ az;rw[U.eqs.2.1] at O;obtain⟨_,a2⟩:=mJ O;have:=of_decide_eq_false aZ;have:=of_decide_eq_false a1;have:=of_decide_eq_false a2;have ba:=(fB h1).1;have a6:=(fB ac).1;simp only[List.length_nil,V3] at aP d4;exact⟨⟨by show name.length≤64;omega,⟨a6.1,aX⟩,⟨by show 1≤sizes.length;omega,by show sizes.length≤64;omega,aY⟩,by show funs.length≤256;omega,d5⟩,by rw[au];exact .head _⟩
def hl (x:bH) (k:Int) (t:List Int):Int:=min (match x.lines.find? (fun p=>decide (p.1=t)) with
 |some p=>p.2
 |none=>x.other) k
def aV (l:List Int):List Int:=((Y1 64).map fun(v:Nat)=>(v:Int)).filter fun v=>decide (v∈l)
def bI (sizes scope:List Int):List Int:=scope.map fun v=>sizes.getD v.toNat 0
def lB (scope E t:List Int):List Int:=scope.map fun v=>t.getD (E.idxOf v) 0
abbrev bU:Type:=List Int×List Int
def fC (sizes:List Int) (k:Int) (x:bH):bU:=(aV x.scope,(bm (bI sizes (aV x.scope))).map fun t=>hl x k (lB x.scope (aV x.scope) t))
def cZ (k:Int) (a b:List Int):List Int:=List.zipWith (fun x y=>min (x+y) k) a b
def fV (k:Int) (acc:List bU) (g:bU):List bU:=if g.1∈acc.map (·.1) then acc.map fun h=>if h.1=g.1 then (h.1,cZ k h.2 g.2) else h else acc++[g]
def gQ:List Int→Int
 |[]=>0
 |x::l=>x*64 ^ l.length+gQ l
def cm (l:List Int):Int:=l.length*64 ^ 6+gQ l
def fm (g:bU):List bU→List bU
 |[]=>[g]
 |h::l=>if cm h.1<cm g.1 then h::fm g l else g::h::l
def ec (g:bU):Bool:=g.2.any fun c=>decide (0<c)
def dV (f:bx):List bU:=(f.funs.map (fC f.sizes f.k)).foldl (fV f.k) []
def ed (f:bx):List bU:=((dV f).filter ec).foldl (fun l g=>fm g l) []
structure bd where
 k:Int
 sizes:List Int
 zero:Int
 unary:List (List Int)
 funs:List bU
deriving DecidableEq
def cJ (f:bx):bd:=(ed f).foldl (fun n g=>match g.1 with
 |[]=>{n with zero:=g.2.getD 0 0}
 |[v]=>{n with unary:=n.unary.set v.toNat g.2}
 |_=>{n with funs:=n.funs++[g]}) ⟨f.k,f.sizes,0,f.sizes.map fun z=>v8 z.toNat 0,[]⟩
abbrev gm:Type:=Rd (List Int)×Rd (List (List Int×Int))
def ba (g gs:Nat) (A:an):an:=fun r=>r=g∨r=gs∨A r
def ee (gs:Nat) (e big E J told:Int) (sv:x1):List x1:=[.pointer (some ⟨gs,0,none⟩),.int .i64 e,.int .i64 big,.int .i64 E,.int .i64 J,.int .i64 told,sv]
def bQ (g gs:Nat) (A:an) (B:an):an:=fun r=>¬ba g gs A r∧B r
def iv (w:x2) (g gs:Nat) (A:an) (B:an):Prop:=g≠gs∧¬A g∧¬A gs∧(∀ r,ba g gs A r→r<w.heap.size)∧ ∀ r,B r→r<w.heap.size
def cq (w:x2) (g gs:Nat) (A:an) (B:an) (s:aw) (clean:Bool):Prop:=iv w g gs A B∧fl w gs (bQ g gs A B) s.toks clean∧(0≤s.told∧s.told≤ak∧s.shared.length+s.toks.length≤100000)∧
 ∃ big E J told sv,ad w g bC (ee gs 0 big E J told sv)∧((s.big=true↔big≠0)∧(s.big=false→told=s.told))∧de A (bQ g gs A B) w [sv] (show List gm from s.shared)
def dn (w:x2) (g gs:Nat) (A:an) (B:an):Prop:=iv w g gs A B∧ ∃ (e big E J told:Int) (sv:x1) (l:List gm),ad w g bC (ee gs e big E J told sv)∧(e≠0∧l.length≤100000)∧de A (bQ g gs A B) w [sv] l
theorem iv.U {S:Nat→Prop} {w w':x2} {g gs:Nat} {A:an} {B:an} (h:iv w g gs A B) (J:af S w w'):iv w' g gs A B:=by
 obtain⟨h1,O,V,W,X⟩:=h;exact⟨h1,O,V,fun r E=>Nat.lt_of_lt_of_le (W r E) J.size,fun r E=>Nat.lt_of_lt_of_le (X r E) J.size⟩
theorem vX {g gs:Nat} {A:an} {B:an} {S:Nat→Prop} (E:∀ r,A r→¬S r) (J:∀ r,bQ g gs A B r→¬S r):∀ r,A r∨bQ g gs A B r→¬S r:=fun r h=>h.elim (E r) (J r)
theorem cq.U {S:Nat→Prop} {w w':x2} {g gs:Nat} {A:an} {B:an} {s:aw} {clean:Bool} (h:cq w g gs A B s clean) (J:af S w w') (E:∀ r,ba g gs A r→¬S r) (O:∀ r,bQ g gs A B r→¬S r):cq w' g gs A B s clean:=by
 obtain⟨h1,V,W,big,X,Y,told,sv,Z,aa,ab⟩:=h;exact⟨h1.U J,V.U J (E gs (.inr (.inl rfl))) O,W,big,X,Y,told,sv,Z.U J (E g (.inl rfl)),aa,ay.U ab J fun r _ h=>vX (fun r ac=>E r (.inr (.inr ac))) O r h⟩
theorem dn.U {S:Nat→Prop} {w w':x2} {g gs:Nat} {A:an} {B:an} (h:dn w g gs A B) (J:af S w w') (E:∀ r,ba g gs A r→¬S r) (O:∀ r,bQ g gs A B r→¬S r):dn w' g gs A B:=by
 obtain⟨h1,e,big,V,W,told,sv,l,X,Y,Z⟩:=h;exact⟨h1.U J,e,big,V,W,told,sv,l,X.U J (E g (.inl rfl)),Y,ay.U Z J fun r _ h=>vX (fun r aa=>E r (.inr (.inr aa))) O r h⟩
theorem cq.ext {w w':x2} {g gs:Nat} {A:an} {B:an} {s:aw} {clean:Bool} (h:cq w g gs A B s clean) (J:Ext w w'):cq w' g gs A B s clean:=h.U (J.U fun _=>False) (fun _ _ h=>h) (fun _ _ h=>h)
theorem dn.ext {w w':x2} {g gs:Nat} {A:an} {B:an} (h:dn w g gs A B) (J:Ext w w'):dn w' g gs A B:=h.U (J.U fun _=>False) (fun _ _ h=>h) (fun _ _ h=>h)
def er (w:x2) (g gs:Nat) (A:an) (B:an) (clean:Bool) (s':Option aw) (w':x2):Prop:=af (ba g gs A) w w'∧match s' with
 |some s'=>cq w' g gs A B s' clean
 |none=>dn w' g gs A B
theorem q7 {w:x2} {g gs:Nat} {e big E J told:Int} {sv:x1} (O:ad w g bC (ee gs e big E J told sv)):ah x5 ih [.pointer (some ⟨g,0,none⟩)] w fun v w'=>v= .bool (decide (e=0))∧Ext w w':=by
 refine aq func150 ?_;rw[ax,ae bC.p rfl,ae dG.p rfl,V (by kernel_rfl) (O.cell (o:=0+1+0) rfl),bc];exact⟨rfl,Ext.refl _⟩
theorem lC {w:x2} {g gs:Nat} {A:an} {B:an} {s:aw} {clean:Bool} (h:cq w g gs A B s clean):ah x5 ih [.pointer (some ⟨g,0,none⟩)] w fun v w'=>v= .bool true∧Ext w w':=by
 obtain⟨_,_,_,big,J,O,told,sv,E,_⟩:=h;exact (q7 E).mono fun _ _ _ h=>h
theorem kA {w:x2} {g gs:Nat} {A:an} {B:an} (h:dn w g gs A B):ah x5 ih [.pointer (some ⟨g,0,none⟩)] w fun v w'=>v= .bool false∧Ext w w':=by
 obtain⟨_,e,big,U,V,told,sv,l,E,O,_⟩:=h;refine (q7 E).mono ?_;rintro _ W _ ⟨rfl,J⟩;exact⟨by rw[decide_eq_false O.1],J⟩
theorem oK {g gs:Nat} {A B:an} {r:Nat} (h:A r∨bQ g gs A B r) (E:¬A g):r≠g:=by
 rintro rfl;rcases h with h|h
 ·exact E h
 ·exact h.1 (.inl rfl)
theorem oL {w:x2} {g gs:Nat} {A:an} {B:an} {big X E told e at_:Int} {sv:x1} {l:List gm} (Y:iv w g gs A B) (Z:ad w g bC (ee gs 0 big X E told sv)) (ac:de A (bQ g gs A B) w [sv] l) (he:e≠0) (ag:l.length≤100000):
  ah x5 ke [.pointer (some ⟨g,0,none⟩),.int .i64 e,.int .i64 at_] w fun _ w'=>af (fun r=>r=g) w w'∧dn w' g gs A B:=by
 refine aq func153 ?_;rw[ax,ae bC.p rfl,ae dG.p rfl,V (by kernel_rfl) (Z.cell (o:=0+1+0) rfl),bc,aa];refine⟨fun _=>?_,fun h=>absurd rfl h⟩;rw[ax,ae bC.p rfl,ae dG.p rfl];refine aZ (g:=g) (o:=1) gg.i rfl rfl Z (by simp[ee]) fun ai aj ao J=>?_;have J:ad ai g bC (ee gs e big X E told sv):=J;rw[ax,ae bC.p rfl,ae dG.p rfl];refine aZ (g:=g) (o:=3) ab.i rfl rfl J (by simp[ee]) fun ak al ap O=>?_;have O:ad ak g bC (ee gs e big at_ E told sv):=O;have W:=aj.trans al;exact⟨W,Y.U W,e,big,at_,E,told,sv,l,O,⟨he,ag⟩,ay.U ac W fun r _ h am=>oK h Y.2.1 am⟩
theorem oM {w:x2} {g gs:Nat} {A:an} {B:an} {s:aw} {clean:Bool} {e at_:Int} (h:cq w g gs A B s clean) (he:e≠0):ah x5 ke [.pointer (some ⟨g,0,none⟩),.int .i64 e,.int .i64 at_] w fun _ w'=>af (fun r=>r=g) w w'∧dn w' g gs A B:=by
 obtain⟨E,_,J,big,V,W,told,sv,O,_,U⟩:=h;exact oL E O U he (by have:=J.2.2;show s.shared.length≤_;omega)
theorem DO {w:x2} {g gs:Nat} {A:an} {B:an} {e at_:Int} (h:dn w g gs A B):ah x5 ke [.pointer (some ⟨g,0,none⟩),.int .i64 e,.int .i64 at_] w fun _ w'=>Ext w w':=by
 obtain⟨_,J,big,O,U,told,sv,l,h1,E,_⟩:=h;refine aq func153 ?_;rw[ax,ae bC.p rfl,ae dG.p rfl,V (by kernel_rfl) (h1.cell (o:=0+1+0) rfl),bc,aa];exact⟨fun h=>absurd h E.1,fun _=>Ext.refl _⟩
theorem oN {w:x2} {g gs:Nat} {A:an} {B:an} {s:aw} {clean b:Bool} {at_:Int} (h:cq w g gs A B s clean):ah x5 mj [.pointer (some ⟨g,0,none⟩),.bool b,.int .i64 at_] w fun _ w'=>af (fun r=>r=g) w w'∧cq w' g gs A B (aQ b s) clean:=by
 obtain⟨J,aj,ak,big,O,al,told,sv,W,am,ao⟩:=id h;refine aq func148 ?_;refine aL (fun v Y=>w=Y∧v= .bool (b&&decide (big=0))) ?_ ?_
 rotate_left
 ·intro aC Z;cases b with
  |false=>rw[aP];exact Z _ _ ⟨rfl,rfl⟩
  |true=>
   rw[bh,ax,ae bC.p rfl,ae dG.p rfl,V (by kernel_rfl) (W.cell (o:=0+1+1) rfl),bc,aa];refine⟨fun E=>?_,fun E=>Z _ _ ⟨rfl,by rw[decide_eq_false E];rfl⟩⟩;rw[ax,ae bC.p rfl,ae dG.p rfl,V (by kernel_rfl) (W.cell (o:=0+1+0) rfl),bc];exact Z _ _ ⟨rfl,by rw[decide_eq_true E];rfl⟩
 rintro _ _ ⟨rfl,rfl⟩;rw[b3];refine⟨fun ap=>?_,fun ag=>?_⟩
 ·obtain⟨rfl,E⟩:=Bool.and_eq_true_iff.1 ap;rw[ax,ae bC.p rfl,ae dG.p rfl];refine aZ (g:=g) (o:=2) gg.i rfl rfl W (by simp[ee]) fun Y au aD ac=>?_;have ac:ad Y g bC (ee gs 0 5 O al told sv):=ac;rw[ax,ae bC.p rfl,ae dG.p rfl];refine aZ (g:=g) (o:=4) ab.i rfl rfl ac (by simp[ee]) fun av az aE ai=>?_;have ai:ad av g bC (ee gs 0 5 O at_ told sv):=ai;have X:=au.trans az;exact⟨X,J.U X,aj.U X (fun he=>J.1 he.symm) (fun r aA he=>aA.1 (.inl he)),ak,5,O,at_,told,sv,ai,⟨⟨fun _=>by omega,fun _=>by simp[aQ]⟩,fun h=>by simp[aQ] at h⟩,ay.U ao X fun r _ h aB=>oK h J.2.1 aB⟩
 ·refine⟨af.refl _ _,J,aj,ak,big,O,al,told,sv,W,⟨?_,fun h=>am.2 (by
   have h:(s.big||b)=false:=h;exact (V7.1 h).1)⟩,ao⟩
  show (s.big||b)=true↔big≠0;cases b with
  |false=>rw[Bool.or_false];exact am.1
  |true=>
   have E:big≠0:=of_decide_eq_false (by simpa using ag);simp[E]
theorem vY {w:x2} {g gs:Nat} {A:an} {B:an} {b:Bool} {at_:Int} (h:dn w g gs A B):ah x5 mj [.pointer (some ⟨g,0,none⟩),.bool b,.int .i64 at_] w fun _ w'=>Ext w w':=by
 obtain⟨_,W,big,X,Y,told,sv,l,h1,J,_⟩:=h;refine aq func148 ?_;refine aL (fun v O=>w=O∧v= .bool false) ?_ ?_
 ·rintro _ _ ⟨rfl,rfl⟩;rw[aP];exact Ext.refl _
 intro Z E;cases b with
 |false=>rw[aP];exact E _ _ ⟨rfl,rfl⟩
 |true=>
  rw[bh,ax,ae bC.p rfl,ae dG.p rfl,V (by kernel_rfl) (h1.cell (o:=0+1+1) rfl),bc,aa];refine⟨fun U=>?_,fun U=>E _ _ ⟨rfl,rfl⟩⟩;rw[ax,ae bC.p rfl,ae dG.p rfl,V (by kernel_rfl) (h1.cell (o:=0+1+0) rfl),bc];exact E _ _ ⟨rfl,by rw[decide_eq_false J.1]⟩
theorem cq.scan {w w':x2} {g gs:Nat} {A:an} {B:an} {s:aw} {clean:Bool} {l:List (List Int)} (h:cq w g gs A B s clean) (E:af (fun r=>r=gs) w w') (V:fl w' gs (bQ g gs A B) l clean) (ab:l.length≤s.toks.length):cq w' g gs A B {s with toks:=l} clean:=by
 obtain⟨h1,_,J,big,W,X,told,sv,Y,Z,aa⟩:=h;refine⟨h1.U E,V,⟨J.1,J.2.1,by have:=J.2.2;show s.shared.length+l.length≤100000;omega⟩,big,W,X,told,sv,Y.U E h1.1,Z,ay.U aa E fun r _ h O=>?_⟩;have O:r=gs:=O;subst O;rcases h with h|h
 ·exact h1.2.2.1 h
 ·exact h.1 (.inr (.inl rfl))
theorem vZ {w:x2} {g gs:Nat} {A:an} {B:an} {s:aw} {clean:Bool} (h:cq w g gs A B s clean):ah x5 tS [.pointer (some ⟨g,0,none⟩)] w fun v w'=>er w g gs A B clean ((cU s).map (·.2)) w'∧ ∃ (t:List Int) (n:Int),v= .tuple #[bb t,.int .i64 n]∧Bytes t∧t.length≤100000∧ ∀ q,cU s=some q→t=q.1:=by
 refine aq func147 ?_;refine (lC h).mono ?_;rintro _ aJ _ ⟨rfl,ak⟩;rw[bJ,Z3,aP];have h1:=h.ext ak;obtain⟨_,al,_,big,ap,au,told,sv,Y,_⟩:=id h1;have az:=al.words.2;rw[ax,ae bC.p rfl,V (by kernel_rfl) (Y.cell (o:=0+0) rfl)];refine (mI al).mono ?_;rintro v O _ ⟨W,ac⟩;have am:af (ba g gs A) w O:=(ak.U _).trans (W.mono fun r _ h=>.inr (.inl h));cases J:s.toks with
 |cons t l=>
  rw[J] at ac;obtain⟨aA,n,rfl⟩:=ac;have aB:=h1.scan W aA (by rw[J];simp);have Z:cU s=some (t,{s with toks:=l}):=by unfold cU;rw[J]
  have ao:=az t (by rw[J];exact .head _);rw[av (v:=bb t) rfl,av (v:=.int .i64 n) rfl,av (v:=.int .i64 0) rfl];refine aL (fun v ab=>O=ab∧v= .int .i64 0) ?_ ?_
  ·rintro _ _ ⟨rfl,rfl⟩;refine dd (fun X=>O=X) ?_ ?_
   ·rintro _ rfl;rw[Z];exact⟨⟨am,aB⟩,t,n,rfl,ao.1,ao.2.2,fun q ad=>by cases ad;rfl⟩
   ·intro ag E;rw[be,aa];exact⟨fun h=>absurd rfl h,fun _=>E _ rfl⟩
  ·intro ag E;rw[bc,aa];exact⟨fun h=>by omega,fun _=>E _ _ ⟨rfl,rfl⟩⟩
 |nil=>
  rw[J] at ac;obtain⟨n,rfl⟩:=ac;have Z:cU s=none:=by unfold cU;rw[J]
  obtain⟨ai,_,aC,big,ap,au,told,sv,Y,aK,aD⟩:=id h1;have aE:=Y.U W ai.1;have aF:=ay.U aD W fun r _ h aj=>by
   have aj:r=gs:=aj;subst aj;rcases h with h|h
   ·exact ai.2.2.1 h
   ·exact h.1 (.inr (.inl rfl))
  rw[av (v:=bb []) rfl,av (v:=.int .i64 n) rfl,av (v:=.int .i64 (if clean then 2 else 11)) rfl];refine aL (fun v ab=>O=ab∧ ∃ e:Int,v= .int .i64 e∧e≠0) ?_ ?_
  ·rintro _ _ ⟨rfl,e,rfl,he⟩;refine dd (fun X=>af (fun r=>r=g) O X∧dn X g gs A B) ?_ ?_
   ·rintro X ⟨aG,aH⟩;rw[Z];exact⟨⟨am.trans (aG.mono fun r _ h=>.inl h),aH⟩,[],n,rfl,fun b aI=>(by cases aI),by simp,fun q ad=>by cases ad⟩
   ·intro ag E;rw[be,aa];refine⟨fun _=>?_,fun h=>absurd he h⟩;exact (oL (ai.U W) aE aF he (by have:=aC.2.2;show s.shared.length≤_;omega)).mono fun _ w' _ h=>E _ h
  ·intro ag E;rw[bc,aa];cases clean with
   |true=>exact⟨fun _=>E _ _ ⟨rfl,4,rfl,by omega⟩,fun h=>absurd rfl h⟩
   |false=>exact⟨fun h=>by simp at h,fun _=>E _ _ ⟨rfl,11,rfl,by omega⟩⟩
theorem DP {w:x2} {g gs:Nat} {A:an} {B:an} (h:dn w g gs A B):ah x5 tS [.pointer (some ⟨g,0,none⟩)] w fun v w'=>Ext w w'∧v= .tuple #[bb [],.int .i64 0]:=by
 refine aq func147 ?_;refine (kA h).mono ?_;rintro _ J _ ⟨rfl,E⟩;rw[bJ,Y8,bh];exact⟨E,rfl⟩
theorem q8 {w:x2} {g gs:Nat} {A:an} {B:an} {s:aw} {clean:Bool} {lo hi:Int} (h:cq w g gs A B s clean):ah x5 kd [.pointer (some ⟨g,0,none⟩),.int .i64 lo,.int .i64 hi] w fun v w'=>er w g gs A B clean ((aT lo hi s).map (·.2)) w'∧ ∃ n at_:Int,v= .tuple #[.int .i64 n,.int .i64 at_]∧(∀ q,aT lo hi s=some q→n=q.1)∧(aT lo hi s=none→n=0):=by
 refine aq func149 ?_;refine (vZ h).mono ?_;rintro _ X _ ⟨⟨Y,J⟩,t,n,rfl,aj,ak,hw⟩;rw[av (v:=bb t) rfl,av (v:=.int .i64 n) rfl];cases O:cU s with
 |none=>
  have E:aT lo hi s=none:=by unfold aT;rw[O]
  rw[O] at J;have J:dn X g gs A B:=J;refine (kA J).mono ?_;rintro _ al _ ⟨rfl,V⟩;rw[bJ,Y8,bh,E];exact⟨⟨Y.trans (V.U _),J.ext V⟩,0,n,rfl,fun q h=>(by cases h),fun _=>rfl⟩
 |some q=>
  obtain⟨ax,Z⟩:=q;have:=hw _ O;subst this;rw[O] at J;have J:cq X g gs A B Z clean:=J;refine (lC J).mono ?_;rintro _ al _ ⟨rfl,V⟩;rw[bJ,Z3,aP];refine (DK aj ak).mono ?_;rintro _ ab _ ⟨rfl,ad⟩;have ae:=(J.ext V).ext ad;have ag:af (ba g gs A) w ab:=(Y.trans (V.U _)).trans (ad.U _);obtain⟨m,e,ac,hm⟩:∃ m e:Int,hT t= .tuple #[.int .i64 m,.int .i64 e]∧((eK t=some m∧e=0)∨(eK t=none∧e=4)):=by
   unfold hT;cases ay:eK t with
   |none=>exact⟨0,4,rfl,.inr ⟨rfl,rfl⟩⟩
   |some m=>exact⟨m,0,rfl,.inl ⟨rfl,rfl⟩⟩
  rw[ac,av (v:=.int .i64 m) rfl,av (v:=.int .i64 e) rfl];refine aL (fun v am=>ab=am∧v= .bool (aT lo hi s).isNone) ?_ ?_
  ·rintro _ _ ⟨rfl,rfl⟩;cases E:aT lo hi s with
   |none=>
    rw[Option.isNone_none,bh];refine (oM ae (by omega)).mono ?_;rintro _ az _ ⟨ap,au⟩;exact⟨⟨ag.trans (ap.mono fun r _ h=>.inl h),au⟩,0,n,rfl,fun q h=>(by cases h),fun _=>rfl⟩
   |some q=>
    rw[c5,aP];unfold aT at E;rw[O] at E;simp only at E;rcases hm with⟨hm,_⟩|⟨hm,_⟩
    ·rw[hm] at E;simp only at E;split at E
     ·cases E;exact⟨⟨ag,ae⟩,m,n,rfl,fun q h=>(by cases h;rfl),fun h=>(by cases h)⟩
     ·cases E
    ·rw[hm] at E;cases E
  ·intro aA W;have E:aT lo hi s=match eK t with
     |none=>none
     |some n=>if lo≤n∧n≤hi then some (n,Z) else none:=by
    unfold aT;rw[O];simp only;cases eK t <;> rfl
   rw[be,aa];rcases hm with⟨hm,rfl⟩|⟨hm,rfl⟩
   ·rw[hm] at E;simp only at E;refine⟨fun h=>absurd rfl h,fun _=>?_⟩;rw[ao,aa];refine⟨fun h=>W _ _ ⟨rfl,by rw[E,if_neg (by omega)];rfl⟩,fun h=>?_⟩;rw[bA];refine W _ _ ⟨rfl,?_⟩;rw[E];by_cases ai:hi<m
    ·rw[decide_eq_true ai,if_neg (by omega)];rfl
    ·rw[decide_eq_false ai,if_pos (by omega)];rfl
   ·rw[hm] at E;exact⟨fun _=>W _ _ ⟨rfl,by rw[E];rfl⟩,fun h=>absurd (by omega:(4:Int)≠0) h⟩
theorem DQ {w:x2} {g gs:Nat} {A:an} {B:an} {lo hi:Int} (h:dn w g gs A B):ah x5 kd [.pointer (some ⟨g,0,none⟩),.int .i64 lo,.int .i64 hi] w fun v w'=>Ext w w'∧v= .tuple #[.int .i64 0,.int .i64 0]:=by
 refine aq func149 ?_;refine (DP h).mono ?_;rintro _ O _ ⟨E,rfl⟩;rw[av (v:=bb []) rfl,av (v:=.int .i64 0) rfl];refine (kA (h.ext E)).mono ?_;rintro _ U _ ⟨rfl,J⟩;rw[bJ,Y8,bh];exact⟨E.trans J,rfl⟩
theorem DR {sv:x1} {l:List Int} {x:Int} {w:x2} (h:aC .i64 w sv l):ah x5 BW [sv,.int .i64 x] w fun v w'=>Ext w w'∧ ∃ r:Int,v= .int .i64 r∧(0≤r↔x∈l):=by
 refine aq func277 ?_;rw[aI ap.u h];refine bM.range l.length (fun i _ O=>Ext w O∧x∉l.take i) h.le ⟨Ext.refl _,by simp⟩ ?_ ?_
 ·rintro i _ O k hi ⟨E,J⟩ V;rw[ao,aa];refine⟨fun _=>?_,fun h=>by omega⟩;obtain⟨y,U⟩:∃ y,l[i]? =some y:=⟨_,y0 hi⟩;rw[a1 ap.u aj.i (by kernel_rfl) (h.ext E) U,bc,aa];refine⟨fun he=>⟨E,i,rfl,⟨fun _=>he▸x4 U,fun _=>by omega⟩⟩,fun he=>?_⟩;rw[aF];refine V _ _ ⟨E,fun hm=>?_⟩;rw[u4,U] at hm;rcases p9.1 hm with hm|hm
  ·exact J hm
  ·simp at hm;exact he hm
 ·rintro _ O k ⟨E,J⟩;rw[o3] at J;rw[ao,aa];exact⟨fun h=>by omega,fun _=>⟨E,-1,rfl,⟨fun h=>by omega,fun h=>absurd h J⟩⟩⟩
theorem DS {sv:x1} {l:List Int} {x:Int} {w:x2} (h:aC .i64 w sv l):ah x5 BE [sv,.int .i64 x] w fun v w'=>v= .bool (decide (x∈l))∧Ext w w':=by
 refine aq func242 ?_;refine (DR h).mono ?_;rintro _ O _ ⟨J,r,rfl,E⟩;rw[ca];exact⟨by congr 1;rw[X5,decide_eq_true_eq,decide_eq_true_eq];exact E,J⟩
theorem oO:∀ {l:List Int},(∀ z∈l,1≤z)→ ∀ i,aD ((l.take i).map fun k=>min k 4097)≤aD (l.map fun k=>min k 4097)∧1≤aD ((l.take i).map fun k=>min k 4097)
 |[],_,i=>by simp[aD]
 |z::l,h,0=>by
  have E:=oO (l:=l) (fun x J=>h x (.tail _ J)) l.length;rw[o3] at E;have O:=h z (.head _);simp only[List.take_zero,List.map_nil,List.map_cons,aD];have:=Int.mul_le_mul_of_nonneg_left E.2 (show 0≤min z 4097 by omega);omega
 |z::l,h,i+1=>by
  have E:=oO (l:=l) (fun x J=>h x (.tail _ J)) i;have O:=h z (.head _);simp only[List.take_succ_cons,List.map_cons,aD];have h1:=Int.mul_le_mul_of_nonneg_left E.1 (show 0≤min z 4097 by omega);have U:=Int.mul_le_mul_of_nonneg_left E.2 (show 0≤min z 4097 by omega);exact⟨h1,by omega⟩
theorem v7 (l:List Int) (x:Int):aD (l++[x])=aD l*x:=by
 induction l with
 |nil=>simp[aD]
 |cons a l E=>rw[List.cons_append,aD,E,aD,Int.mul_assoc]
theorem wa {sv:x1} {l:List Int} {w:x2} (h:aC .i64 w sv l) (h1:∀ z∈l,1≤z):ah x5 Bh [sv] w fun v w'=>v= .bool (cE l)∧Ext w w':=by
 refine aq func200 ?_;rw[aI ap.u h];refine k3.range l.length (fun i _ n J=>Ext w J∧n= .int .i64 (aD ((l.take i).map fun k=>min k 4097))∧aD ((l.take i).map fun k=>min k 4097)≤4096) h.le ⟨Ext.refl _,by simp[aD],by simp[aD]⟩ ?_ ?_
 ·rintro i _ _ J V hi ⟨E,rfl,O⟩ W;rw[ao,aa];refine⟨fun _=>?_,fun h=>by omega⟩;obtain⟨z,U⟩:∃ z,l[i]? =some z:=⟨_,y0 hi⟩;have Y:=h1 z (x4 U);have Z:=oO h1 i;have ab:=oO h1 (i+1);have e:aD ((l.take (i+1)).map fun k=>min k 4097)=aD ((l.take i).map fun k=>min k 4097)*min z 4097:=by
   rw[u4,U,l9,o9,List.map_cons,List.map_nil,v7]
  rw[a1 ap.u aj.i (by kernel_rfl) (h.ext E) U,i7,fx,←e];have ac:aD ((l.take (i+1)).map fun k=>min k 4097)≤4096*4097:=by
   rw[e];have ad:=Int.mul_le_mul_of_nonneg_right O (show 0≤min z 4097 by omega);have ae:=Int.mul_le_mul_of_nonneg_left (show min z 4097≤4097 by omega) (show (0:Int)≤4096 by omega);omega
  rw[wrap_i64 (by omega) (by omega),bA,aa];refine⟨fun X=>⟨?_,E⟩,fun X=>?_⟩
  ·unfold cE;rw[decide_eq_true];omega
  ·rw[aF];exact W _ _ _ ⟨E,rfl,by omega⟩
 ·rintro _ _ J V ⟨E,rfl,O⟩;rw[o3] at O;rw[ao,aa];refine⟨fun h=>by omega,fun _=>⟨?_,E⟩⟩;unfold cE;rw[decide_eq_false];omega
def hV (n:Int) (acc:List Int) (s:aw):Option (Int×aw):=match aT 0 (n-1) s with
 |none=>none
 |some (v,s)=>if v∈acc then none else some (v,s)
theorem lD {α:Type} {f:List α→aw→Option (α×aw)} {n:Nat} {acc:List α} {s:aw} (h:f acc s=none):b1 f (n+1) acc s=none:=by
 simp only[b1,h]
theorem oP {α:Type} {f:List α→aw→Option (α×aw)} {n:Nat} {acc:List α} {s s':aw} {a:α} (h:f acc s=some (a,s')):b1 f (n+1) acc s=b1 f n (acc++[a]) s':=by
 simp only[b1,h]
theorem cq.mK {w:x2} {g gs:Nat} {A:an} {B:an} {s:aw} {clean:Bool} (h:cq w g gs A B s clean):(∀ r,ba g gs A r→r<w.heap.size)∧(∀ r,B r→r<w.heap.size):=⟨h.1.2.2.2.1,h.1.2.2.2.2⟩
set_option maxHeartbeats 1600000 in
theorem DT {w:x2} {g gs k:Nat} {A B:an} {s:aw} {clean:Bool} {m:Int} (h:cq w g gs A B s clean) (bD:k≤4611686018427387904) (hm:0≤m∧m≤1000000):
  ah x5 tX [.pointer (some ⟨g,0,none⟩),.int .i64 (k:Int),.int .i64 m] w fun v w'=>er w g gs A B clean ((dJ m k s).map (·.2)) w'∧
   ∃ E l,am .i64 aj w' E v l∧(∀ r,leads v r→w.heap.size≤r)∧l.length≤100001∧ ∀ q,dJ m k s=some q→l=q.1:=by
 obtain⟨aK,a1⟩:=h.mK;have a2:=h.2.1.words.1;refine aq func199 ?_;refine⟨fun out aB ag=>∃ i:Nat,aB= .int .i64 (i:Int)∧i≤k∧af (ba g gs A) w ag∧ ∃ E l,am .i64 aj ag E out l∧w.heap.size≤E∧l.length≤100001∧
  ((∃ st,cq ag g gs A B st clean∧b1 (hV m) (k-i) l st=dJ m k s∧l.length+st.toks.length≤100000)∨(dn ag g gs A B∧dJ m k s=none)),fun _ aB _=>k-(bl aB).toNat,
  ⟨0,rfl,Z1 _,af.refl _ _,w.heap.size,[],am.nil _ _ _ _,u9 _,by simp,.inl ⟨s,h,rfl,by simpa using a2⟩⟩,?_⟩
 rintro out _ ag ⟨i,rfl,a6,aM,E,l,aN,bE,bF,aO⟩;have bG:=aM.size;have aC:∀ r,leads out r→w.heap.size≤r:=fun r Z=>by have:=bw aN Z;omega
 refine aL (fun v X=>Ext ag X∧((v= .bool true∧i<k∧ ∃ st,cq X g gs A B st clean∧b1 (hV m) (k-i) l st=dJ m k s∧l.length+st.toks.length≤100000)∨
  (v= .bool false∧((∃ st,cq X g gs A B st clean∧dJ m k s=some (l,st))∨(dn X g gs A B∧dJ m k s=none))))) ?_ ?_
 rotate_left
 ·intro bH al;rw[ao,aa];refine⟨fun bI=>?_,fun bJ=>?_⟩
  ·rcases aO with⟨st,ab,Y,aD⟩|⟨ad,aE⟩
   ·refine (lC ab).mono ?_;rintro _ X _ ⟨rfl,ac⟩;exact al _ _ ⟨ac,.inl ⟨rfl,by omega,st,ab.ext ac,Y,aD⟩⟩
   ·refine (kA ad).mono ?_;rintro _ X _ ⟨rfl,ac⟩;exact al _ _ ⟨ac,.inr ⟨rfl,.inr ⟨ad.ext ac,aE⟩⟩⟩
  ·have a7:k-i=0:=by omega
   rcases aO with⟨st,ab,Y,aD⟩|a8
   ·rw[a7] at Y;exact al _ _ ⟨Ext.refl _,.inr ⟨rfl,.inl ⟨st,ab,Y.symm⟩⟩⟩
   ·exact al _ _ ⟨Ext.refl _,.inr ⟨rfl,.inr a8⟩⟩
 rintro _ X ⟨ac,bb⟩;have aG:af (ba g gs A) w X:=aM.trans (ac.U _);have au:=aN.ext ac;rcases bb with⟨rfl,a6,st,ab,Y,aD⟩|⟨rfl,bc⟩
 rotate_left
 ·rw[aP];rcases bc with⟨st,ab,ai⟩|⟨ad,ai⟩
  ·rw[ai];exact⟨⟨aG,ab⟩,E,l,au,aC,by omega,fun q O=>by cases O;rfl⟩
  ·rw[ai];exact⟨⟨aG,ad⟩,E,l,au,aC,by omega,fun q O=>by cases O⟩
 rw[bh,cY,wrap_i64 (by omega) (by omega)];have bd:k-i=(k-(i+1))+1:=by omega
 rw[bd] at Y;refine (q8 ab).mono ?_;rintro _ ax _ ⟨⟨ay,az⟩,n,at_,rfl,be,bK⟩;rw[av (v:=.int .i64 n) rfl,av (v:=.int .i64 at_) rfl];have aQ:∀ r,leads out r→¬ba g gs A r:=fun r Z bf=>by have:=aK r bf;have:=aC r Z;omega
 have bL:∀ r,g=r→ba g gs A r:=fun r h=>.inl h.symm;refine dd (fun J=>af (ba g gs A) X J∧((∃ W,cq J g gs A B W clean∧b1 (hV m) (k-(i+1)) (l++[n]) W=dJ m k s∧l.length+1+W.toks.length≤100000)∨(dn J g gs A B∧dJ m k s=none))∧l.length+1≤100001) ?_ ?_
 ·rintro J ⟨aR,bg,aS⟩;have bi:=aX au aR aQ;have aU:=aG.trans aR;have bM:=aU.size;refine dC ap.u aj.i rfl fun a bN aV bO ae bj=>?_;refine gM ap.u aj.i rfl (bi.ext ae) bj.ls (by simp;omega) (by simp;omega) fun bk bm bn bP bo aH=>?_;have bR:=ae.size;rw[aF,wrap_i64 (by omega) (by omega)];have bp:af (ba g gs A) w bn:=fk (aU.trans (ae.U _)) aH fun r Z he=>by have he:r=E:=he;omega
  have aW:∀ r,ba g gs A r→¬(fun r=>r=E) r:=fun r Z he=>by have:=aK r Z;have he:r=E:=he;omega
  have aY:∀ r,bQ g gs A B r→¬(fun r=>r=E) r:=fun r Z he=>by have:=a1 r Z.2;have he:r=E:=he;omega
  refine⟨⟨i+1,rfl,by omega,bp,bm,l++[n],bo,by omega,by simp;omega,?_⟩,by simp only[bl];omega⟩;rcases bg with⟨W,aA,bq,bS⟩|⟨br,aE⟩
  ·exact .inl ⟨W,(aA.ext ae).U aH aW aY,bq,by simp;omega⟩
  ·exact .inr ⟨(br.ext ae).U aH aW aY,aE⟩
 ·intro bT aI;cases O:aT 0 (m-1) st with
  |none=>
   rw[O] at az;have ad:dn ax g gs A B:=az;have ak:hV m l st=none:=by unfold hV;rw[O]
   have ai:dJ m k s=none:=by rw[←Y];exact lD ak
   refine aL (fun v J=>Ext ax J∧v= .bool false) ?_ ?_
   rotate_left
   ·intro bt aJ;refine (kA ad).mono ?_;rintro _ J _ ⟨rfl,V⟩;rw[aP];exact aJ _ _ ⟨V,rfl⟩
   rintro _ J ⟨V,rfl⟩;rw[aP];exact aI _ ⟨ay.trans (V.U _),.inr ⟨ad.ext V,ai⟩,by omega⟩
  |some q=>
   obtain⟨bk,W⟩:=q;have bu:=be _ O;subst bu;rw[O] at az;have aZ:cq ax g gs A B W clean:=az;have bx:=cN O;have aS:l.length+1+W.toks.length≤100000:=by have:=bx.1;omega
   refine aL (fun v J=>Ext ax J∧v= .bool (decide (n∈l))) ?_ ?_
   rotate_left
   ·intro bt aJ;refine (lC aZ).mono ?_;rintro _ J _ ⟨rfl,V⟩;rw[bh];refine (DS ((aX au ay aQ).ext V).ls).mono ?_;rintro _ aV _ ⟨rfl,ae⟩;exact aJ _ _ ⟨V.trans ae,rfl⟩
   rintro _ J ⟨V,rfl⟩;have aA:=aZ.ext V;rw[aa];refine⟨fun bz=>?_,fun bA=>?_⟩
   ·have ak:hV m l st=none:=by unfold hV;rw[O];simp only;rw[if_pos bz]
    refine (oM aA (by omega)).mono ?_;rintro _ aV _ ⟨bB,bC⟩;exact aI _ ⟨(ay.trans (V.U _)).trans (bB.mono fun r _ h=>.inl h),.inr ⟨bC,by rw[←Y];exact lD ak⟩,by omega⟩
   ·have ak:hV m l st=some (n,W):=by unfold hV;rw[O];simp only;rw[if_neg bA]
    exact aI _ ⟨ay.trans (V.U _),.inl ⟨W,aA,by rw[←Y];exact (oP ak).symm,aS⟩,by omega⟩
theorem DU {a b k:Int} {w:x2} (E:0≤a∧a≤4294967296) (J:0≤b∧b≤4294967296):ah x5 As [.int .i64 a,.int .i64 b,.int .i64 k] w fun v w'=>v= .int .i64 (min (a+b) k)∧Ext w w':=by
 refine aq func81 ?_;simp only[aF,bA,aa];rw[wrap_i64 (by omega) (by omega)];exact⟨fun h=>⟨by rw[Int.min_eq_right (by omega)],Ext.refl _⟩,fun h=>⟨by rw[Int.min_eq_left (by omega)],Ext.refl _⟩⟩
def lE (a b k:Int):x1:=if cj a k∧cj b k then .tuple #[.int .i64 (min (a+b) k),.int .i64 0] else .tuple #[.int .i64 0,.int .i64 3]
theorem wb {a b k:Int} {w:x2}:ah x5 Ar [.int .i64 a,.int .i64 b,.int .i64 k] w fun v w'=>v=lE a b k∧Ext w w':=by
 refine aq func80 ?_;refine aL (fun v E=>Ext w E∧v= .bool (decide (¬(cj a k∧cj b k)))) ?_ ?_
 ·rintro _ E ⟨J,rfl⟩;simp only[aa,aF,i7];refine⟨fun h=>⟨by unfold lE;rw[if_neg h],J⟩,fun h=>?_⟩;have h:=Z7.1 h;obtain⟨⟨h1,X⟩,Y,Z⟩:=id h;have:=h1.2;rw[wrap_i64 (by omega) (by omega)];exact⟨by unfold lE;rw[if_pos h],J⟩
 ·intro ab O;refine kq.mono ?_;rintro _ ac _ ⟨rfl,U⟩;simp only[bJ,b3];refine⟨fun h=>O _ _ ⟨U,?_⟩,fun h=>?_⟩
  ·have:¬cj a k:=by simpa using h
   rw[decide_eq_true];exact fun h=>this h.1
  ·have V:cj a k:=by simpa using h
   refine kq.mono ?_;rintro _ ad _ ⟨rfl,W⟩;simp only[bJ];exact O _ _ ⟨U.trans W,by simp[V]⟩
theorem DV {sv:x1} {l:List Int} {w:x2} (h:aC .i64 w sv l) (U:l≠[]):
  ah x5 B4 [sv] w fun v w'=>v= .int .i64 (q0 l)∧Ext w w':=by
 obtain⟨x,l,rfl⟩:∃ x r,l=x::r:=by cases l with
  |nil=>exact absurd rfl U
  |cons x r=>exact⟨x,r,rfl⟩
 have V:=h.le;refine aq func295 ?_;refine dd (fun W=>w=W) ?_ ?_
 ·rintro _ rfl;rw[eS (y:=0) (i:=0) rfl ap.u aj.i (by kernel_rfl) h (by rfl)];refine⟨fun m i J=>Ext w J∧ ∃ k:Nat,i= .int .i64 (k+1:Nat)∧k≤l.length∧m= .int .i64 ((l.take k).foldl min x),fun _ i _=>l.length+1-(bl i).toNat,⟨Ext.refl _,0,rfl,Z1 _,rfl⟩,?_⟩;rintro _ _ J ⟨E,k,rfl,Y,rfl⟩;rw[aI ap.u (h.ext E)];simp only[l6,ao,aa] at V ⊢;refine⟨fun Z=>?_,fun ab=>⟨?_,E⟩⟩
  ·obtain⟨y,O⟩:∃ y,l[k]? =some y:=⟨_,y0 (by omega)⟩;rw[a1 ap.u aj.i (by kernel_rfl) (h.ext E) (show (x::l)[k+1]? =some y from O),i7];simp only[aF];rw[wrap_i64 (by omega) (by omega)];refine⟨⟨E,k+1,by congr 1,by omega,?_⟩,?_⟩
   ·rw[u4,O,List.foldl_append];rfl
   ·simp only[bl];omega
  ·have:k=l.length:=by omega
   subst this;rw[o3];rfl
 ·intro ac X;rw[aI ap.u h];simp only[ao,aa];exact⟨fun h=>by simp at h;omega,fun _=>X _ rfl⟩
theorem wc {w:x2} {g E:Nat} {sv:x1} {ai:List Int} {k:Int} {cs:List Int} (h:cp w g E sv ai k cs):ah x5 qq [.pointer (some ⟨g,0,none⟩)] w fun v w'=>v= .int .i64 k∧Ext w w':=by
 obtain⟨⟨aH,gs,J,hm,O⟩,_⟩:=h;refine aq func139 ?_;rw[cB dA.u];simp only[c5,aP];rw[ax,ae ci.p rfl,V (by kernel_rfl) (J.cell (o:=0+1) rfl)];exact⟨rfl,Ext.refl _⟩
theorem jN {w:x2} {g J:Nat} {sv:x1} {ai:List Int} {k:Int} {cs:List Int} (h:cp w g J sv ai k cs):
  ah x5 AY [.pointer (some ⟨g,0,none⟩)] w fun v w'=>Ext w w'∧ ∃ E,w.heap.size≤E∧am .i64 aj w' E v cs:=by
 obtain⟨⟨aH,gs,O,hm,U⟩,⟨_,_,W⟩,X,Y⟩:=h;refine aq func164 ?_;rw[cB dA.u];simp only[c5,aP];rw[ax,ae ci.p rfl,V (by kernel_rfl) (O.cell (o:=0+2) rfl)];exact qL U.ls (by omega)
theorem lF {w:x2} {g J:Nat} {sv:x1} {ai:List Int} {k:Int} {cs:List Int} (h:cp w g J sv ai k cs):
  ah x5 AS [.pointer (some ⟨g,0,none⟩)] w fun v w'=>v= .agg #[sv]∧Ext w w':=by
 obtain⟨⟨aH,gs,O,hm,Y⟩,_⟩:=h;have U:=hm.ls.cells;refine aq func140 ?_;refine bi a6.i fun Z aa ab E V=>?_;rw[cB dA.u];simp only[c5,aP];rw[ax,ae ci.p rfl,bj (cs:=[sv]) a6.p a6.i rfl (kt (O.ext E) (by
  intro j v ac
  match j,ac with
  |0,ac=>exact ac))]
 refine bP (vs:=[sv]) a6.i rfl rfl (by intro u hu;simp at hu;subst hu;exact U.2) V fun ad W af X=>?_;rw[eo a6.p a6.i rfl X.range];exact⟨rfl,E.then W (by rintro r ag rfl;omega)⟩
theorem we {w:x2} {sv:x1} {ai:List Int} (h:aC .i64 w sv ai) (W:ai.length≤1000):ah x5 tQ [.agg #[sv]] w fun v w'=>Ext w w'∧ ∃ E,w.heap.size≤E∧am .i64 ab w' E v ai:=by
 refine aq func141 ?_;refine a7 fun g X Y J O=>?_;rw[ae a6.p rfl,V (by kernel_rfl) (O.cell (o:=0+0) rfl)];refine (hQ (h.ext J) (by omega)).mono ?_;rintro v Z _ ⟨U,E,aa,hm⟩;have ac:=J.size;exact⟨J.trans U,E,by omega,hm⟩
theorem wg {w:x2} {sv:x1} {ai:List Int} (h:aC .i64 w sv ai):ah x5 B1 [.agg #[sv]] w fun v w'=>v= .int .i64 ai.length∧Ext w w':=by
 refine aq func284 ?_;refine a7 fun g O U E J=>?_;rw[ae a6.p rfl,V (by kernel_rfl) (J.cell (o:=0+0) rfl),aI al.u (h.ext E)];exact⟨rfl,E⟩
def fD (ai:List Int) (i:Int):Int:=if 0≤i then ai.getD i.toNat 0 else 0
theorem mL {w:x2} {sv:x1} {ai:List Int} {i:Int} (h:aC .i64 w sv ai):ah x5 B2 [.agg #[sv],.int .i64 i] w fun v w'=>v= .int .i64 (fD ai i)∧Ext w w':=by
 refine aq func285 ?_;refine a7 fun g W Z E J=>?_;refine aL (fun v X=>v= .bool (decide (i<0∨(ai.length:Int)≤i))∧W=X) ?_ ?_
 ·rintro _ _ ⟨rfl,rfl⟩;simp only[aa];refine⟨fun h=>⟨?_,E⟩,fun Y=>?_⟩
  ·unfold fD;split
   ·rw[u6,c6 (by omega)];rfl
   ·rfl
  ·rw[ae a6.p rfl,V (by kernel_rfl) (J.cell (o:=0+0) rfl)];obtain⟨n,rfl⟩:∃ n:Nat,i=n:=⟨i.toNat,by omega⟩;have O:n<ai.length:=by omega
   rw[a1 al.u ab.i (by kernel_rfl) (h.ext E) (y0 O)];refine⟨?_,E⟩;unfold fD;rw[if_pos (by omega),u6,c8,y0 O];rfl
 ·intro ac U;simp only[ao,aa];refine⟨fun h=>U _ _ ⟨by rw[decide_eq_true];omega,rfl⟩,fun Y=>?_⟩;rw[ae a6.p rfl,V (by kernel_rfl) (J.cell (o:=0+0) rfl),aI al.u (h.ext E)];simp only[ca];exact U _ _ ⟨by congr 1;simp;omega,rfl⟩
theorem q9 {g B0:Nat} {sv:x1} {ai:List Int} (V:bu ai):
  k4 x5 iV [.pointer (some ⟨g,0,none⟩)] (aD ai).toNat (fun k vs w=>∃ O gt,vs=[.int .i64 (k:Int),O]∧B0≤gt∧am .i64 ab w gt O (ce ai k))
   (fun w=>ad w g a6 [sv]∧aC .i64 w sv ai∧B0≤w.heap.size):=by
 refine⟨iV.enters,fun l ag aG w Z _ ah ⟨ac,ae,aj⟩ ak=>?_⟩;have aH:=prod_bound V;refine n8 func187 ?_;rw[bj a6.p a6.i rfl ac.range];refine (ln ae V).free.mono ?_;rintro _ aI ⟨al,rfl,J⟩;refine bV.range (aD ai).toNat (fun i E=>ag i E∧ad E g a6 [sv]∧aC .i64 E sv ai∧B0≤E.heap.size) (by omega) ⟨Z 0 _ _ J al.b ak,ac.ext J,ae.ext J,Z5 aj J.size⟩ ?_ ?_
 ·rintro i E k hi ⟨W,X,Y,af⟩ ap;simp only[ao,aa];refine⟨fun _=>?_,fun h=>by omega⟩;rw[bj a6.p a6.i rfl X.range];refine (CF Y V (by omega) (by omega)).free.mono ?_;rintro _ aq ⟨au,U,O,gt,rfl,aw,ax⟩;rw[av (v:=O) rfl,av (v:=.int .i64 0) rfl];refine⟨rfl,(ah i _ aq hi ⟨X.ext U,Y.ext U,Z5 af U.size⟩ ⟨O,gt,rfl,Z5 af aw,ax⟩ (Z _ _ _ U au.b W)).mono ?_⟩;rintro _ aJ (⟨rfl,⟨ay,az,aA⟩,aB⟩|⟨rfl,aE⟩)
  ·simp only[bJ,Z3,aP,aF];exact ap _ ⟨aB.1,ay,az,aA⟩
  ·simp only[bJ,Y8,bh];exact .inr ⟨i,hi,aE⟩
 ·rintro E k ⟨W,X,Y,_⟩;simp only[ao,aa];exact⟨fun h=>by omega,fun _=>.inl W⟩
theorem ra {sv:x1} {w:x2}:ah x5 AJ [.agg #[sv]] w fun r w'=>Ext w w'∧ ∃ g,r= .func (.func iV) #[] #[.pointer (some ⟨g,0,none⟩)]∧w.heap.size≤g∧ad w' g a6 [sv]:=by
 refine aq func121 ?_;refine a7 fun g O U E J=>?_;rw[hL];exact⟨E,g,rfl,by omega,J⟩
end Go.Proofs.YtgbkinibgjmodaaGreatDoor
namespace Go.Vc
open Go Go.RowKit
set_option maxRecDepth 100000
section
variable {P:Y3} {w:x2}
theorem aA.cR {α:Type} {s:Sem α} {K:α→x2→Prop} (h:aA P s w fun v w'=>cA w w'→K v w'):aA P s w K:=by
 obtain⟨v,w',h1,E,J⟩:=h;exact⟨v,w',h1,E,J E⟩
structure Keys (P:Y3) (k:u5) (G:x1→Prop):Prop where
 check:∀ (w:x2) (em:Bool) {v:x1},G v→(Instr.checkKey em 10000 k v).run P w= .ok () w
 find:∀ (w:x2) {x:x1},G x→ ∀ es:List MapEntry,(∀ e∈es,G e.key)→
  ((Instr.findKey k x es).run P w= .ok none w∧ ∀ e∈es,e.key≠x)∨ ∃ j e,(Instr.findKey k x es).run P w= .ok (some (j,e.val)) w∧es[j]? =some e∧e.key=x
 stays:∀ (w:x2) {v:x1},G v→(Instr.keyThatStays v v).run P w= .ok v w
theorem Keys.law {k:u5} (K:WideMaps.KeyLaw P k):Keys P k fun v=>∃ l,keyOf P k v=some l:=
 ⟨fun w E _ ⟨_,h⟩=>K.check w E h,fun w _ ⟨_,h⟩ J O=>K.find w h J O,fun w _ ⟨_,h⟩=>K.stays w h⟩
theorem Keys.int {k:u5} {E:r9} (J:P.underlying k=some (.int E)):Keys P k fun v=>∃ n,v= .int E n:=by
 have key:∀ n,MapKept.IsKey (.int E) (.int E n):=fun n=>rfl;refine⟨fun w U v ⟨n,h⟩=>?_,fun w x ⟨n,h⟩ V W=>?_,fun w v ⟨n,h⟩=>?_⟩
 ·subst h;exact MapKept.run_checkKey J (key n) U 9999
 ·subst h;rcases MapKept.findNow_spec (key n) V 0 (fun e he=>by obtain⟨m,h⟩:=W e he;rw[h];exact key m) with⟨h1,O⟩|⟨j,e,h1,O,X⟩
  ·exact .inl ⟨MapKept.run_findKey J h1,O⟩
  ·exact .inr ⟨j,e,by have:=MapKept.run_findKey (P:=P) (w:=w) J h1;simpa using this,O,X⟩
 ·subst h;exact MapKept.run_keyThatStays (d:=.int E) (key n)
def eU (e:MapEntry):x1×x1:=(e.key,e.val)
def cg (w:x2) (m:Nat) (d:List (x1×x1)):Prop:=∃ E J,w.heap[m]? =some (.map E J)∧MapKept.Stamped E J∧E.toList.map eU=d
theorem cg.ext {w':x2} {m:Nat} {d:List (x1×x1)} (h:cg w m d) (J:Ext w w'):cg w' m d:=by
 obtain⟨E,c,h1,O⟩:=h;exact⟨E,c,J.aW m _ h1 rfl,O⟩
theorem cg.U {S:Nat→Prop} {w':x2} {m:Nat} {d:List (x1×x1)} (h:cg w m d) (J:af S w w') (E:¬S m):cg w' m d:=by
 obtain⟨O,c,h1,V⟩:=h;exact⟨O,c,J.aW m _ h1 rfl E,V⟩
theorem cg.lt {m:Nat} {d:List (x1×x1)} (h:cg w m d):m<w.heap.size:=by
 obtain⟨E,c,h1,J⟩:=h;exact (o4.1 h1).1
theorem cg.nodup {m:Nat} {d:List (x1×x1)} (h:cg w m d):(d.map (·.1)).Nodup:=by
 obtain⟨J,c,_,⟨_,_,E⟩,rfl⟩:=h;rw[List.map_map];exact E
theorem hW {α:Type} {l:List α} (h:l.Nodup) {i j:Nat} {x:α} (hi:l[i]? =some x) (V:l[j]? =some x):i=j:=by
 have E:=x3.1 hi;have J:=x3.1 V;have U:=X3.1 h;rcases Nat.lt_trichotomy i j with O|rfl|O
 ·exact absurd (E.2.trans J.2.symm) (U i j E.1 J.1 O)
 ·rfl
 ·exact absurd (J.2.trans E.2.symm) (U j i J.1 E.1 O)
theorem jO {α β:Type} (f:α→β):∀ (l:List α) (i:Nat),(l.map f).eraseIdx i=(l.eraseIdx i).map f
 |[],_=>by simp
 |_::_,0=>rfl
 |x::l,i+1=>by simp[jO f l i]
theorem cg.uniq {m:Nat} {d:List (x1×x1)} (h:cg w m d) {i j:Nat} {p q:x1×x1} (hi:d[i]? =some p) (E:d[j]? =some q) (he:p.1=q.1):i=j:=by
 have J:=h.nodup;have h1:(d.map (·.1))[i]? =some p.1:=by rw[x6,hi];rfl
 have O:(d.map (·.1))[j]? =some p.1:=by rw[x6,E,he];rfl
 exact hW J h1 O
theorem oQ {m:Nat} {Y:Array MapEntry} {c:Nat} (V:w.heap[m]? =some (.map Y c)) (E:Array MapEntry) (J:Nat):
  af (fun r=>r=m) w {w with heap:=w.heap.setIfInBounds m (.map E J)}∧cA w {w with heap:=w.heap.setIfInBounds m (.map E J)}∧({w with heap:=w.heap.setIfInBounds m (.map E J)}:x2).heap[m]? =some (.map E J):=by
 have U:=MapKept.heap_set (o':=.map E J) V;refine⟨⟨by simp,fun r o O W Z=>?_⟩,⟨rfl,.h8,rfl,by simp,fun r o O W=>?_⟩,U.1⟩
 ·show (w.heap.setIfInBounds m _)[r]? =some o;rw[U.2 r Z];exact O
 ·show (w.heap.setIfInBounds m _)[r]? =some o;by_cases X:r=m
  ·subst X;rw[V] at O;cases O;cases W
  ·rw[U.2 r X];exact O
theorem oR {t:u5} {K:x1→x2→Prop} (h:∀ m w',m=w.heap.size→Ext w w'→cg w' m []→K (.map (some m)) w'):aA P (Instr.makeMap t none) w K:=by
 refine .of (run_makeMap t w) (k6 w _) (h _ _ rfl (k5 w _) ⟨#[],0,?_,MapKept.stamped_empty 0,rfl⟩);exact heap_alloc_new w _
variable {k e:u5} {G:x1→Prop}
theorem mM {t:u5} {c:Bool} {m:Nat} {d:List (x1×x1)} {x v:x1} {K:x1→Prop} (Z:P.underlying t=some (.map k e)) (W:Keys P k G) (hm:cg w m d) (aa:∀ p∈d,G p.1) (J:G x) {j:Nat} (E:d[j]? =some (x,v)):
  O P (Instr.lookup t (.map (some m)) x c) w K=K (if c then .tuple #[v,.bool true] else v):=O.of fun w' ab=>by
 obtain⟨U,ad,X,ae,rfl⟩:=hm.ext ab;have af:∀ e∈U.toList,G e.key:=fun e he=>aa (eU e) (o6.2 ⟨e,he,rfl⟩);rcases W.find w' J U.toList af with⟨_,V⟩|⟨i,Y,h1,V,ag⟩
 ·rw[x6] at E;obtain⟨ah,ai,aj⟩:=b8.1 E;exact absurd (congrArg Prod.fst aj) (V ah (x4 ai))
 ·have ac:Y.val=v:=by
   have hi:(U.toList.map eU)[i]? =some (eU Y):=by rw[x6,V];rfl
   have ak:cg w' m (U.toList.map eU):=⟨U,ad,X,ae,rfl⟩;have:=ak.uniq hi E ag;subst this;rw[hi] at E;exact congrArg Prod.snd (j5 E)
  simp only[Instr.lookup,Z4,run_underlying Z,Z6,MapKept.run_getObj_map X,Z9,W.check w' _ J,h1,ac]
theorem oS {t:u5} {c:Bool} {m:Nat} {d:List (x1×x1)} {x z:x1} {K:x1→Prop} (Y:P.underlying t=some (.map k e)) (U:Keys P k G) (E:∃ s b,aE P e s b z) (hm:cg w m d) (Z:∀ p∈d,G p.1) (J:G x) (aa:∀ p∈d,p.1≠x):
  O P (Instr.lookup t (.map (some m)) x c) w K=K (if c then .tuple #[z,.bool false] else z):=O.of fun w' ab=>by
 obtain⟨V,ag,ac,ah,rfl⟩:=hm.ext ab;have ad:∀ e∈V.toList,G e.key:=fun e he=>Z (eU e) (o6.2 ⟨e,he,rfl⟩);have ae:(zeroValue e).run P w'= .ok z w':=by
  obtain⟨s,b,i,hi,_,_,E⟩:=E;simp[zeroValue,typeInfo,hi,E]
 rcases U.find w' J V.toList ad with⟨h1,W⟩|⟨i,X,h1,W,af⟩
 ·simp only[Instr.lookup,Z4,run_underlying Y,Z6,MapKept.run_getObj_map ac,Z9,U.check w' _ J,h1,ae]
 ·exact absurd af (aa (eU X) (o6.2 ⟨X,x4 W,rfl⟩))
theorem DW {E:Array MapEntry} {j:Nat} {J:MapEntry} {f:MapEntry→MapEntry} (h:E[j]? =some J):(E.modify j f).toList.map eU=(E.toList.map eU).set j (eU (f J)):=by
 refine Y4 fun i=>?_;simp only[x6,V9,Array.getElem?_modify,Y0,u7,Array.length_toList];by_cases O:j=i
 ·subst O;have:=(o4.1 h);simp[this.1,this.2]
 ·simp[O]
theorem mN {t:u5} {m:Nat} {d:List (x1×x1)} {x v:x1} {K:Unit→x2→Prop} (aa:P.underlying t=some (.map k e)) (U:Keys P k G) (hm:cg w m d) (ah:∀ p∈d,G p.1) (J:G x)
  (h1:∀ j v0 w',d[j]? =some (x,v0)→cg w' m (d.set j (x,v))→af (fun r=>r=m) w w'→K () w')
  (ai:∀ w',(∀ p∈d,p.1≠x)→cg w' m (d++[(x,v)])→af (fun r=>r=m) w w'→K () w'):aA P (Instr.mapUpdate t (.map (some m)) x v) w K:=by
 obtain⟨O,V,E,ab,rfl⟩:=hm;have aj:∀ e∈O.toList,G e.key:=fun e he=>ah (eU e) (o6.2 ⟨e,he,rfl⟩);rcases U.find w J O.toList aj with⟨ag,ac⟩|⟨i,ad,ag,hi,he⟩
 ·obtain⟨W,X,Y⟩:=oQ E (O.push {key:=x,val:=v,born:=V}) (V+1);refine .of (v:=()) (w':=_) ?_ X (ai _ (fun p ak=>?_) ⟨_,_,Y,MapKept.stamped_push ab ac,by simp[eU]⟩ W)
  ·simp only[Instr.mapUpdate,Z4,run_underlying aa,Z6,MapKept.run_getObj_map E,U.check w _ J,ag,MapKept.run_setObj_map _ E]
  ·obtain⟨al,am,rfl⟩:=o6.1 ak;exact ac al am
 ·have Z:O[i]? =some ad:=by simpa using hi
  obtain⟨W,X,Y⟩:=oQ E (O.modify i fun e=>{e with key:=x,val:=v}) V;refine .of (v:=()) (w':=_) ?_ X (h1 i ad.val _ (by rw[x6,hi];simp[eU,he]) ⟨_,_,Y,MapKept.stamped_modify ab _ _ (fun _ _=>rfl) (fun ao _ ae=>by rw[Z] at ae;cases ae;exact he.symm),DW Z⟩ W);simp only[Instr.mapUpdate,Z4,run_underlying aa,Z6,MapKept.run_getObj_map E,U.check w _ J,ag,Z,j6,Option.getD_some,he,U.stays w J,MapKept.run_setObj_map _ E]
theorem DX {t ab ac:u5} {m:Nat} {d:List (x1×x1)} {x:x1} {K:x1→x2→Prop} (Y:P.underlying t=some (.map k e)) (U:Keys P k G) (hm:cg w m d) (ad:∀ p∈d,G p.1) (J:G x)
  (h1:∀ j v0 w',d[j]? =some (x,v0)→cg w' m (d.eraseIdx j)→af (fun r=>r=m) w w'→K (.tuple #[]) w')
  (ae:∀ w',(∀ p∈d,p.1≠x)→cg w' m d→af (fun r=>r=m) w w'→K (.tuple #[]) w'):aA P (n0.delete_ #[t,ab] ac #[.map (some m),x]) w K:=by
 obtain⟨O,Z,E,aa,rfl⟩:=hm;have ah:∀ e∈O.toList,G e.key:=fun e he=>ad (eU e) (o6.2 ⟨e,he,rfl⟩);rcases U.find w J O.toList ah with⟨ag,ai⟩|⟨i,aj,ag,hi,he⟩
 ·obtain⟨V,W,X⟩:=oQ E O Z;refine .of (v:=.tuple #[]) (w':=_) ?_ W (ae _ (fun p ak=>?_) ⟨_,_,X,aa,rfl⟩ V)
  ·simp only[n0.delete_,List.getElem?_toArray,List.getElem?_cons_zero,List.getElem?_cons_succ,Z4,run_underlying Y,Z6,MapKept.run_getObj_map E,U.check w _ J,ag,MapKept.run_setObj_map _ E,Z9]
  ·obtain⟨al,am,rfl⟩:=o6.1 ak;exact ai al am
 ·obtain⟨V,W,X⟩:=oQ E (O.eraseIdxIfInBounds i) Z;refine .of (v:=.tuple #[]) (w':=_) ?_ W (h1 i aj.val _ (by rw[x6,hi];simp[eU,he]) ⟨_,_,X,MapKept.stamped_erase aa _,by rw[jO];simp⟩ V);simp only[n0.delete_,List.getElem?_toArray,List.getElem?_cons_zero,List.getElem?_cons_succ,Z4,run_underlying Y,Z6,MapKept.run_getObj_map E,U.check w _ J,ag,MapKept.run_setObj_map _ E,Z9]
theorem DY {t E:u5} {m:Nat} {d:List (x1×x1)} {K:x1→Prop} (J:P.underlying t=some (.map k e)) (hm:cg w m d):O P (Z8 #[t] E #[.map (some m)]) w K=K (.int .i64 d.length):=O.of fun w' U=>by
 obtain⟨W,X,V,Y,rfl⟩:=hm.ext U;simp[Z8,run_underlying J,MapKept.run_getObj_map V,goInt]
def fo (w:x2) (V m:Nat) (d left:List (x1×x1)) (W:Option (x1×x1)):Prop:=∃ E J seen O,w.heap[m]? =some (.map E J)∧MapKept.Stamped E J∧E.toList.map eU=d∧
 w.heap[V]? =some (.mapIter (some m) J seen O)∧J≤O∧(leftOf E seen).toList.map eU=left∧ ∀ p,W=some p→O=J∧ ∃ U,E.toList.find? (fun e=>e.born == seen.back?.getD 0)=some U∧seen.back? =some U.born∧eU U=p
theorem fo.map {E m:Nat} {d left:List (x1×x1)} {J:Option (x1×x1)} (h:fo w E m d left J):cg w m d:=by
 obtain⟨O,c,_,_,h1,U,V,_⟩:=h;exact⟨O,c,h1,U,V⟩
theorem fo.aW {w':x2} {E m:Nat} {d left:List (x1×x1)} {O:Option (x1×x1)} (h:fo w E m d left O) {S:Nat→Prop} (J:af S w w') (hm:¬S m) (hi:ej w w'):fo w' E m d left O:=by
 obtain⟨U,c,s,V,h1,W,X,Y,Z⟩:=h;exact⟨U,c,s,V,J.aW m _ h1 rfl hm,W,X,hi E _ Y rfl,Z⟩
theorem fo.ext {w':x2} {E m:Nat} {d left:List (x1×x1)} {O:Option (x1×x1)} (h:fo w E m d left O) (J:Ext w w') (hi:ej w w'):fo w' E m d left O:=
 h.aW (J.U fun _=>False) (fun h=>h) hi
theorem DZ (E:Array MapEntry):leftOf E #[]=E:=by
 unfold leftOf;exact Array.filter_eq_self.2 fun x J=>by simp
theorem wh {t:u5} {m:Nat} {d:List (x1×x1)} {K:x1→x2→Prop} (V:P.underlying t=some (.map k e)) (hm:cg w m d)
  (h:∀ E w',E=w.heap.size→Ext w w'→ej w w'→fo w' E m d d none→K (.pointer (some ⟨E,0,none⟩)) w'):aA P (Instr.range t (.map (some m))) w K:=by
 obtain⟨O,J,U,W,rfl⟩:=hm;refine .of (run_range_map w t k e m O J V U) (k6 w _) (h _ _ rfl (k5 w _) (k6 w _).j0 ⟨O,J,#[],J,(k5 w _).aW m _ U rfl,W,rfl,heap_alloc_new w _,u9 _,by rw[DZ],fun p X=>by cases X⟩)
theorem wi:∀ (l:List MapEntry) (j:Nat) (E:MapEntry),(l.map (·.born)).Nodup→l[j]? =some E→l.filter (fun x=>!(x.born == E.born))=l.eraseIdx j
 |[],j,E,_,h=>by simp at h
 |x::l,0,E,U,h=>by
  simp at h;subst h;have O:=List.nodup_cons.1 (by simpa using U:(x.born::l.map (·.born)).Nodup);simp only[List.filter_cons,beq_self_eq_true,Z3,Bool.false_eq_true,if_false,List.eraseIdx_cons_zero];refine List.filter_eq_self.2 fun y V=>?_;have:y.born≠x.born:=fun he=>O.1 (he▸o6.2 ⟨y,V,rfl⟩);simpa using this
 |x::l,j+1,E,U,h=>by
  simp at h;have O:=List.nodup_cons.1 (by simpa using U:(x.born::l.map (·.born)).Nodup);have J:x.born≠E.born:=fun he=>O.1 (he▸o6.2 ⟨E,x4 h,rfl⟩);have W:=wi l j E O.2 h;simp only[List.filter_cons,List.eraseIdx_cons_succ,W];simp[J]
theorem wj {free:dY} {E m:Nat} {d left:List (x1×x1)} {al:Option (x1×x1)} {K:x1→x2→Prop} (h:fo w E m d left al) (ag:free.1=false→free.2≤E)
  (am:left=[]→K (.tuple #[.bool false]) w)
  (h1:∀ j p w',left[j]? =some p→Ext w w'→b2 E w w'→fo w' E m d (left.eraseIdx j) (some p)→K (.tuple #[.bool true,p.1,p.2]) w'):nu P free (Instr.next (.pointer (some ⟨E,0,none⟩)) false 0) w K:=by
 obtain⟨U,V,seen,ao,Y,aa,rfl,hi,ap,rfl,_⟩:=h;have ae:∀ x∈U.toList,x.born<V:=aa.1;have af:=aa.2.1;have ah:∀ x∈(leftOf U seen).toList,x.born<V:=fun x J=>ae x (mem_left J).1;have aq:∀ (X:x2) (o':Obj),X.heap=w.heap→(setObj E o').run P X= .ok () {X with heap:=X.heap.setIfInBounds E o'}:=fun X o' he=>by
  simp only[setObj,Sem.run];rw[he,hi]
 unfold nu;simp only[Instr.next,getObj,Z4,Sem.run,hi,Y,Z6,next_test_false seen U V ao ae ap,Bool.false_eq_true,if_false];have au:Array.filter (fun e=>!seen.contains e.born) U=leftOf U seen:=rfl;rw[au];have av:((leftOf U seen).toList.map (·.born)).Nodup:=by
  unfold leftOf;rw[Array.toList_filter];exact (List.Sublist.map _ List.filter_sublist).nodup af
 have aw:∀ Z:MapEntry,leftOf U (seen.push Z.born)=(leftOf U seen).filter fun x=>!(x.born == Z.born):=fun Z=>by
  unfold leftOf;rw[Array.filter_filter];congr 1;funext x;rw[contains_push];cases seen.contains x.born <;> cases x.born == Z.born <;> rfl
 generalize ax:leftOf U seen=L at*;have ay:L.filter (fun x=>decide (x.born<V))=L:=Array.filter_eq_self.2 (fun x J=>by simpa using ah x (by simpa using J));have az:L.filter (fun x=>decide (x.born≥V))= #[]:=by
  rw[Array.filter_eq_empty_iff];intro x J;have:=ah x (by simpa using J);simp;omega
 simp only[ay,az,Array.append_empty];by_cases ai:L.size=0
 ·have aA:L= #[]:=Array.eq_empty_of_size_eq_zero ai;subst aA;refine⟨.tuple #[.bool false],w,?_,fun _=>b2.refl _ _,am rfl⟩;simp[choose,Sem.run,Question.forced]
 ·have aB:L.isEmpty=false:=by simp[Array.isEmpty,ai]
  simp only[aB,Bool.false_eq_true,if_false,Array.empty_append,Array.size_map];have aC:∃ (j:Nat) (n:Nat),j<L.size∧w.drawn≤n∧(choose (Question.mapNext L.size)).run P w= .ok j {w with drawn:=n}:=by
   by_cases ag:L.size≤1
   ·exact⟨0,w.drawn,by omega,u9 _,by simp[choose,Sem.run,Question.forced,ag]⟩
   ·exact⟨_,w.drawn+1,Nat.mod_lt _ (by omega),Nat.le_succ _,by
     simp only[choose,Sem.run,Question.forced,decide_eq_true_eq,ag,if_false,Question.cut];rfl⟩
  obtain⟨j,n,ab,aj,aD⟩:=aC;have ak:L.toList[j]? =some L[j]:=by simp[ab]
  have aE:L[j]∈U.toList:=(mem_left (seen:=seen) (by rw[ax];exact Array.mem_toList_iff.2 (Array.getElem_mem ab))).1;refine⟨.tuple #[.bool true,L[j].key,L[j].val],{w with drawn:=n,heap:=w.heap.setIfInBounds E (.mapIter (some m) V (seen.push L[j].born) V)},?_,?_,?_⟩
  ·have aF:=aq {w with drawn:=n} (.mapIter (some m) V (seen.push L[j].born) V) rfl;simp only[aD,Array.getElem?_map,Array.getElem?_eq_getElem ab,j6,Z4,aF,Z6,Z9]
  ·intro aG;have:=ag aG;refine⟨rfl,⟨rfl,aj⟩,rfl,by simp,fun r o O ac=>?_,fun r o aH O ad=>?_⟩
   ·show (w.heap.setIfInBounds E _)[r]? =some o;by_cases W:r=E
    ·subst W;rw[hi] at O;cases O;cases ac
    ·rw[(MapKept.heap_set hi).2 r W];exact O
   ·show (w.heap.setIfInBounds E _)[r]? =some o;rw[(MapKept.heap_set hi).2 r (by omega)];exact O
  ·refine h1 j (eU L[j]) _ (by rw[x6,ak];rfl) ⟨by simp,fun r o O ad=>?_⟩ ⟨rfl,⟨rfl,aj⟩,rfl,by simp,fun r o O ac=>?_,fun r o aH O ad=>?_⟩ ⟨U,V,seen.push L[j].born,V,?_,aa,rfl,?_,u9 _,?_,fun p aI=>⟨rfl,L[j],?_,by simp,j5 aI⟩⟩
   ·show (w.heap.setIfInBounds E _)[r]? =some o;by_cases W:r=E
    ·subst W;rw[hi] at O;cases O;cases ad
    ·rw[(MapKept.heap_set hi).2 r W];exact O
   ·show (w.heap.setIfInBounds E _)[r]? =some o;by_cases W:r=E
    ·subst W;rw[hi] at O;cases O;cases ac
    ·rw[(MapKept.heap_set hi).2 r W];exact O
   ·show (w.heap.setIfInBounds E _)[r]? =some o;rw[(MapKept.heap_set hi).2 r (by omega)];exact O
   ·show (w.heap.setIfInBounds E _)[m]? =_;rw[(MapKept.heap_set hi).2 m (fun he=>by subst he;rw[hi] at Y;cases Y)];exact Y
   ·exact (MapKept.heap_set hi).1
   ·rw[aw,Array.toList_filter,wi _ _ _ av ak,jO]
   ·simp only[Array.back?_push,Option.getD_some];exact find_born _ _ af aE
theorem wk {E m:Nat} {d left:List (x1×x1)} {p:x1×x1} {K:x1→x2→Prop} (h:fo w E m d left (some p)) (U:K (.tuple #[p.1,p.2]) w):aA P (Instr.entry (.pointer (some ⟨E,0,none⟩))) w K:=by
 obtain⟨X,Y,seen,Z,V,aa,rfl,hi,ab,rfl,W⟩:=h;obtain⟨rfl,J,h1,O,rfl⟩:=W p rfl;refine .of (v:=.tuple #[J.key,J.val]) (w':=w) ?_ (cA.refl _) U;rw[O] at h1;simp only[Instr.entry,getObj,Z4,Sem.run,hi,V,Z6,O,bne_self_eq_false,Bool.false_eq_true,if_false,←Array.find?_toList];simp only[Option.getD_some] at h1;rw[h1];rfl
end
end Go.Vc
namespace Go.Proofs.YtgbkinibgjmodaaGreatDoor
open Go Go.Vc Go.RowKit Go.Proofs Go.Proofs.Tryz
set_option maxRecDepth 100000
def c0 (ks:List Int):x1:=.agg (ints .i8 ks).toArray
def iw (ks:List Int):Prop:=ks.length=6∧ ∀ x∈ks,0≤x∧x<32
theorem D0 {a b:List Int} (h:c0 a=c0 b):a=b:=by
 unfold c0 at h;have h:ints .i8 a=ints .i8 b:=congrArg Array.toList (x1.agg.inj h);have e:∀ l:List Int,(ints .i8 l).map valOf=l:=fun l=>by
  unfold ints;rw[List.map_map];exact List.map_id l
 rw[←e a,←e b,h]
theorem wm (ks:List Int):(c0 ks).cells.toList=ints .i8 ks:=by simp[c0,x1.cells]
theorem D1:WideMaps.ArrKey x5 bO en 6:=⟨bO.u,by kernel_rfl,by kernel_rfl,by kernel_rfl⟩
theorem keys:Keys x5 bO fun v=>∃ l,keyOf x5 bO v=some l:=Keys.law D1.law
theorem rb {ks:List Int} (h:iw ks):∃ l,keyOf x5 bO (c0 ks)=some l:=by
 obtain⟨V,E⟩:=h
 match ks,V with
 |[a,b,c,d,e,f],_=>
  have W:=E a (by simp);have X:=E b (by simp);have Y:=E c (by simp);have rd:=E d (by simp);have Z:=E e (by simp);have h8:=E f (by simp);have wf:∀ x:Int,0≤x∧x<32→(Lit.int .i8 x).wf=true:=fun x J=>by
   simp only[Lit.wf,X2,decide_eq_true_eq];have ae:r9.i8.min= -128:=by decide
   have af:r9.i8.max=127:=by decide
   omega
  have O:decide (0<x5.types.size)=true:=by kernel_rfl
  have O:=of_decide_eq_true O;obtain⟨n,aa⟩:∃ n,x5.types.size=n+1:=⟨x5.types.size-1,by omega⟩;have one:∀ x:Int,0≤x∧x<32→x5.keyLits (n+1) en [.int .i8 x]=some [.int .i8 x]:=fun x J=>by
   unfold Y3.keyLits;rw[en.u];simp[wf x J]
  unfold keyOf;rw[bO.u];simp only;have ab:x5.keyType bO=true:=by kernel_rfl
  have ac:x5.cellsOf en=1:=by kernel_rfl
  have U:x5.cellsOf bO=6:=by kernel_rfl
  have ag:(c0 [a,b,c,d,e,f]).formed x5 bO=true:=by
   unfold c0 x1.formed;rw[bO.u,U];rfl
  rw[ab,ag,wm,aa];simp only[Bool.and_self,if_true];unfold Y3.keyLits;rw[bO.u];simp only[U,ac,ints];have ad:Y1 6=[0,1,2,3,4,5]:=by decide
  simp[ad,one a W,one b X,one c Y,one d rd,one e Z,one f h8]
def pad (t:List Int):List Int:=t++v8 (6-t.length) 0
theorem D2 {t:List Int} (O:t.length≤6) (E:∀ x∈t,0≤x∧x<32):iw (pad t):=
 ⟨by simp[pad];omega,fun x J=>by
  rcases p9.1 J with h|h
  ·exact E x h
  ·have:=(List.mem_replicate.1 h).2;omega⟩
theorem D3 {a b:List Int} (E:a.length=b.length) (h:pad a=pad b):a=b:=by
 unfold pad at h;exact (List.append_inj h E).1
theorem wn {t:List Int}:(pad t).take t.length=t:=by simp[pad]
theorem kB {w:x2} {b o:Nat} {ks:List Int} {K:x1→Prop} (E:ks.length=6) (h:w.rangeAt b o (ints .i8 ks)):O x5 (x7 bO (.pointer (some ⟨b,o,none⟩))) w K=K (c0 ks):=
 um bO.u rfl bO.i (by simp[E]) h
theorem D4 {w:x2} {b o:Nat} {ks:List Int} {K:x1→Prop} (E:ks.length=6) (h:w.rangeAt b o (ints .i8 ks)):O x5 (do loadVar bO (←asAddr (.pointer (some ⟨b,o,none⟩)))) w K=K (c0 ks):=O.of fun w' J=>by
 have:=run_loadVar_mid (P:=x5) w' b o bO (ints .i8 ks) (.array 6 en) (lh J h) bO.u rfl (by rw[bO.i.size];simp[E]);simp only[asAddr,Z4,Z9,Result.andThen_ok,this];rfl
theorem mO {w:x2} {g:Nat} {ks:List Int} {cs:List x1} {K:Unit→x2→Prop} (E:ks.length=6) (J:cs.length=6) (O:ad w g bO cs)
  (h:∀ w',af (fun r=>r=g) w w'→w'.heap.size=w.heap.size→ad w' g bO (ints .i8 ks)→K () w'):aA x5 (o7 bO (.pointer (some ⟨g,0,none⟩)) (c0 ks)) w K:=
 bP (vs:=ints .i8 ks) bO.i (by simp[E]) J (fun v ac=>by obtain⟨x,_,rfl⟩:=o6.1 ac;rfl) O h
def oT:List x1:=[.int .i8 0,.int .i8 0,.int .i8 0,.int .i8 0,.int .i8 0,.int .i8 0]
theorem D5 {x:Int} {w:x2}:ah x5 n1 [.int .i64 x] w fun v w'=>v= .bool (decide (¬fQ x))∧Ext w w':=by
 refine aq func244 ?_;simp only[bR,ao,bA,aa];refine⟨fun h=>⟨?_,Ext.refl _⟩,fun h=>⟨?_,Ext.refl _⟩⟩
 ·rw[decide_eq_true];intro E;have:=E.1;omega
 ·congr 1;have:(32<x)=(¬fQ x):=propext ⟨fun J E=>by have:=E.2;omega,fun J=>by
   by_cases O:32<x
   ·exact O
   ·exact absurd ⟨by omega,by omega⟩ J⟩
  simp only[this]
theorem D6 {sv:x1} {l:List Int} {w:x2} (h:aC .i64 w sv l):
  ah x5 qu [sv,.func (.func n1) #[] #[]] w fun v w'=>Ext w w'∧ ∃ n:Int,v= .int .i64 n∧((0≤n)=¬∀ x∈l,fQ x):=by
 have ac:=h.le;refine aq func170 ?_;rw[aI al.u h];refine⟨fun _ t O=>Ext w O∧ ∃ i:Nat,t= .int .i64 i∧i≤l.length∧ ∀ x∈l.take i,fQ x,fun _ t _=>l.length-(bl t).toNat,⟨Ext.refl _,0,rfl,Z1 _,by simp⟩,?_⟩;rintro _ _ O ⟨J,i,rfl,hi,U⟩;simp only[ao,aa];refine⟨fun ad=>?_,fun ae=>⟨J,-1,rfl,?_⟩⟩
 ·obtain⟨x,V⟩:∃ x,l[i]? =some x:=⟨_,y0 (by omega)⟩;rw[a1 al.u ab.i (by kernel_rfl) (h.ext J) V];show ah x5 n1 [.int .i64 x] O _;refine D5.mono ?_;rintro _ af _ ⟨rfl,W⟩;simp only[aa,aF];refine⟨fun X=>⟨J.trans W,i,rfl,?_⟩,fun Y=>?_⟩
  ·exact propext ⟨fun _ Z=>X (Z x (x4 V)),fun _=>by omega⟩
  ·rw[wrap_i64 (by omega) (by omega)];refine⟨⟨J.trans W,i+1,rfl,by omega,fun y E=>?_⟩,?_⟩
   ·rw[u4,V] at E;rcases p9.1 E with E|E
    ·exact U y E
    ·simp at E;subst E;exact Z7.1 Y
   ·simp only[bl];omega
 ·have:i=l.length:=by omega
  rw[this,o3] at U;exact propext ⟨fun h=>by omega,fun h=>absurd U h⟩
theorem wo {sv:x1} {l:List Int} {w:x2} (h:aC .i64 w sv l):
  ah x5 qv [sv,.func (.func n1) #[] #[]] w fun v w'=>v= .bool (decide (¬∀ x∈l,fQ x))∧Ext w w':=by
 refine aq func196 ?_;refine (D6 h).mono ?_;rintro _ O _ ⟨J,n,rfl,E⟩;simp only[ca];exact⟨by congr 1;simp only[E],J⟩
abbrev Told:=List (List Int×Int)
def hn (p:List Int×Int):x1×x1:=(c0 (pad p.1),.int .i64 p.2)
def du (w:x2) (g m:Nat) (ai:List Int) (k o:Int) (D:Told):Prop:=
 (∃ sv gs,ad w g ea [sv,.int .i64 k,.int .i64 o,.map (some m)]∧am .i64 ab w gs sv ai)∧cg w m (D.map hn)∧bu ai∧cj o k∧ ∀ p∈D,cv ai p.1∧cj p.2 k∧p.2≠o
theorem du.ext {w w':x2} {g m:Nat} {ai:List Int} {k o:Int} {D:Told} (h:du w g m ai k o D) (J:Ext w w'):du w' g m ai k o D:=by
 obtain⟨⟨sv,gs,h1,E⟩,O,U⟩:=h;exact⟨⟨sv,gs,h1.ext J,E.ext J⟩,O.ext J,U⟩
theorem re {ai t:List Int} (O:bu ai) (h:cv ai t):t.length=ai.length∧ ∀ x∈t,0≤x∧x<32:=by
 obtain⟨h1,U⟩:=ky.1 h;refine⟨h1.symm,fun x J=>?_⟩;obtain⟨i,hi,rfl⟩:=List.getElem_of_mem J;obtain⟨a,E⟩:∃ a,ai[i]? =some a:=⟨_,y0 (by omega)⟩;have V:=U i a _ E (y0 hi);have W:=(O.2 a (x4 E)).2;omega
theorem mP {ai t:List Int} (E:bu ai) (h:cv ai t):iw (pad t):=by
 obtain⟨h1,J⟩:=re E h;exact D2 (by rw[h1];exact E.1) J
theorem du.lG {w:x2} {g m:Nat} {ai:List Int} {k o:Int} {D:Told} (h:du w g m ai k o D):∀ p∈D.map hn,∃ l,keyOf x5 bO p.1=some l:=fun p E=>by
 obtain⟨q,J,rfl⟩:=o6.1 E;exact rb (mP h.2.2.1 (h.2.2.2.2 q J).1)
theorem wp {ai s t:List Int} (E:cv ai s) (J:cv ai t) (h:c0 (pad s)=c0 (pad t)):s=t:=
 D3 ((oE E).symm.trans (oE J)) (D0 h)
theorem du.nodup {w:x2} {g m:Nat} {ai:List Int} {k o:Int} {D:Told} (h:du w g m ai k o D):(D.map (·.1)).Nodup:=by
 have E:=h.2.1.nodup;rw[List.map_map] at E;refine List.Pairwise.of_map (S:=fun a b=>a≠b) (fun t=>c0 (pad t)) (fun a b h he=>h (by rw[he])) ?_;rw[List.map_map];exact E
def D7 (w:x2) (l:List Int) (k o:Int) (v:x1) (w':x2):Prop:=
 Ext w w'∧(¬bu l→v= .tuple #[.pointer none,.int .i64 1])∧(bu l→¬cj o k→v= .tuple #[.pointer none,.int .i64 3])∧
  (bu l→cj o k→ ∃ g m,v= .tuple #[.pointer (some ⟨g,0,none⟩),.int .i64 0]∧w.heap.size≤g∧w.heap.size≤m∧du w' g m l k o [])
theorem wq {sv:x1} {l:List Int} {k o:Int} {w:x2} (h:aC .i64 w sv l):ah x5 k9 [sv,.int .i64 k,.int .i64 o] w (D7 w l k o):=by
 refine aq func205 ?_;refine aL (fun v Y=>Ext w Y∧ ∃ c,v= .bool c∧(c=true↔¬bu l)) ?_ ?_
 ·rintro _ Y ⟨O,c,rfl,U⟩;rw[b3];refine⟨fun Z=>⟨O,fun _=>rfl,fun h=>absurd h (U.1 Z),fun h=>absurd h (U.1 Z)⟩,fun ag=>?_⟩;have E:bu l:=Classical.byContradiction fun h=>by have:=U.2 h;rw[ag] at this;cases this
  have am:=E.1;refine kq.mono ?_;rintro _ ae _ ⟨rfl,J⟩;by_cases hi:cj o k
  rotate_left
  ·simp only[hi,decide_false,bJ,Y8,bh];exact⟨O.trans J,fun h=>absurd E h,fun _ _=>rfl,fun _ h=>absurd h hi⟩
  simp only[hi,decide_true,bJ,Z3,aP];refine (hQ ((h.ext O).ext J) (by omega)).mono ?_;rintro ab ao _ ⟨ac,af,ap,hm⟩;have au:=hm.ls.cells;refine oR fun m av aw V ai=>?_;rw[cI (cs:=#[ab,.int .i64 k,.int .i64 o,.map (some m)]) (by obtain⟨_,_,_,_,_,rfl,_⟩:=hm.ls;kernel_rfl)];refine a7 fun g ax ay W aj=>?_;have az:=O.size;have aA:=J.size;have aB:=ac.size;have aD:=V.size;exact⟨((((O.trans J).trans ac).trans V).trans W),fun h=>absurd E h,fun _ h=>absurd hi h,fun _ _=>⟨g,m,rfl,by omega,by omega,⟨ab,af,aj,(hm.ext V).ext W⟩,ai.ext W,E,hi,fun p ak=>by cases ak⟩⟩
 ·intro aE ad;rw[aI al.u h];simp only[bA,aa];refine⟨fun aF=>ad _ _ ⟨Ext.refl _,true,rfl,fun _ E=>by have:=E.1;omega,fun _=>rfl⟩,fun aG=>?_⟩;refine (wo h).mono ?_;rintro _ ae _ ⟨rfl,J⟩;refine ad _ _ ⟨J,_,rfl,?_⟩;rw[decide_eq_true_eq];exact⟨fun X E=>X E.2,fun X E=>X ⟨by omega,E⟩⟩
def gn (t:List Int) (i:Nat):List Int:=t.take i++v8 (6-i) 0
theorem D8 {t:List Int} {i:Nat} (hi:i≤t.length) (E:t.length≤6):(gn t i).length=6:=by simp[gn];omega
theorem D9 {t:List Int} {i:Nat} {x:Int} (J:t[i]? =some x) (O:t.length≤6):(gn t i).set i x=gn t (i+1):=by
 have hi:=(x3.1 J).1;unfold gn;have E:(t.take i).length=i:=by rw[o5];omega
 rw[List.set_append_right _ _ (by omega),E,X6,u4,J];have:6-i=(6-(i+1))+1:=by omega
 rw[this,List.replicate_succ];simp
theorem Ea (t:List Int):gn t t.length=pad t:=by simp[gn,pad]
def wr (w:x2) (ai t:List Int) (v:x1) (w':x2):Prop:=Ext w w'∧ ∃ ks e,v= .tuple #[c0 ks,.int .i64 e]∧ks.length=6∧(cv ai t→ks=pad t∧e=0)∧(¬cv ai t→e=3)
set_option maxHeartbeats 800000 in
theorem Eb {w:x2} {g m:Nat} {ai t:List Int} {k o:Int} {D:Told} {aH:x1} (h:du w g m ai k o D) (am:aC .i64 w aH t):ah x5 BF [.pointer (some ⟨g,0,none⟩),aH] w (wr w ai t):=by
 obtain⟨⟨sv,gs,ap,hm⟩,_,aK,_⟩:=h;have bg:=aK.1;refine aq func245 ?_;refine bi bO.i fun Y bh bj aM aj=>?_;refine bi bO.i fun aJ bk bl au av=>?_;have Z:=aM.trans au;have bm:=aM.size;have bn:=au.size;have bo:=aj.lt;have bp:=av.lt;have bq:=ap.lt;have aj:=aj.ext au;have aU:=ap.ext Z;rw[cB dB.u];simp only[c5,aP];have aw:∀ {E:x2} {ks:List Int} {e:Int},Ext w E→ad E aJ bO (ints .i8 ks)→ad E Y bO oT→ks.length=6→(cv ai t→ks=pad t∧e=0)→(¬cv ai t→e=3)→
   O x5 (x7 bO (.pointer (some ⟨aJ,0,none⟩))) E fun aV=>aA x5 (o7 bO (.pointer (some ⟨Y,0,none⟩)) aV) E fun(_:Unit) ay=>O x5 (do loadVar bO (←asAddr (.pointer (some ⟨Y,0,none⟩)))) ay fun aW=>wr w ai t (.tuple #[aW,.int .i64 e]) ay:=by
  intro E ks e W X af ak ac az;rw[kB ak X.range];refine mO ak rfl af fun ay aX br aY=>?_;rw[D4 ak aY.range];exact⟨W.then aX (fun r a2 he=>by have he:r=Y:=he;omega),ks,e,rfl,ak,ac,az⟩
 rw[aI al.u (am.ext Z),ax,ae ea.p rfl,V (by kernel_rfl) (aU.cell (o:=0+0) rfl),aI al.u (hm.ls.ext Z)];simp only[be,aa];have aN:ints .i8 (gn t 0)=oT:=by simp[gn,oT,ints]
 refine⟨fun a6=>aw Z (ks:=gn t 0) (e:=3) (by rw[aN];exact av) aj (by simp[gn]) (fun ac=>absurd (by rw[oE ac]) a6) (fun _=>rfl),fun aO=>?_⟩;have aO:t.length=ai.length:=by omega
 rw[aI al.u (am.ext Z)];refine bM.range t.length (fun i _ E=>Ext w E∧ad E aJ bO (ints .i8 (gn t i))∧ad E Y bO oT∧ ∀ (j:Nat) (a x:Int),j<i→ai[j]? =some a→t[j]? =some x→0≤x∧x<a) (by omega)
  ⟨Z,by rw[aN];exact av,aj,fun j a x a7=>by omega⟩ ?_ ?_
 ·rintro i _ E a8 hi ⟨W,X,af,aB⟩ ba;simp only[ao,aa];refine⟨fun _=>?_,fun h=>by omega⟩;obtain⟨x,J⟩:∃ x,t[i]? =some x:=⟨_,y0 hi⟩;obtain⟨a,ag⟩:∃ a,ai[i]? =some a:=⟨_,y0 (by omega)⟩;have bt:=aK.2 a (x4 ag);rw[a1 al.u ab.i (by kernel_rfl) (am.ext W) J];have aQ:=D8 (t:=t) (i:=i) (by omega) (by omega);refine aL (fun v bb=>E=bb∧v= .bool (decide (¬(0≤x∧x<a)))) ?_ ?_
  ·rintro _ _ ⟨rfl,rfl⟩;simp only[aa];refine⟨fun bc=>aw W X af aQ (fun ac=>absurd ((ky.1 ac).2 i a x ag J) bc) (fun _=>rfl),fun aD=>?_⟩;have aD:=Z7.1 aD;rw[e7 ab.u en.u,Co (by omega) (by omega),qE bO.u en.i (by omega)];refine aZ en.i rfl rfl X (by simp[aQ];omega) fun bu aR bw aS=>?_;simp only[aF];refine ba _ _ ⟨W.then aR (fun r a2 he=>by have he:r=aJ:=he;omega),?_,af.U aR (by show ¬(Y=aJ);omega),fun j a' bd a7 aE aG=>?_⟩
   ·have e:(ints .i8 (gn t i)).set (0+i*1) (.int .i8 x)=ints .i8 (gn t (i+1)):=by
     rw[←D9 J (by omega)];simp[ints,List.map_set]
    rw[e] at aS;exact aS
   ·by_cases bf:j=i
    ·subst bf;rw[ag] at aE;rw[J] at aG;cases aE;cases aG;exact aD
    ·exact aB j a' bd (by omega) aE aG
  ·intro bx aT;simp only[ao,aa];refine⟨fun bz=>aT _ _ ⟨rfl,by rw[decide_eq_true];omega⟩,fun bA=>?_⟩;rw[ax,ae ea.p rfl,V (by kernel_rfl) ((ap.ext W).cell (o:=0+0) rfl),a1 al.u ab.i (by kernel_rfl) (hm.ls.ext W) ag,ca];refine aT _ _ ⟨rfl,?_⟩;congr 1;exact decide_eq_decide.2 ⟨fun h bB=>by omega,fun h=>by omega⟩
 ·rintro _ E a8 ⟨W,X,af,aB⟩;simp only[ao,aa];refine⟨fun h=>by omega,fun _=>?_⟩;rw[Ea] at X;exact aw W X af (by simp[pad];omega) (fun _=>⟨rfl,rfl⟩) (fun az=>absurd (ky.2 ⟨aO.symm,fun j a x ag J=>aB j a x (x3.1 J).1 ag J⟩) az)
def fW (D:Told) (o:Int) (t:List Int):Int:=match D.find? (fun p=>decide (p.1=t)) with
 |some p=>p.2
 |none=>o
theorem ws {D:Told} (J:(D.map (·.1)).Nodup) {p q:List Int×Int} (O:p∈D) (U:q∈D) (h:p.1=q.1):p=q:=by
 obtain⟨i,hi⟩:=Y6.1 O;obtain⟨j,E⟩:=Y6.1 U;have h1:(D.map (·.1))[i]? =some p.1:=by rw[x6,hi];rfl
 have V:(D.map (·.1))[j]? =some p.1:=by rw[x6,E,h];rfl
 have:=hW J h1 V;subst this;rw[hi] at E;exact j5 E
theorem mQ {D:Told} {o c:Int} {t:List Int} (E:(D.map (·.1)).Nodup) (h:(t,c)∈D):fW D o t=c:=by
 unfold fW;cases ag:D.find? (fun p=>decide (p.1=t)) with
 |none=>
  have:=List.find?_eq_none.1 ag _ h;simp at this
 |some p=>
  have h1:=List.find?_some ag;have h1:p.1=t:=by simpa using h1
  have:=ws E (List.mem_of_find?_eq_some ag) h h1;rw[this]
theorem mR {D:Told} {o:Int} {t:List Int} (h:∀ p∈D,p.1≠t):fW D o t=o:=by
 unfold fW;cases ag:D.find? (fun p=>decide (p.1=t)) with
 |none=>rfl
 |some p=>
  have h1:=List.find?_some ag;have h1:p.1=t:=by simpa using h1
  exact absurd h1 (h p (List.mem_of_find?_eq_some ag))
def ix (D:Told) (t:List Int) (c o:Int) (E:Told):Prop:=(∀ p,p∈E↔(c≠o∧p=(t,c))∨(p∈D∧p.1≠t))∧E.length≤D.length+1
theorem ix.cost {D U:Told} {t:List Int} {c o:Int} (h:ix D t c o U) (Y:(D.map (·.1)).Nodup) (V:(U.map (·.1)).Nodup) (s:List Int):fW U o s=if s=t then c else fW D o s:=by
 by_cases O:s=t
 ·subst O;rw[if_pos rfl];by_cases W:c=o
  ·subst W;exact mR fun p E he=>by
    rcases (h.1 p).1 E with J|J
    ·exact J.1 rfl
    ·exact J.2 he
  ·exact mQ V ((h.1 _).2 (.inl ⟨W,rfl⟩))
 ·rw[if_neg O];by_cases he:∃ p∈D,p.1=s
  ·obtain⟨p,E,rfl⟩:=he;rw[mQ (c:=p.2) Y E];exact mQ V ((h.1 _).2 (.inr ⟨E,O⟩))
  ·have X:∀ p∈D,p.1≠s:=fun p E h=>he ⟨p,E,h⟩;rw[mR X];exact mR fun p E J=>by
    rcases (h.1 p).1 E with⟨_,rfl⟩|⟨Z,_⟩
    ·exact O J.symm
    ·exact X p Z J
theorem Ec {D:Told} {t:List Int} {c o v0:Int} {j:Nat} (V:(D.map (·.1)).Nodup) (O:D[j]? =some (t,v0)) (W:c≠o):ix D t c o (D.set j (t,c)):=by
 have U:=(x3.1 O).1;refine⟨fun p=>⟨fun E=>?_,fun E=>?_⟩,by simp⟩
 ·obtain⟨i,hi⟩:=Y6.1 E;by_cases J:j=i
  ·subst J;rw[U1 U] at hi;exact .inl ⟨W,(j5 hi).symm⟩
  ·rw[List.getElem?_set_ne J] at hi;refine .inr ⟨x4 hi,fun he=>J ?_⟩;exact hW V (x:=t) (by rw[x6,O];rfl) (by rw[x6,hi,j6,he])
 ·rcases E with⟨_,rfl⟩|⟨E,X⟩
  ·exact x4 (U1 U)
  ·obtain⟨i,hi⟩:=Y6.1 E;have J:j≠i:=fun he=>by subst he;rw[O] at hi;cases hi;exact X rfl
   exact x4 (by rw[List.getElem?_set_ne J];exact hi)
theorem wu {D:Told} {t:List Int} {c o:Int} (E:∀ p∈D,p.1≠t) (J:c≠o):ix D t c o (D++[(t,c)]):=by
 refine⟨fun p=>?_,by simp⟩;rw[p9,p8];exact⟨fun h=>h.elim (fun h=>.inr ⟨h,E p h⟩) (fun h=>.inl ⟨J,h⟩),fun h=>h.elim (fun h=>.inr h.2) (fun h=>.inl h.1)⟩
theorem Ed {D:Told} {t:List Int} {o v0:Int} {j:Nat} (O:(D.map (·.1)).Nodup) (J:D[j]? =some (t,v0)):ix D t o o (D.eraseIdx j):=by
 refine⟨fun p=>⟨fun E=>?_,fun E=>?_⟩,by have:=List.length_eraseIdx_le D j;omega⟩
 ·refine .inr ?_;obtain⟨i,U,hi⟩:=List.mem_eraseIdx_iff_getElem?.1 E;refine⟨x4 hi,fun he=>U ?_⟩;exact hW O (x:=t) (by rw[x6,hi,j6,he]) (by rw[x6,J];rfl)
 ·rcases E with⟨h,_⟩|⟨E,V⟩
  ·exact absurd rfl h
  ·obtain⟨i,hi⟩:=Y6.1 E;exact List.mem_eraseIdx_iff_getElem?.2 ⟨i,fun he=>by subst he;rw[J] at hi;cases hi;exact V rfl,hi⟩
theorem Ee {D:Told} {t:List Int} {o:Int} (E:∀ p∈D,p.1≠t):ix D t o o D:=
 ⟨fun p=>⟨fun h=>.inr ⟨h,E p h⟩,fun h=>h.elim (fun h=>absurd rfl h.1) (fun h=>h.1)⟩,by omega⟩
theorem wv {w:x2} {g m:Nat} {ai t:List Int} {k o:Int} {D:Told} (h:du w g m ai k o D) (O:cv ai t) {j:Nat} {v:x1} (E:(D.map hn)[j]? =some (c0 (pad t),v)):∃ c,D[j]? =some (t,c)∧v= .int .i64 c:=by
 rw[x6] at E;obtain⟨p,J,he⟩:=b8.1 E;have h1:=wp (h.2.2.2.2 p (x4 J)).1 O (congrArg Prod.fst he);exact⟨p.2,by rw[J,←h1],(congrArg Prod.snd he).symm⟩
theorem wx {w:x2} {g m:Nat} {ai t:List Int} {k o:Int} {D:Told} (h:du w g m ai k o D) (E:∀ p∈D.map hn,p.1≠c0 (pad t)):∀ p∈D,p.1≠t:=fun p J he=>E (hn p) (o6.2 ⟨p,J,rfl⟩) (by rw[hn,he])
def Ef (w:x2) (g m:Nat) (ai t:List Int) (k o c:Int) (D:Told) (v:x1) (w':x2):Prop:=
 (¬(cv ai t∧cj c k)→v= .int .i64 3∧Ext w w')∧(cv ai t∧cj c k→v= .int .i64 0∧af (fun r=>r=m) w w'∧ ∃ E,ix D t c o E∧du w' g m ai k o E)
set_option maxHeartbeats 800000 in
theorem wy {w:x2} {g m:Nat} {ai t:List Int} {k o c:Int} {D:Told} {aG:x1} (h:du w g m ai k o D) (aQ:aC .i64 w aG t):ah x5 Bm [.pointer (some ⟨g,0,none⟩),aG,.int .i64 c] w (Ef w g m ai t k o c D):=by
 refine aq func206 ?_;refine (Eb h aQ).mono ?_;rintro _ bg _ ⟨aH,ks,e,rfl,ap,aR,aS⟩;rw[av (v:=c0 ks) rfl,av (v:=.int .i64 e) rfl];refine bi bO.i fun aJ bj bk aI aK=>?_;refine mO ap rfl aK fun au aT bl aM=>?_;have bm:=aH.size;have bn:=aI.size;have bo:=aK.lt;have ak:Ext w au:=(aH.trans aI).then aT (fun r aw he=>by have he:r=aJ:=he;omega);refine aL (fun v ay=>v= .int .i64 0∧(cv ai t∧cj c k)∧af (fun r=>r=m) w ay∧ ∃ O,ix D t c o O∧du ay g m ai k o O) ?_ ?_
 ·rintro _ ay ⟨_,h1,ag⟩;exact⟨fun h=>absurd h1 h,fun _=>⟨rfl,ag⟩⟩
 intro aU aV;simp only[be,aa];by_cases ac:cv ai t
 rotate_left
 ·have he:=aS ac;subst he;exact⟨fun _=>⟨fun _=>⟨rfl,ak⟩,fun h=>absurd h.1 ac⟩,fun h=>by simp at h⟩
 obtain⟨rfl,rfl⟩:=aR ac;refine⟨fun h=>absurd rfl h,fun _=>?_⟩;have X:=h.ext ak;obtain⟨⟨sv,gs,Y,hm⟩,al,aN,aW,aY⟩:=id X;rw[ax,ae ea.p rfl,V (by kernel_rfl) (Y.cell (o:=0+1) rfl)];refine kq.mono ?_;rintro _ aZ _ ⟨rfl,Z⟩;have a1:=ak.trans Z;by_cases hi:cj c k
 rotate_left
 ·simp only[hi,decide_false,bJ,Y8,bh];exact⟨fun _=>⟨rfl,a1⟩,fun h=>absurd h.2 hi⟩
 simp only[hi,decide_true,bJ,Z3,aP];rw[ax,ae ea.p rfl,V (by kernel_rfl) ((Y.ext Z).cell (o:=0+2) rfl)];simp only[bc,aa,dj];have aO:=rb (mP aN ac);have a2:∀ {O:Told},ix D t c o O→ ∀ p∈O,cv ai p.1∧cj p.2 k∧p.2≠o:=fun hu p a6=>by
  rcases (hu.1 p).1 a6 with⟨ad,rfl⟩|⟨h1,_⟩
  ·exact⟨ac,hi,ad⟩
  ·exact aY p h1
 have am:∀ {aj ab:x2} {O:Told},Ext aZ aj→af (fun r=>r=m) aj ab→cg ab m (O.map hn)→ix D t c o O→aU (.int .i64 0) ab:=by
  intro aj ab O E J a7 hu;have a8:g≠m:=fun he=>by
   obtain⟨ba,bb,az,_⟩:=al;have Y:au.heap[g]? =_:=Y;rw[he,az] at Y;cases Y
  have bd:∀ r,leads sv r→r≠m:=fun r aw he=>by
   subst he;obtain⟨ba,bb,az,_⟩:=al;obtain⟨_,⟨rfl,_⟩|⟨cap,cs,rfl,ao,_⟩⟩:=hm
   ·obtain⟨a,n,c,h1,_⟩:=aw;cases h1
   ·obtain⟨a,n,c,h1,ag⟩:=aw;cases h1;have ao:au.heap[gs]? =_:=ao;have ag:gs=r:=ag;rw[ag,az] at ao;cases ao
  have aA:=Z.trans E;exact aV _ _ ⟨rfl,⟨ac,hi⟩,((ak.trans aA).U _).trans J,O,hu,⟨sv,gs,(Y.ext aA).U J a8,aX (hm.ext aA) J bd⟩,a7,aN,aW,a2 hu⟩
 refine⟨fun ad aj E _ _=>?_,fun ad aj E _ _=>?_⟩
 ·rw[ax,ae ea.p rfl,V (by kernel_rfl) (((Y.ext Z).ext E).cell (o:=0+3) rfl),kB ap ((aM.ext Z).ext E).range];subst ad;refine DX gi.u keys ((al.ext Z).ext E) X.lG aO (fun j v0 ab aB W J=>?_) (fun ab aD W J=>?_)
  ·obtain⟨bf,aE,_⟩:=wv X ac aB;rw[jO] at W;exact am E J W (Ed X.nodup aE)
  ·exact am E J W (Ee (wx X aD))
 ·rw[ax,ae ea.p rfl,V (by kernel_rfl) (((Y.ext Z).ext E).cell (o:=0+3) rfl),kB ap ((aM.ext Z).ext E).range];refine mN gi.u keys ((al.ext Z).ext E) X.lG aO (fun j v0 ab aB W J=>?_) (fun ab aD W J=>?_)
  ·obtain⟨bf,aE,_⟩:=wv X ac aB;have aF:(D.map hn).set j (c0 (pad t),.int .i64 c)=(D.set j (t,c)).map hn:=by rw[List.map_set];rfl
   rw[aF] at W;exact am E J W (Ec X.nodup aE ad)
  ·have aF:D.map hn++[(c0 (pad t),.int .i64 c)]=(D++[(t,c)]).map hn:=by rw[o9];rfl
   rw[aF] at W;exact am E J W (wu (wx X aD) ad)
theorem Eg {w:x2} {g m:Nat} {ai t:List Int} {k o:Int} {D:Told} {K:x1→Prop} {b:Bool} (h:du w g m ai k o D) (ac:cv ai t)
  (h1:∀ c,(t,c)∈D→K (if b then .tuple #[.int .i64 c,.bool true] else .int .i64 c)) (V:(∀ p∈D,p.1≠t)→K (if b then .tuple #[.int .i64 0,.bool false] else .int .i64 0)):
  O x5 (Instr.lookup gi (.map (some m)) (c0 (pad t)) b) w K:=by
 have J:=rb (mP h.2.2.1 ac);by_cases he:∃ p∈D,p.1=t
 ·obtain⟨p,E,rfl⟩:=he;obtain⟨j,W⟩:=Y6.1 E;rw[mM gi.u keys h.2.1 h.lG J (j:=j) (v:=.int .i64 p.2) (by rw[x6,W];rfl)];exact h1 p.2 E
 ·have U:∀ p∈D,p.1≠t:=fun p E h=>he ⟨p,E,h⟩;rw[oS gi.u keys ⟨_,_,aj.i⟩ h.2.1 h.lG J (fun q X Y=>by
   obtain⟨p,E,rfl⟩:=o6.1 X;exact U p E (wp (h.2.2.2.2 p E).1 ac Y))]
  exact V U
theorem Eh {w:x2} {g m:Nat} {ai:List Int} {k o:Int} {D:Told} (h:du w g m ai k o D):ah x5 BI [.pointer (some ⟨g,0,none⟩)] w fun v w'=>v= .int .i64 D.length∧Ext w w':=by
 obtain⟨⟨sv,gs,E,hm⟩,J,_⟩:=h;refine aq func250 ?_;rw[cB dB.u];simp only[c5,aP];rw[ax,ae ea.p rfl,V (by kernel_rfl) (E.cell (o:=0+3) rfl),DY gi.u J];exact⟨by simp,Ext.refl _⟩
theorem Ei {w:x2} {g m:Nat} {ai:List Int} {k o:Int} {D:Told} (h:du w g m ai k o D):ah x5 Ca [.pointer (some ⟨g,0,none⟩)] w fun v w'=>v= .int .i64 k∧Ext w w':=by
 obtain⟨⟨sv,gs,E,hm⟩,_⟩:=h;refine aq func303 ?_;rw[cB dB.u];simp only[c5,aP];rw[ax,ae ea.p rfl,V (by kernel_rfl) (E.cell (o:=0+1) rfl)];exact⟨rfl,Ext.refl _⟩
theorem rf {w:x2} {g m:Nat} {ai:List Int} {k o:Int} {D:Told} (h:du w g m ai k o D):ah x5 BJ [.pointer (some ⟨g,0,none⟩)] w fun v w'=>Ext w w'∧ ∃ E,w.heap.size≤E∧am .i64 ab w' E v ai:=by
 obtain⟨⟨sv,gs,J,hm⟩,_,O,_⟩:=h;have U:=O.1;refine aq func251 ?_;rw[cB dB.u];simp only[c5,aP];rw[ax,ae ea.p rfl,V (by kernel_rfl) (J.cell (o:=0+0) rfl)];exact hQ hm.ls (by omega)
theorem Ej {w:x2} {g m:Nat} {ai:List Int} {k o:Int} {D:Told} (h:du w g m ai k o D):ah x5 Cb [.pointer (some ⟨g,0,none⟩)] w fun v w'=>v= .int .i64 ai.length∧Ext w w':=by
 refine aq func304 ?_;refine (rf h).mono ?_;rintro v E _ ⟨J,O,_,hm⟩;rw[aI al.u hm.ls];exact⟨rfl,J⟩
end Go.Proofs.YtgbkinibgjmodaaGreatDoor
namespace Go.Vc
open Go Go.RowKit
set_option maxRecDepth 100000
def leadsTo (v:x1) (r:Nat):Prop:=∃ a n c,v= .slice (some a) n c∧a.block=r
theorem dp {r:Nat} (h:leadsTo (.slice none 0 0) r):False:=by
 obtain⟨a,n,c,h,_⟩:=h;cases h
section
variable {α:Type} {f:α→List x1} {k:Nat}
theorem fX:∀ {L:List α},(∀ a∈L,(f a).length=k)→(L.flatMap f).length=L.length*k
 |[],_=>by simp
 |a::L,h=>by
  rw[W7,r8,h a (.head _),fX fun b E=>h b (.tail _ E),l6,W3];omega
theorem mS:∀ {L:List α} (i:Nat),(∀ a∈L,(f a).length=k)→(L.flatMap f).take (i*k)=(L.take i).flatMap f
 |[],i,_=>by simp
 |a::L,0,_=>by simp
 |a::L,i+1,h=>by
  have E:=h a (.head _);rw[W7,List.take_succ_cons,W7,←mS i fun b J=>h b (.tail _ J),W3,Nat.one_mul,Nat.add_comm,List.take_append,E];congr 1
  ·exact b6 (by omega)
  ·congr 1;omega
theorem oU:∀ {L:List α} (i:Nat),(∀ a∈L,(f a).length=k)→(L.flatMap f).drop (i*k)=(L.drop i).flatMap f
 |[],i,_=>by simp
 |a::L,0,_=>by simp
 |a::L,i+1,h=>by
  have E:=h a (.head _);rw[W7,List.drop_succ_cons,←oU i fun b J=>h b (.tail _ J),W3,Nat.one_mul,Nat.add_comm,List.drop_append,E];rw[List.drop_of_length_le (by omega),List.nil_append];congr 1;omega
theorem oV {L:List α} {i:Nat} {a:α} (h:∀ a∈L,(f a).length=k) (hi:L[i]? =some a) {j:Nat} {v:x1} (E:(f a)[j]? =some v):(L.flatMap f)[i*k+j]? =some v:=by
 have O:=(x3.1 E).1;rw[←List.getElem?_drop,oU i h];have J:=x3.1 hi;rw[Y2 J.1,J.2,W7,Z0 O];exact E
theorem wz {L:List α} {i:Nat} {a:α} (h:∀ a∈L,(f a).length=k) (E:(f a).length=k) (hi:i<L.length):over (L.flatMap f) (i*k) (f a)=(L.set i a).flatMap f:=by
 have O:=fX h;have J:(i+1)*k≤L.length*k:=Y7 _ hi;rw[W3,Nat.one_mul] at J;rw[jD (by omega),E,mS i h,show i*k+k=(i+1)*k by rw[W3,Nat.one_mul],oU (i+1) h,List.set_eq_take_append_cons_drop,if_pos hi,List.flatMap_append,W7,X8]
theorem wA {cs vs:List x1} {o m:Nat} (h1:o+vs.length≤m) (E:m≤cs.length):(over cs o vs).take m=over (cs.take m) o vs:=by
 rw[jD (by omega),jD (by rw[o5];omega),X8,X8,List.take_append,List.take_append,List.take_take,List.take_take,List.drop_take,o5];rw[show min m o=o by omega,show min o m=o by omega,show min o cs.length=o by omega,b6 (l:=vs) (by omega)];congr 3;omega
def aR (f:α→List x1) (k:Nat) (e:u5) (w:x2) (g:Nat) (v:x1) (L:List α):Prop:=br w g e k v L.length (L.flatMap f)∧ ∀ a∈L,(f a).length=k
variable {P:Y3} {w:x2} {e:u5} {g:Nat} {v:x1} {L:List α}
theorem aR.nil (f:α→List x1) (k:Nat) (e:u5) (w:x2) (g:Nat):aR f k e w g (.slice none 0 0) []:=⟨br.nil w g e k,fun a h=>by cases h⟩
theorem aR.leads (h:aR f k e w g v L) {r:Nat} (E:leadsTo v r):r=g∧g<w.heap.size:=by
 obtain⟨_,⟨rfl,_⟩|⟨cap,cs,rfl,J,_⟩⟩:=h.1
 ·exact (dp E).elim
 ·obtain⟨a,n,c,h1,O⟩:=E;cases h1;exact⟨O.symm,J.lt⟩
theorem aR.U {S:Nat→Prop} {w':x2} (h:aR f k e w g v L) (J:af S w w') (E:∀ r,leadsTo v r→¬S r):aR f k e w' g v L:=
 ⟨⟨h.1.1,h.1.2.imp id fun⟨cap,cs,h1,O,V⟩=>⟨cap,cs,h1,O.U J (E g ⟨_,_,_,h1,rfl⟩),V⟩⟩,h.2⟩
theorem aR.ext {w':x2} (h:aR f k e w g v L) (J:Ext w w'):aR f k e w' g v L:=h.U (J.U fun _=>False) fun _ _ h=>h
theorem aR.sl (h:aR f k e w g v L):bG w k v L.length (L.flatMap f):=h.1.sl
theorem aR.le (h:aR f k e w g v L):L.length≤9223372036854775807:=by
 have:=bG.le h.sl;simpa[maxLen] using this
theorem dK {t E:u5} {K:x1→Prop} (J:P.underlying t=some (.slice e)) (h:aR f k e w g v L):O P (Z8 #[t] E #[v]) w K=K (.int .i64 L.length):=by
 obtain⟨_,_,_,_,_,rfl,_⟩:=h.sl;exact fy J
theorem cr {t:u5} {q:r9} {b:Nat} {z:x1} {i:Nat} {y:Int} {K:x1→Prop} (E:y=(i:Int)) (J:P.underlying t=some (.slice e)) (hi:aE P e k b z) (h:aR f k e w g v L) (U:i<L.length):
  O P (j4 t v (.int q y)) w K=K (.pointer (some ⟨g,i*k,none⟩)):=by
 subst E;obtain⟨_,⟨rfl,V⟩|⟨cap,cs,rfl,W,X⟩⟩:=h.1
 ·omega
 ·rw[gj J hi U (fun _=>rfl),V3]
theorem aR.range {i:Nat} {a:α} (h:aR f k e w g v L) (hi:L[i]? =some a):w.rangeAt g (i*k) (f a):=fun j u hu=>by
 have h1:=oV h.2 hi hu;have U:=(x3.1 hi).1;obtain⟨_,⟨rfl,V⟩|⟨cap,cs,rfl,J,_,_,W,O⟩⟩:=h.1
 ·omega
 ·have E:=(x3.1 h1).1;rw[fX h.2] at E;rw[←O,c7 E] at h1;exact J.cell h1
theorem Ek {t:u5} {b:Nat} {z:x1} {i:Nat} {a:α} {K:Unit→x2→Prop} (hi:aE P t k b z) (h:aR f k e w g v L) (E:(f a).length=k) (h1:∀ u∈f a,u.oneCell'=true) (U:i<L.length)
  (X:∀ w',af (fun r=>leadsTo v r) w w'→w'.heap.size=w.heap.size→aR f k e w' g v (L.set i a)→K () w'):aA P (o7 t (.pointer (some ⟨g,i*k,none⟩)) (.agg (f a).toArray)) w K:=by
 have ah:=fX h.2;have Y:(i+1)*k≤L.length*k:=Y7 _ U;rw[W3,Nat.one_mul] at Y;obtain⟨⟨ai,⟨rfl,aj⟩|⟨cap,cs,rfl,Z,V,aa,W,ab⟩⟩,J⟩:=h
 ·omega
 ·have ac:L.length*k≤cs.length:=by rw[W];exact Y7 _ V
  refine ur hi E h1 Z (by omega) fun w' ad ae ag=>X w' (ad.mono fun r _ he=>⟨_,_,_,rfl,he.symm⟩) ae ⟨⟨?_,.inr ⟨cap,_,by simp,ag,by simpa using V,aa,by rw[kk,W],?_⟩⟩,fun b O=>?_⟩
  ·rw[fX (L:=L.set i a) fun b O=>by
    rcases V2 O with h|rfl
    ·exact J b h
    ·exact E]
  ·rw[X4,←wz J E U,←ab,wA (by rw[E];omega) ac]
  ·rcases V2 O with h|rfl
   ·exact J b h
   ·exact E
theorem lH {t:u5} {b:Nat} {z u:x1} {i j:Nat} {a a':α} {K:Unit→x2→Prop} (hi:aE P t 1 b z) (hu:u.cells= #[u]) (h1:u.oneCell'=true) (h:aR f k e w g v L) (J:L[i]? =some a) (ag:f a'=(f a).set j u) (ao:j<k)
  (ab:∀ w',af (fun r=>leadsTo v r) w w'→w'.heap.size=w.heap.size→aR f k e w' g v (L.set i a')→K () w'):aA P (o7 t (.pointer (some ⟨g,i*k+j,none⟩)) u) w K:=by
 have U:=(x3.1 J).1;have ap:=fX h.2;have ac:(i+1)*k≤L.length*k:=Y7 _ U;rw[W3,Nat.one_mul] at ac;have ad:(f a).length=k:=h.2 a (x4 J);have E:(f a').length=k:=by rw[ag,X4];exact ad
 have ae:(L.flatMap f).set (i*k+j) u=(L.set i a').flatMap f:=by
  rw[←wz h.2 E U];refine Y4 fun p=>?_;rw[li _ _ _ (by omega),Y0,E];by_cases V:i*k≤p∧p<i*k+k
  ·rw[if_pos V,ag,Y0];by_cases W:i*k+j=p
   ·rw[if_pos W,if_pos (by omega),if_pos (by omega),if_pos (by omega)]
   ·rw[if_neg W,if_neg (by omega)];obtain⟨y,X⟩:∃ y,(f a)[p-i*k]? =some y:=⟨_,y0 (by omega)⟩;have:=oV h.2 J X;rw[show i*k+(p-i*k)=p by omega] at this;rw[this,X]
  ·rw[if_neg V,if_neg (by omega)]
 obtain⟨⟨aq,⟨rfl,au⟩|⟨cap,cs,rfl,ah,Y,ai,Z,aj⟩⟩,aa⟩:=h
 ·omega
 ·have av:L.length*k≤cs.length:=by rw[Z];exact Y7 _ Y
  refine aZ hi hu h1 ah (by omega) fun w' ak al am=>ab w' (ak.mono fun r _ he=>⟨_,_,_,rfl,he.symm⟩) al ⟨⟨?_,.inr ⟨cap,_,by simp,am,by simpa using Y,ai,by rw[X4,Z],?_⟩⟩,fun b O=>?_⟩
  ·rw[fX (L:=L.set i a') fun b O=>by
    rcases V2 O with h|rfl
    ·exact aa b h
    ·exact E]
  ·rw[X4,←ae,←aj,List.take_set]
  ·rcases V2 O with h|rfl
   ·exact aa b h
   ·exact E
theorem e9 {t ag:u5} {b:Nat} {z x:x1} {a:α} {K:x1→x2→Prop} (W:P.underlying t=some (.slice e)) (hi:aE P e k b z) (ab:z.cells.size=k) (h:aR f k e w g v L) (J:bG w k x 1 (f a)) (h1:∀ u∈f a,u.oneCell'=true)
  (X:(L.length+1)*b≤140737488355328) (ad:L.length+1≤9223372036854775807)
  (ae:∀ E O w',aR f k e w' O E (L++[a])→(∀ r,leadsTo E r→leadsTo v r∨w.heap.size≤r)→af (fun r=>leadsTo v r) w w'→K E w'):aA P (l5 #[t,t] ag #[v,x]) w K:=by
 have ah:(f a).length=k:=by have:=J.1;omega
 have Y:∀ E O w',br w' O e k E (L.length+1) (L.flatMap f++f a)→aR f k e w' O E (L++[a]):=fun E O w' hm=>⟨by simpa using hm,fun b X=>by
  rcases p9.1 X with h'|h'
  ·exact h.2 b h'
  ·rw[p8.1 h'];exact ah⟩
 rcases h.1.2 with⟨ac,ai⟩|⟨cap,cs,ac,aj,_⟩
 ·have hm:br w w.heap.size e k v L.length (L.flatMap f):=⟨h.1.1,.inl ⟨ac,ai⟩⟩;subst ac;refine km W W hi ab hm J h1 (by simpa using X) (by simpa[maxLen] using ad) fun E O w' Z U aa=>ae E O w' (Y _ _ _ U) (fun r V=>.inr ?_) (aa.mono fun r V h=>by omega);have:=((Y _ _ _ U).leads V).1;omega
 ·refine km W W hi ab h.1 J h1 (by simpa using X) (by simpa[maxLen] using ad) fun E O w' Z U aa=>ae E O w' (Y _ _ _ U) (fun r V=>?_) (aa.mono fun r V h=>⟨_,_,_,ac,h.symm⟩);have:=((Y _ _ _ U).leads V).1;rcases Z with Z|Z
  ·exact .inl ⟨_,_,_,ac,by show g=r;omega⟩
  ·exact .inr (by omega)
theorem El {t O:u5} {b:Nat} {z x:x1} {a:α} {K:x1→x2→Prop} (U:P.underlying t=some (.slice e)) (hi:aE P e k b z) (V:z.cells.size=k) (h:aR f k e w g v L) (J:bG w k x 1 (f a)) (h1:∀ a,∀ u∈f a,u.oneCell'=true)
  (W:(L.length+1)*b≤140737488355328) (X:L.length+1≤9223372036854775807)
  (Y:∀ E Z w',aR f k e w' Z E (L++[a])→(∀ r,leadsTo E r→leadsTo v r∨w.heap.size≤r)→af (fun r=>leadsTo v r) w w'→K E w'):aA P (l5 #[t,t] O #[v,x]) w K:=e9 U hi V h J (h1 a) W X Y
theorem eV {t:u5} {b:Nat} {z:x1} {a:α} {x:x1} {K:x1→x2→Prop} (U:P.underlying t=some (.slice e)) (hi:aE P e k b z) (Z:k≤100000) (J:x.cells=(f a).toArray) (O:(f a).length=k)
  (V:∀ v g w',g=w.heap.size→Ext w w'→aR f k e w' g v [a]→K v w'):aA P (j9 t 1 #[(0,x)]) w K:=
 hM U hi (by omega) (cs:=x.cells) (uD (by simp) (by rw[J];simpa using O)) fun g w' W X E=>by
  have E:ad w' g e (f a):=by rw[J] at E;simpa using E
  exact V _ g w' W X ⟨by simpa using br.full (k:=k) (n:=1) E (by omega) (by simp[maxLen]),fun c Y=>by rw[p8.1 Y];exact O⟩
end
end Go.Vc
namespace Go.Proofs.YtgbkinibgjmodaaGreatDoor
open Go Go.Vc Go.RowKit Go.Proofs Go.Proofs.Tryz
set_option maxRecDepth 100000
theorem rg {α:Type}:∀ {l:List α} {j:Nat} {x:α},l[j]? =some x→(x::l.eraseIdx j).Perm l
 |[],j,x,h=>by simp at h
 |a::l,0,x,h=>by simp at h;subst h;exact List.Perm.refl _
 |a::l,j+1,x,h=>by
  simp at h;rw[List.eraseIdx_cons_succ];exact (List.Perm.swap a x _).trans ((rg h).cons a)
theorem wB {α:Type} {l:List α} {j:Nat} (h:j<l.length):(l.eraseIdx j).length+1=l.length:=by
 rw[List.length_eraseIdx,if_pos h];omega
def lI (w:x2) (E:Nat):Nat:=match w.heap[E]? with
 |some (.mapIter (some m) _ seen _)=>(match w.heap[m]? with
  |some (.map J _)=>(leftOf J seen).size
  |_=>0)
 |_=>0
theorem oW {w:x2} {E m:Nat} {d left:List (x1×x1)} {J:Option (x1×x1)} (h:fo w E m d left J):lI w E=left.length:=by
 obtain⟨U,V,seen,W,h1,_,_,O,_,rfl,_⟩:=h;unfold lI;rw[O];simp only;rw[h1];simp
theorem Em {w w' w0:x2} {E m:Nat} {d d0 left:List (x1×x1)} {J:Option (x1×x1)} (h:fo w E m d left J) (hm:cg w0 m d0) (h1:Ext w0 w) (V:Ext w0 w') (hi:ej w w'):fo w' E m d left J:=by
 obtain⟨W,c,s,X,Y,Z,aa,ab,ac⟩:=h;obtain⟨ad,ae,f1,_⟩:=hm;have O:=h1.aW m _ f1 rfl;have U:=V.aW m _ f1 rfl;rw[Y] at O;rw[←O] at U;exact⟨W,c,s,X,U,Z,aa,hi E _ ab rfl,ac⟩
abbrev kC (w:x2) (g:Nat) (v:x1) (L:List (List Int)):Prop:=aR (ints .i8) 6 bO w g v L
theorem wC {k:r9} {l:List Int}:∀ u∈ints k l,u.oneCell'=true:=fun u hu=>by
 obtain⟨x,_,rfl⟩:=o6.1 hu;rfl
set_option maxHeartbeats 800000 in
theorem keysIter {ae m:Nat} {d:List (x1×x1)} {KS:List (List Int)} {w0:x2} (ax:ad w0 ae gi [.map (some m)]) (hm:cg w0 m d) (ay:d.map (·.1)=KS.map c0) (az:∀ ks∈KS,ks.length=6):
  me x5 true iW [.pointer (some ⟨ae,0,none⟩)] ([]:List (List Int)) (fun h=>h.Perm KS) (fun h vs h' _=>∃ ks∈KS,h.length<KS.length∧vs=[c0 ks]∧h'=h++[ks]) (fun w=>Ext w0 w):=by
 refine⟨iW.enters,fun l aB bb w W _ aC J aD=>?_⟩;refine n8 func299 ?_;rw[V (by kernel_rfl) ((ax.ext J).cell (o:=0) rfl)];refine aA.cR (wh gi.u (hm.ext J) fun af bc aE X bd aF aG=>?_);refine⟨fun E=>∃ h O left ag,aB h E∧Ext w0 E∧w.heap.size≤E.heap.size∧fo E af m d left ag∧left.map (·.1)=O.map c0∧(h++O).Perm KS,fun E=>lI E af,
  ⟨[],KS,d,none,W _ _ _ X aG.b aD,J.trans X,X.size,aF,ay,List.Perm.refl _⟩,?_⟩
 rintro E ⟨h,O,left,ag,ah,aH,be,ai,Y,U⟩;have aI:left.length=O.length:=by have:=congrArg X7 Y;simpa using this
 refine wj ai (fun h=>by cases h) (fun aJ=>?_) (fun j p aK aj ak aL al=>?_)
 ·rw[av (v:=.bool false) rfl,aP];subst aJ;have:O=[]:=o8 (by rw[←aI];rfl);subst this;rw[V4] at U;exact .inl ⟨h,U,ah⟩
 ·rw[av (v:=.bool true) rfl,bh];refine wk al ?_;obtain⟨ks,Z,aM⟩:∃ ks,O[j]? =some ks∧p.1=c0 ks:=by
   have h1:(left.map (·.1))[j]? =some p.1:=by rw[x6,aj];rfl
   rw[Y,x6] at h1;obtain⟨ks,am,aN⟩:=b8.1 h1;exact⟨ks,am,aN.symm⟩
  have ao:ks∈KS:=U.mem_iff.1 (p9.2 (.inr (x4 Z)));have ap:=az ks ao;rw[av (v:=p.1) rfl,aM];refine aA.cR (bi bO.i fun aO bf bg aQ aR aS=>?_);refine aA.cR (mO ap rfl aR fun aa aT bj aU aV=>?_);rw[kB ap aU.range];have ab:Ext aK aa:=aQ.then aT (fun r bk he=>by have he:r=aO:=he;omega);have aq:=aS.trans aV;have au:Ext w0 aa:=(aH.trans ak).trans ab;have aW:=W _ _ _ ak (by rw[←aE];exact aL) ah;have aX:=W _ _ _ ab aq.b aW;have aY:=al.ext ab aq.j0;have aZ:h.length<KS.length:=by
   have h1:=U.length_eq;have am:=(x3.1 Z).1;rw[r8] at h1;omega
  refine⟨rfl,(aC h (h++[ks]) _ aa au ⟨ks,ao,aZ,rfl,rfl⟩ aX).mono ?_⟩;rintro _ a1 (⟨rfl,aw,a2,a6⟩|⟨rfl,a7⟩)
  ·simp only[bJ,Z3,aP];have ac:=Em aY hm au aw (a6 rfl);have a8:w.heap.size≤a1.heap.size:=by
    obtain⟨_,_,_,_,_,_,_,ba,_⟩:=ac;have:=(o4.1 ba).1;omega
   refine⟨⟨h++[ks],O.eraseIdx j,left.eraseIdx j,some p,a2,aw,a8,ac,?_,?_⟩,?_⟩
   ·rw[←jO,Y,jO]
   ·refine List.Perm.trans ?_ U;rw[X8];exact List.Perm.append_left h (rg Z)
   ·rw[oW ac,oW ai];have:=wB (x3.1 aj).1;omega
  ·simp only[bJ,Y8,bh];exact .inr ⟨h,a7⟩
theorem En {w:x2} {m:Nat}:ah x5 BT [.map (some m)] w fun r w'=>Ext w w'∧ ∃ g,r= .func (.func iW) #[] #[.pointer (some ⟨g,0,none⟩)]∧w.heap.size≤g∧ad w' g gi [.map (some m)]:=by
 refine aq func267 ?_;refine a7 fun g O U E J=>?_;rw[hL];exact⟨E,g,rfl,by omega,J⟩
set_option maxHeartbeats 800000 in
theorem Eo {ai m:Nat} {d:List (x1×x1)} {KS:List (List Int)} {w:x2} (aC:ad w ai gi [.map (some m)]) (hm:cg w m d) (aD:d.map (·.1)=KS.map c0) (aj:∀ ks∈KS,ks.length=6) (a8:KS.length≤1000000):
  ah x5 Cd [.slice none 0 0,.func (.func iW) #[] #[.pointer (some ⟨ai,0,none⟩)]] w fun v w'=>Ext w w'∧ ∃ g L,(∀ r,leadsTo v r→w.heap.size≤r)∧L.Perm KS∧kC w' g v L:=by
 refine jB func310 ?_;refine a7 fun gs aE ba ak X=>?_;have X:ad aE gs gK [.slice none 0 0]:=X;have bb:=X.lt;refine⟨List (List Int),true,_,_,_,_,_,_,fun h w'=>af (fun r=>w.heap.size≤r) w w'∧ ∃ v g,ad w' gs gK [v]∧(∀ r,leadsTo v r→w.heap.size≤r∧r≠gs)∧kC w' g v h,fun _ _ _=>False,rfl,keysIter aC hm aD aj,?_,fun _ _ J h=>h.trans J,
  fun _ _ _ J h=>⟨h.1.trans (J.U _),by obtain⟨v,g,h1,aF,aG⟩:=h.2;exact⟨v,g,h1.ext J,aF,aG.ext J⟩⟩,fun _ _ _ _ _ h=>h,ak,⟨ak.U _,_,0,X,fun r h=>(dp h).elim,aR.nil _ _ _ _ _⟩,?_,?_,fun _ _ h=>h.elim,fun _ _ _ h=>h.elim⟩
 ·rintro h _ h' w' ⟨ks,_,_,rfl,_⟩;rfl
 ·rintro a h h' al aH ⟨ks,aI,bc,aJ,rfl⟩ ⟨am,v,g,aa,O,ac⟩;cases aJ;have ab:=aj ks aI;have bd:h.length≤1000000:=by omega
  refine aA.cR (bi bO.i fun aK be bf aL ao aM=>?_);refine aA.cR (mO ab rfl ao fun aN aO bg aP aQ=>?_);intro bh ap _ aS;have bj:=ao.lt;have aT:Ext al aN:=aL.then aO (fun r E he=>by have he:r=aK:=he;omega);have W:=aT.trans ap;rw[V (by kernel_rfl) ((aa.ext W).cell (o:=0) rfl),kB ab (aP.ext ap).range];refine aA.cR (eV (f:=ints .i8) (a:=ks) gK.u bO.i (by omega) (by simp[c0,x1.cells]) (by simp[ab]) fun a bk bl bm Y aU aV=>?_);have aq:=aU.sl;rw[W7,List.flatMap_nil,V4] at aq;refine aA.cR (El gK.u bO.i rfl ((ac.ext W).ext Y) aq (fun a=>wC) (by omega) (by omega) fun au aW av ae aX Z aY=>?_);have bn:=am.size;have bo:=W.size;have bp:=Y.size;have bq:=aa.lt;have aw:∀ r,leadsTo au r→w.heap.size≤r∧r≠gs:=fun r E=>by
   rcases aX r E with h|h
   ·exact O r h
   ·omega
  have ag:ad av gs gK [v]:=((aa.ext W).ext Y).U Z (fun h=>(O gs h).2 rfl);refine aA.cR (aZ gK.i (by obtain⟨_,_,_,_,_,rfl,_⟩:=ae.sl;rfl) (by obtain⟨_,_,_,_,_,rfl,_⟩:=ae.sl;rfl) ag (by simp) fun ax ay br a1 a2=>?_);have az:af (fun r=>w.heap.size≤r) al ax:=(((W.trans Y).U _).trans (Z.mono fun r _ h=>(O r h).1)).trans (ay.mono fun r _ h=>by show w.heap.size≤r;omega);refine⟨aH.then az (fun r E h=>by have h:w.heap.size≤r:=h;omega),⟨am.trans az,au,aW,a1,aw,ae.U ay fun r E h=>(aw r E).2 h⟩,fun _=>?_⟩;exact ((((aM.j0.trans aQ.j0).trans aS).trans aV.j0).trans aY.j0).trans a2.j0
 ·rintro h av a6 ⟨Z,v,g,ag,O,ac⟩;rw[V (by kernel_rfl) (ag.cell (o:=0) rfl)];intro ax aB _;exact⟨(Z.ext fun r E h=>by have:w.heap.size≤r:=h;omega).trans aB,g,h,fun r E=>(O r E).1,a6,ac.ext aB⟩
theorem Ep {E m:Nat} {d:List (x1×x1)} {KS:List (List Int)} {w:x2} (J:ad w E gi [.map (some m)]) (hm:cg w m d) (O:d.map (·.1)=KS.map c0) (U:∀ ks∈KS,ks.length=6) (V:KS.length≤1000000):
  ah x5 B6 [.func (.func iW) #[] #[.pointer (some ⟨E,0,none⟩)]] w fun v w'=>Ext w w'∧ ∃ g L,(∀ r,leadsTo v r→w.heap.size≤r)∧L.Perm KS∧kC w' g v L:=by
 refine aq func297 ?_;exact (Eo J hm O U V).mono fun _ _ _ h=>h
def eM:List Int→Int
 |[]=>0
 |x::l=>x*32 ^ l.length+eM l
theorem rh (n:Nat):(0:Int)<32 ^ n:=Int.pow_pos (by omega)
theorem oX:∀ (l:List Int),(∀ x∈l,0≤x∧x<32)→0≤eM l∧eM l<32 ^ l.length
 |[],_=>by simp[eM]
 |x::l,h=>by
  have O:=oX l fun y E=>h y (.tail _ E);have J:=h x (.head _);have U:=rh l.length;simp only[eM,l6];have e:(32:Int) ^ (l.length+1)=32*32 ^ l.length:=by rw[Int.pow_succ,Int.mul_comm]
  have h1:x*32 ^ l.length≤31*32 ^ l.length:=Int.mul_le_mul_of_nonneg_right (by omega) (by omega);have V:0≤x*32 ^ l.length:=Int.mul_nonneg J.1 (by omega);rw[e];omega
def fY:List Int→List Int→Int
 |x::a,y::b=>if x<y then-1 else if y<x then 1 else fY a b
 |_,_=>0
theorem wD:∀ (a b:List Int),a.length=b.length→(∀ x∈a,0≤x∧x<32)→(∀ x∈b,0≤x∧x<32)→(fY a b<0↔eM a<eM b)∧(eM a=eM b→a=b)
 |[],[],_,_,_=>by simp[fY]
 |[],_::_,h,_,_=>by simp at h
 |_::_,[],h,_,_=>by simp at h
 |x::a,y::b,h,X,Y=>by
  have O:a.length=b.length:=by simpa using h
  have U:∀ x∈a,0≤x∧x<32:=fun z E=>X z (.tail _ E);have V:∀ x∈b,0≤x∧x<32:=fun z E=>Y z (.tail _ E);have W:=wD a b O U V;have Z:=oX a U;have ab:=oX b V;have ac:=rh b.length;simp only[fY,eM];rw[O] at Z ⊢;have step:∀ u v:Int,u<v→u*32 ^ b.length+32 ^ b.length≤v*32 ^ b.length:=fun u v ad=>by
   have:=Int.mul_le_mul_of_nonneg_right (show u+1≤v by omega) (show (0:Int)≤32 ^ b.length by omega);rw[Int.add_mul,Int.one_mul] at this;exact this
  by_cases h1:x<y
  ·rw[if_pos h1];have:=step x y h1;exact⟨⟨fun _=>by omega,fun _=>by omega⟩,fun h=>by omega⟩
  ·rw[if_neg h1];by_cases J:y<x
   ·rw[if_pos J];have:=step y x J;exact⟨⟨fun h=>by omega,fun h=>by omega⟩,fun h=>by omega⟩
   ·rw[if_neg J];have aa:x=y:=by omega
    subst aa;exact⟨W.1.trans ⟨fun h=>by omega,fun h=>by omega⟩,fun h=>by rw[W.2 (by omega)]⟩
theorem ri:∀ {a b:List Int} {i:Nat},(∀ (j:Nat) (x y:Int),j<i→a[j]? =some x→b[j]? =some y→x=y)→i≤a.length→i≤b.length→fY a b=fY (a.drop i) (b.drop i)
 |_,_,0,_,_,_=>by simp
 |[],_,i+1,_,h,_=>by simp at h
 |_::_,[],i+1,_,_,h=>by simp at h
 |x::a,y::b,i+1,he,h1,E=>by
  have J:=he 0 x y (by omega) rfl rfl;subst J;simp only[fY,Int.lt_irrefl,if_false,List.drop_succ_cons];exact ri (fun j u v O hu ac=>he (j+1) u v (by omega) hu ac) (by simpa using h1) (by simpa using E)
theorem wE {x:Int} {w:x2}:ah x5 Cc [.int .i8 x] w fun v w'=>v= .bool false∧Ext w w':=by
 refine aq func309 ?_;simp only[be];exact⟨by simp,Ext.refl _⟩
theorem Er {x y:Int} {w:x2}:ah x5 B5 [.int .i8 x,.int .i8 y] w fun v w'=>v= .int .i64 (if x<y then-1 else if y<x then 1 else 0)∧Ext w w':=by
 refine aq func296 ?_;refine wE.mono ?_;rintro _ U _ ⟨rfl,E⟩;refine wE.mono ?_;rintro _ V _ ⟨rfl,J⟩;simp only[aP,ao,bA,aa];exact⟨fun h=>⟨by rw[if_pos h],E.trans J⟩,fun h=>⟨fun O=>⟨by rw[if_neg h,if_pos O],E.trans J⟩,fun O=>⟨by rw[if_neg h,if_neg O],E.trans J⟩⟩⟩
theorem Es {ad bv:x1} {a b:List Int} {w:x2} (V:aC .i8 w ad a) (X:aC .i8 w bv b) (ax:a.length=b.length):ah x5 BR [ad,bv] w fun v w'=>v= .int .i64 (fY a b)∧Ext w w':=by
 refine aq func265 ?_;have ay:=V.le;rw[aI ik.u V];refine bM.range a.length (fun i _ Y=>Ext w Y∧ ∀ (j:Nat) (x y:Int),j<i→a[j]? =some x→b[j]? =some y→x=y) (by omega) ⟨Ext.refl _,fun j x y ai=>by omega⟩ ?_ ?_
 ·rintro i _ Y aj hi ⟨E,W⟩ ak;simp only[ao,aa];refine⟨fun _=>?_,fun h=>by omega⟩;obtain⟨x,J⟩:∃ x,a[i]? =some x:=⟨_,y0 hi⟩;obtain⟨y,Z⟩:∃ y,b[i]? =some y:=⟨_,y0 (by omega)⟩;rw[a1 ik.u en.i (by kernel_rfl) (V.ext E) J,aI ik.u (X.ext E)];simp only[ca,aa];refine⟨fun h=>by omega,fun _=>?_⟩;rw[a1 ik.u en.i (by kernel_rfl) (X.ext E) Z];refine Er.mono ?_;rintro _ az _ ⟨rfl,ae⟩;have O:fY a b=fY (a.drop i) (b.drop i):=ri W (by omega) (by omega);have al:a.drop i=x::a.drop (i+1):=by rw[Y2 hi,(x3.1 J).2]
  have am:b.drop i=y::b.drop (i+1):=by rw[Y2 (by omega),(x3.1 Z).2]
  rw[al,am] at O;simp only[fY] at O;simp only[be,aa,aF];refine⟨fun af=>⟨?_,E.trans ae⟩,fun ap=>ak _ _ ⟨E.trans ae,fun j au av ai ab ac=>?_⟩⟩
  ·rw[O];by_cases h1:x<y
   ·rw[if_pos h1,if_pos h1]
   ·by_cases U:y<x
    ·rw[if_neg h1,if_pos U,if_neg h1,if_pos U]
    ·rw[if_neg h1,if_neg U] at af;exact absurd rfl af
  ·by_cases aw:j=i
   ·subst aw;rw[J] at ab;rw[Z] at ac;cases ab;cases ac;have ag:=Z7.1 ap;by_cases h1:x<y
    ·rw[if_pos h1] at ag;omega
    ·by_cases U:y<x
     ·rw[if_neg h1,if_pos U] at ag;omega
     ·omega
   ·exact W j au av (by omega) ab ac
 ·rintro _ Y aj ⟨E,W⟩;simp only[ao,show decide ((a.length:Int)<(a.length:Int))=false from decide_eq_false (by omega),aP];rw[aI ik.u (V.ext E),aI ik.u (X.ext E)];simp only[ao,aa];refine⟨fun h=>by omega,fun _=>⟨?_,E⟩⟩;have O:fY a b=fY (a.drop a.length) (b.drop a.length):=ri W (by omega) (by omega);rw[O,List.drop_length];cases b.drop a.length <;> rfl
theorem Et {a b:List Int} {w:x2} (U:iw a) (V:iw b):ah x5 ue [c0 a,c0 b] w fun v w'=>Ext w w'∧v= .int .i64 (fY a b):=by
 have ac:∀ {c:List Int},iw c→(ints .i8 c).length=6:=fun h=>by simp[h.1]
 refine aq func264 ?_;refine a7 fun ae af ag Z E=>?_;refine a7 fun ai aj ak W J=>?_;rw[wm] at E J;intro X O _ _;have E:=(E.ext W).ext O;have J:=J.ext O;rw[oe bO.u en.i (l:=0) (h:=6) (m:=6) hc hd eb (by omega) (by omega) (by omega),oe bO.u en.i (l:=0) (h:=6) (m:=6) hc hd eb (by omega) (by omega) (by omega)];rw[if_neg (by omega),if_neg (by omega)];have ls:∀ {g:Nat} {c:List Int},iw c→ad X g bO (ints .i8 c)→aC .i8 X (.slice (some ⟨g,0+0*1,none⟩) (6-0) (6-0)) c:=fun {g c} Y aa=>by
  unfold aC;refine⟨by simp,g,0,_,6,by rw[Y.1],by rw[Y.1];omega,by simp[maxLen],fun _=>rfl,aa.range⟩
 refine (Es (ls U E) (ls V J) (by rw[U.1,V.1])).mono ?_;rintro _ al _ ⟨rfl,ab⟩;exact⟨((Z.trans W).trans O).trans ab,rfl⟩
end Go.Proofs.YtgbkinibgjmodaaGreatDoor
namespace Go.Vc
open Go Go.RowKit Go.Shelf Go.Proofs Go.Sort
theorem grown_of {w w':x2} (J:Ext w w') (E:cA w w'):∃ q os,w'=grow (w.drewN q) os:=by
 refine⟨w'.drawn-w.drawn,w'.heap.extract w.heap.size w'.heap.size,?_⟩;have O:∀ k,k<w.heap.size→w'.heap[k]? =w.heap[k]?:=fun k O=>by
  have U:w.heap[k]? =some w.heap[k]:=Array.getElem?_eq_getElem O;rw[U];cases V:fJ w.heap[k] with
  |true=>exact J.aW k _ U V
  |false=>exact E.aW k _ U V
 have X:w'.heap=w.heap++w'.heap.extract w.heap.size w'.heap.size:=by
  apply Array.ext_getElem?;intro k;rw[Array.getElem?_append];by_cases h:k<w.heap.size
  ·rw[if_pos h,O k h]
  ·rw[if_neg h,Array.getElem?_extract];have:=J.size;by_cases W:k<w'.heap.size
   ·rw[if_pos (by omega)];congr 1;omega
   ·rw[if_neg (by omega),Array.getElem?_eq_none (by omega)]
 have h1:=E.os;have W:=E.tape.1;have Y:=E.output;have Z:w.drawn+(w'.drawn-w.drawn)=w'.drawn:=by have:=E.tape.2;omega
 cases w';simp only[grow,x2.drewN] at*;subst h1 W Y;rw[←X,Z]
section
variable {α:Type} [Inhabited α]
theorem wF (enc:α→List x1) (k:Nat) (E:∀ x,(enc x).length=k) (d:Array α):(flatK enc k d).toList=d.toList.flatMap enc:=by
 apply Y4;intro t;by_cases h:t<d.size*k
 ·have O:0<k:=by
   rcases Nat.eq_zero_or_pos k with J|J
   ·rw[J] at h;simp at h
   ·exact J
  have U:t / k<d.size:=(Nat.div_lt_iff_lt_mul O).2 h;have V:=Nat.mod_lt t O;have W:(flatK enc k d).toList[t]? =some ((enc d[t / k]!)[t % k]!):=by
   rw[V9,Array.getElem?_eq_getElem (by simpa using h)];have:=get_flatK enc k d t h;rw[getElem!_pos _ t (by simpa using h)] at this;rw[this]
  have X:d.toList[t / k]? =some d[t / k]!:=by
   rw[V9,Array.getElem?_eq_getElem U,getElem!_pos d _ U]
  have ac:(enc d[t / k]!)[t % k]? =some ((enc d[t / k]!)[t % k]!):=by
   generalize d[t / k]! =z;rw[y0 (by rw[E];exact V),getElem!_pos (enc z) _ (by rw[E];exact V)]
  have:=oV (f:=enc) (k:=k) (fun a _=>E a) X ac;rw[W,←this];congr 1;rw[Nat.mul_comm];exact Nat.div_add_mod t k
 ·rw[c6 (by simpa using h),c6];rw[fX (k:=k) fun a _=>E a];simpa using h
theorem wG (enc:α→List x1) (k:Nat) (V:∀ x,(enc x).length=k) {w:x2} {g m:Nat} {e:u5} {cs:List x1} {d:Array α} {os:Array Obj} (J:ad w g e cs) (Z:d.size*k≤cs.length):
  ad (sortWorldK enc k w g 0 m d os) g e (d.toList.flatMap enc++cs.drop (d.size*k))∧ ∀ r,r<w.heap.size→r≠g→(sortWorldK enc k w g 0 m d os).heap[r]? =w.heap[r]?:=by
 have X:=J.lt;have W:∀ r,r<w.heap.size→(sortWorldK enc k w g 0 m d os).heap[r]? =(w.heap.modify g (onCells (putCells id 0 (flatK enc k d))))[r]?:=fun r O=>by
  show ((w.heap.modify g (onCells (putCells id 0 (flatK enc k d))))++os)[r]? =_;rw[Array.getElem?_append_left (by simpa using O)]
 refine⟨?_,fun r O Y=>?_⟩
 ·unfold ad at J ⊢;rw[W g X,Array.getElem?_modify,if_pos rfl,J];show some (Obj.cells (putCells id 0 (flatK enc k d) cs.toArray) e (0,0))=_;refine congrArg some (congrArg (fun c=>Obj.cells c e (0,0)) ?_);apply Array.ext';apply Y4;intro t;show _=(d.toList.flatMap enc++cs.drop (d.size*k))[t]?;rw[List.getElem?_append,fX (k:=k) fun a _=>V a,V9];unfold putCells;rw[Array.getElem?_mapIdx,List.getElem?_toArray];have U:d.toList.length=d.size:=rfl;by_cases E:t<d.size*k
  ·rw[if_pos (by rw[U];exact E),y0 (by omega),←wF enc k V,V9,Array.getElem?_eq_getElem (by simpa using E)];simp only[j6,id];rw[if_pos (by simpa using E),Nat.sub_zero,getElem!_pos _ t (by simpa using E)]
  ·rw[if_neg (by rw[U];exact E),List.getElem?_drop,U,show d.size*k+(t-d.size*k)=t by omega];cases aa:cs[t]? with
   |none=>rfl
   |some x=>
    simp only[j6];rw[if_neg (by simp;omega)]
 ·rw[W r O,Array.getElem?_modify,if_neg (Ne.symm Y)]
end
theorem wH {P:Y3} {V:Ren} (am:SlLaysF0.n6 P V) {α:Type} {f:α→List x1} {k:Nat} {e:u5} {G:α→Prop} {num:α→Int} {cf:α→α→Int} {W:FuncId} {cap:Array x1}
  (aQ:∀ w,(isAgg (V.t 24)).run P w= .ok true w) (aS:∀ w,(Go.sizeOf (V.t 24)).run P w= .ok k w) (h1:∀ a,G a→ ∀ u∈f a,u.oneCell'=true) (ao:∀ a,G a→(f a).length=k)
  (aT:∀ a b,G a→G b→(cf a b<0↔num a<num b)) (aA:Enters P W) {w:x2} {g:Nat} {v:x1} {L:List α} (h:aR f k e w g v L) (Y:∀ a∈L,G a) (aB:L.length<65536)
  (aU:∀ ap a b,af (fun r=>r=g) w ap→G a→G b→ah P W ([.agg (f a).toArray,.agg (f b).toArray]++cap.toList) ap fun u aV=>Ext ap aV∧u= .int .i64 (cf a b)):
  ah P (V.f 6) [v,.func (.func W) #[] cap] w fun _ w'=>af (fun r=>leadsTo v r) w w'∧ ∃ M,M.Perm L∧(∀ (p q:Nat) (x y:α),p<q→M[p]? =some x→M[q]? =some y→num x≤num y)∧aR f k e w' g v M:=by
 have aC:Enters P (V.f 6):=fun args w=>am.f6.enters rfl args w;obtain⟨⟨bi,ac⟩,bj⟩:=id h;have aD:∀ p c,v= .slice p 0 c→L=[]→ah P (V.f 6) [v,.func (.func W) #[] cap] w fun _ w'=>af (fun r=>leadsTo v r) w w'∧ ∃ M,M.Perm L∧(∀ (p q:Nat) (x y:α),p<q→M[p]? =some x→M[q]? =some y→num x≤num y)∧aR f k e w' g v M:=fun p c Z aB=>by
  refine .code aC ?_;rw[Z];refine (AnyF.slices_SortFunc_none am p c _ w).mono ?_;rintro bk w' ⟨rfl,rfl⟩;refine⟨_,rfl,cA.refl _,af.refl _ _,L,.refl _,fun p q x y _ J=>by rw[aB] at J;simp at J,by rw[←Z];exact h⟩
 rcases ac with⟨rfl,aW⟩|⟨c,cs,rfl,U,aE,hm,aq,aX⟩
 ·exact aD _ _ rfl (o8 aW)
 cases au:L with
 |nil=>subst au;exact aD _ _ rfl rfl
 |cons a0 bl=>
 rw[←au];let β:={a:α // G a};have:Inhabited β:=⟨⟨a0,Y a0 (by rw[au];exact .head _)⟩⟩;let enc:β→List x1:=fun x=>f x.1;let d:Array β:=(L.attach.map fun x=>(⟨x.1,Y x.1 x.2⟩:β)).toArray;have aF:d.toList.map Subtype.val=L:=by
  show (L.attach.map fun x=>(⟨x.1,Y x.1 x.2⟩:β)).map Subtype.val=L;rw[List.map_map];exact List.attach_map_subtype_val L
 have ag:d.size=L.length:=by simp[d]
 have X:∀ x:β,(enc x).length=k:=fun x=>ao x.1 x.2;have aY:d.toList.flatMap enc=L.flatMap f:=by
  have aa:=congrArg (fun l=>l.flatMap f) aF;rw[←aa];exact (List.flatMap_map Subtype.val f d.toList).symm
 have ai:d.size*k≤cs.length:=by rw[ag,aq];exact Y7 k aE
 have aZ:HoldsK enc k w g 0 d:=by
  intro j aj;rw[size_flatK] at aj;have aG:j<cs.length:=by omega
  have av:(flatK enc k d)[j]! =cs[j]:=by
   have aa:(flatK enc k d).toList[j]? =some cs[j]:=by
    rw[wF enc k X,aY,←aX,c7 (by rw[←ag];exact aj),y0 aG]
   rw[V9] at aa;rw[getElem!_pos _ j (by simpa using aj)];rw[Array.getElem?_eq_getElem (by simpa using aj)] at aa;exact j5 aa
  refine⟨?_,?_⟩
  ·show w.cell? ⟨g,0+j,none⟩=some ((flatK enc k d)[j]!);rw[av];exact U.cell (o:=0+j) (by rw[V3];exact y0 aG)
  ·unfold x2.frozen?;unfold ad at U;rw[U];simp
 have ak:∀ x y:β,ltOf (fun x y:β=>cf x.1 y.1) x y=decide (num x.1<num y.1):=fun x y=>by
  unfold ltOf;exact decide_eq_decide.2 (aT x.1 y.1 x.2 y.2)
 have a1:SWO (ltOf fun x y:β=>cf x.1 y.1):=
  ⟨fun x=>by rw[ak];simp,fun x y z p q=>by rw[ak] at*;simp at*;omega,fun x y z p q=>by rw[ak] at*;simp at*;omega⟩
 have aH:∀ m (d2:Array β) os,d2.size=d.size→af (fun r=>r=g) w (sortWorldK enc k w g 0 m d2 os)∧cA w (sortWorldK enc k w g 0 m d2 os):=fun m d2 os ab=>by
  obtain⟨bm,aI⟩:=wG enc k X (m:=m) (os:=os) U (d:=d2) (by rw[ab];exact ai);have aJ:w.heap.size≤(sortWorldK enc k w g 0 m d2 os).heap.size:=by
   show w.heap.size≤((w.heap.modify g _)++os).size;simp
  refine⟨⟨aJ,fun r o O _ aw=>?_⟩,rfl,⟨rfl,Nat.le_add_right _ _⟩,rfl,aJ,fun r o O ab=>?_⟩
  ·rw[aI r (o4.1 O).1 aw];exact O
  ·have aw:r≠g:=fun he=>by subst he;unfold ad at U;rw[U] at O;cases O;cases ab
   rw[aI r (o4.1 O).1 aw];exact O
 have a2:CmpLays P W cap enc k (fun x y:β=>cf x.1 y.1) g 0 d.size w:=fun m os a6 ab x y=>by
  have J:=(aU _ x.1 y.1 (aH m a6 os ab).1 x.2 y.2).calls aA;have ae:([x1.agg (f x.1).toArray,.agg (f y.1).toArray]++cap.toList).toArray= #[.agg (enc x).toArray,.agg (enc y).toArray]++cap:=by
   apply Array.ext';simp[enc]
  rw[ae] at J;refine J.mono ?_;rintro _ w' ⟨_,rfl,a7,a8,rfl⟩;exact⟨rfl,grown_of a8 a7⟩
 have aK:=AnyQ.slices_SortFunc am k aQ aS enc X (fun x=>h1 x.1 x.2) (fun x y:β=>cf x.1 y.1) a1 W cap g 0 c d w (fun args w=>aA args w) a2 aZ U.lt (by rw[ag];omega);rw[ag] at aK;refine .code aC (aK.mono ?_);rintro _ w' ⟨rfl,E,n,os,⟨ba,_,Z⟩,bb,rfl⟩;have ax:E.size=d.size:=ba;obtain⟨bc,bd⟩:=aH n E os ax;obtain⟨be,_⟩:=wG enc k X (m:=n) (os:=os) U (d:=E) (by rw[ax];exact ai);have al:(E.toList.map Subtype.val).Perm L:=by
  have av:(E.extract 0 L.length).toList=E.toList:=by rw[show L.length=E.size by omega,Array.extract_size]
  have bf:(d.extract 0 L.length).toList=d.toList:=by rw[show L.length=d.size by omega,Array.extract_size]
  rw[av,bf] at Z;rw[←aF];exact Z.map _
 have aL:=al.length_eq;refine⟨_,rfl,bd,bc.mono fun r _ O=>⟨_,_,_,rfl,O.symm⟩,E.toList.map Subtype.val,al,fun p q x y bg J aM=>?_,⟨?_,.inr ⟨c,_,by rw[aL],be,by rw[aL];exact aE,hm,?_,?_⟩⟩,fun a ae=>ao a (Y a (al.mem_iff.1 ae))⟩
 ·rw[x6,b8] at J aM;obtain⟨bn,aN,rfl⟩:=J;obtain⟨bo,aO,rfl⟩:=aM;rw[V9] at aN aO;have aP:=(o4.1 aN);have ay:=(o4.1 aO);have:=bb p q (Z1 _) bg (by have:=ay.1;omega);rw[getElem!_pos E p aP.1,getElem!_pos E q ay.1,aP.2,ay.2,ak] at this;simpa using this
 ·rw[fX (k:=k) fun a ae=>ao a (Y a (al.mem_iff.1 ae))]
 ·have az:(E.toList.flatMap enc).length=E.size*k:=by rw[fX (k:=k) fun a _=>X a];rfl
  rw[r8,az,List.length_drop,ax,aq];rw[aq] at ai;exact Nat.add_sub_cancel' ai
 ·have az:(E.toList.flatMap enc).length=E.size*k:=by rw[fX (k:=k) fun a _=>X a];rfl
  have bh:(List.map Subtype.val E.toList).length*k=(E.toList.flatMap enc).length:=by rw[az,u7];rfl
  rw[bh,List.take_left,List.flatMap_map]
end Go.Vc
namespace Go.Proofs
open Go.Shelf
def Tryz.rj:Go.Shelf.Ren:=⟨fun|6=>298|15=>181|14=>311|28=>237|29=>238|20=>326|21=>327|22=>328|23=>329|24=>330|25=>331|26=>332|27=>333|46=>341|47=>273|48=>274|49=>342|50=>343|57=>346|n=>n,fun|22=>365|24=>347|25=>364|3=>3|39=>278|0=>0|53=>340|55=>39|4=>4|46=>333|45=>332|50=>337|5=>5|9=>9|66=>375|70=>379|76=>400|77=>401|n=>n,fun|n=>n⟩
theorem Tryz.Eu:Go.Proofs.SlLaysF0.n6 Tryz.prog Tryz.rj:={
 mixed:=by kernel_rfl,
 f6:=⟨Tryz.f298.name,by decide,Tryz.func298.trans (congrArg some (by kernel_rfl))⟩,
 f14:=⟨Tryz.f311.name,by decide,Tryz.func311.trans (congrArg some (by kernel_rfl))⟩,
 f15:=Tryz.func181.trans (congrArg some (by kernel_rfl)),
 f20:=⟨Tryz.f326.name,by decide,Tryz.func326.trans (congrArg some (by kernel_rfl))⟩,
 f21:=⟨Tryz.f327.name,by decide,Tryz.func327.trans (congrArg some (by kernel_rfl))⟩,
 f22:=⟨Tryz.f328.name,by decide,Tryz.func328.trans (congrArg some (by kernel_rfl))⟩,
 f23:=⟨Tryz.f329.name,by decide,Tryz.func329.trans (congrArg some (by kernel_rfl))⟩,
 f24:=⟨Tryz.f330.name,by decide,Tryz.func330.trans (congrArg some (by kernel_rfl))⟩,
 f25:=⟨Tryz.f331.name,by decide,Tryz.func331.trans (congrArg some (by kernel_rfl))⟩,
 f26:=⟨Tryz.f332.name,by decide,Tryz.func332.trans (congrArg some (by kernel_rfl))⟩,
 f27:=⟨Tryz.f333.name,by decide,Tryz.func333.trans (congrArg some (by kernel_rfl))⟩,
 f28:=Tryz.func237.trans (congrArg some (by kernel_rfl)),
 f29:=Tryz.func238.trans (congrArg some (by kernel_rfl)),
 f46:=⟨Tryz.f341.name,by decide,Tryz.func341.trans (congrArg some (by kernel_rfl))⟩,
 f47:=Tryz.func273.trans (congrArg some (by kernel_rfl)),
 f48:=Tryz.func274.trans (congrArg some (by kernel_rfl)),
 f49:=⟨Tryz.f342.name,by decide,Tryz.func342.trans (congrArg some (by kernel_rfl))⟩,
 f50:=⟨Tryz.f343.name,by decide,Tryz.func343.trans (congrArg some (by kernel_rfl))⟩,
 f57:=⟨Tryz.f346.name,by decide,Tryz.func346.trans (congrArg some (by kernel_rfl))⟩,
 t0:=Tryz.underlying0,
 a0:=Tryz.isAgg0,
 z0:=Tryz.sizeOf0,
 v0:=Tryz.zeroValue0,
 t3:=Tryz.underlying3,
 a3:=Tryz.isAgg3,
 z3:=Tryz.sizeOf3,
 v3:=Tryz.zeroValue3,
 t4:=Tryz.underlying4,
 a4:=Tryz.isAgg4,
 z4:=Tryz.sizeOf4,
 v4:=Tryz.zeroValue4,
 t5:=Tryz.underlying5,
 a5:=Tryz.isAgg5,
 z5:=Tryz.sizeOf5,
 v5:=Tryz.zeroValue5,
 t9:=Tryz.underlying9,
 a9:=Tryz.isAgg9,
 z9:=Tryz.sizeOf9,
 v9:=Tryz.zeroValue9,
 t22:=Tryz.underlying365,
 a22:=Tryz.isAgg365,
 z22:=Tryz.sizeOf365,
 v22:=Tryz.zeroValue365,
 t25:=Tryz.underlying364,
 a25:=Tryz.isAgg364,
 z25:=Tryz.sizeOf364,
 v25:=Tryz.zeroValue364,
 t39:=Tryz.underlying278,
 a39:=Tryz.isAgg278,
 z39:=Tryz.sizeOf278,
 v39:=Tryz.zeroValue278,
 t45:=Tryz.underlying332,
 a45:=Tryz.isAgg332,
 z45:=Tryz.sizeOf332,
 v45:=Tryz.zeroValue332,
 t46:=Tryz.underlying333,
 a46:=Tryz.isAgg333,
 z46:=Tryz.sizeOf333,
 v46:=Tryz.zeroValue333,
 t50:=Tryz.underlying337,
 a50:=Tryz.isAgg337,
 z50:=Tryz.sizeOf337,
 v50:=Tryz.zeroValue337,
 t53:=Tryz.underlying340,
 a53:=Tryz.isAgg340,
 z53:=Tryz.sizeOf340,
 v53:=Tryz.zeroValue340,
 t55:=Tryz.underlying39,
 a55:=Tryz.isAgg39,
 z55:=Tryz.sizeOf39,
 v55:=Tryz.zeroValue39,
 t66:=Tryz.underlying375,
 a66:=Tryz.isAgg375,
 z66:=Tryz.sizeOf375,
 v66:=Tryz.zeroValue375,
 t70:=Tryz.underlying379,
 a70:=Tryz.isAgg379,
 z70:=Tryz.sizeOf379,
 v70:=Tryz.zeroValue379,
 t76:=Tryz.underlying400,
 a76:=Tryz.isAgg400,
 z76:=Tryz.sizeOf400,
 v76:=Tryz.zeroValue400,
 t77:=Tryz.underlying401,
 a77:=Tryz.isAgg401,
 z77:=Tryz.sizeOf401,
 v77:=Tryz.zeroValue401}
def Tryz.rk:Go.Shelf.Ren:=⟨fun|6=>218|15=>181|14=>262|28=>237|29=>238|20=>287|21=>288|22=>289|23=>290|24=>291|25=>292|26=>293|27=>294|46=>306|47=>273|48=>274|49=>307|50=>308|57=>325|n=>n,fun|22=>306|24=>311|25=>318|3=>3|39=>278|0=>0|53=>340|55=>39|4=>4|46=>333|45=>332|50=>337|5=>5|9=>9|66=>375|70=>379|76=>400|77=>401|n=>n,fun|n=>n⟩
theorem Tryz.Ev:Go.Proofs.SlLaysF0.n6 Tryz.prog Tryz.rk:={
 mixed:=by kernel_rfl,
 f6:=⟨Tryz.f218.name,by decide,Tryz.func218.trans (congrArg some (by kernel_rfl))⟩,
 f14:=⟨Tryz.f262.name,by decide,Tryz.func262.trans (congrArg some (by kernel_rfl))⟩,
 f15:=Tryz.func181.trans (congrArg some (by kernel_rfl)),
 f20:=⟨Tryz.f287.name,by decide,Tryz.func287.trans (congrArg some (by kernel_rfl))⟩,
 f21:=⟨Tryz.f288.name,by decide,Tryz.func288.trans (congrArg some (by kernel_rfl))⟩,
 f22:=⟨Tryz.f289.name,by decide,Tryz.func289.trans (congrArg some (by kernel_rfl))⟩,
 f23:=⟨Tryz.f290.name,by decide,Tryz.func290.trans (congrArg some (by kernel_rfl))⟩,
 f24:=⟨Tryz.f291.name,by decide,Tryz.func291.trans (congrArg some (by kernel_rfl))⟩,
 f25:=⟨Tryz.f292.name,by decide,Tryz.func292.trans (congrArg some (by kernel_rfl))⟩,
 f26:=⟨Tryz.f293.name,by decide,Tryz.func293.trans (congrArg some (by kernel_rfl))⟩,
 f27:=⟨Tryz.f294.name,by decide,Tryz.func294.trans (congrArg some (by kernel_rfl))⟩,
 f28:=Tryz.func237.trans (congrArg some (by kernel_rfl)),
 f29:=Tryz.func238.trans (congrArg some (by kernel_rfl)),
 f46:=⟨Tryz.f306.name,by decide,Tryz.func306.trans (congrArg some (by kernel_rfl))⟩,
 f47:=Tryz.func273.trans (congrArg some (by kernel_rfl)),
 f48:=Tryz.func274.trans (congrArg some (by kernel_rfl)),
 f49:=⟨Tryz.f307.name,by decide,Tryz.func307.trans (congrArg some (by kernel_rfl))⟩,
 f50:=⟨Tryz.f308.name,by decide,Tryz.func308.trans (congrArg some (by kernel_rfl))⟩,
 f57:=⟨Tryz.f325.name,by decide,Tryz.func325.trans (congrArg some (by kernel_rfl))⟩,
 t0:=Tryz.underlying0,
 a0:=Tryz.isAgg0,
 z0:=Tryz.sizeOf0,
 v0:=Tryz.zeroValue0,
 t3:=Tryz.underlying3,
 a3:=Tryz.isAgg3,
 z3:=Tryz.sizeOf3,
 v3:=Tryz.zeroValue3,
 t4:=Tryz.underlying4,
 a4:=Tryz.isAgg4,
 z4:=Tryz.sizeOf4,
 v4:=Tryz.zeroValue4,
 t5:=Tryz.underlying5,
 a5:=Tryz.isAgg5,
 z5:=Tryz.sizeOf5,
 v5:=Tryz.zeroValue5,
 t9:=Tryz.underlying9,
 a9:=Tryz.isAgg9,
 z9:=Tryz.sizeOf9,
 v9:=Tryz.zeroValue9,
 t22:=Tryz.underlying306,
 a22:=Tryz.isAgg306,
 z22:=Tryz.sizeOf306,
 v22:=Tryz.zeroValue306,
 t25:=Tryz.underlying318,
 a25:=Tryz.isAgg318,
 z25:=Tryz.sizeOf318,
 v25:=Tryz.zeroValue318,
 t39:=Tryz.underlying278,
 a39:=Tryz.isAgg278,
 z39:=Tryz.sizeOf278,
 v39:=Tryz.zeroValue278,
 t45:=Tryz.underlying332,
 a45:=Tryz.isAgg332,
 z45:=Tryz.sizeOf332,
 v45:=Tryz.zeroValue332,
 t46:=Tryz.underlying333,
 a46:=Tryz.isAgg333,
 z46:=Tryz.sizeOf333,
 v46:=Tryz.zeroValue333,
 t50:=Tryz.underlying337,
 a50:=Tryz.isAgg337,
 z50:=Tryz.sizeOf337,
 v50:=Tryz.zeroValue337,
 t53:=Tryz.underlying340,
 a53:=Tryz.isAgg340,
 z53:=Tryz.sizeOf340,
 v53:=Tryz.zeroValue340,
 t55:=Tryz.underlying39,
 a55:=Tryz.isAgg39,
 z55:=Tryz.sizeOf39,
 v55:=Tryz.zeroValue39,
 t66:=Tryz.underlying375,
 a66:=Tryz.isAgg375,
 z66:=Tryz.sizeOf375,
 v66:=Tryz.zeroValue375,
 t70:=Tryz.underlying379,
 a70:=Tryz.isAgg379,
 z70:=Tryz.sizeOf379,
 v70:=Tryz.zeroValue379,
 t76:=Tryz.underlying400,
 a76:=Tryz.isAgg400,
 z76:=Tryz.sizeOf400,
 v76:=Tryz.zeroValue400,
 t77:=Tryz.underlying401,
 a77:=Tryz.isAgg401,
 z77:=Tryz.sizeOf401,
 v77:=Tryz.zeroValue401}
theorem Tryz.Ew (w:x2):(isAgg (Tryz.rj.t 24)).run Tryz.prog w= .ok true w:=Tryz.isAgg347 w
theorem Tryz.Ex (w:x2):(Go.sizeOf (Tryz.rj.t 24)).run Tryz.prog w= .ok 6 w:=Tryz.sizeOf347 w
theorem Tryz.Ey:Tryz.prog.funcs[264]? =some Tryz.f264:=Tryz.func264
theorem Tryz.Ez (w:x2):(isAgg (Tryz.rk.t 24)).run Tryz.prog w= .ok true w:=Tryz.isAgg311 w
theorem Tryz.EA (w:x2):(Go.sizeOf (Tryz.rk.t 24)).run Tryz.prog w= .ok 2 w:=Tryz.sizeOf311 w
theorem Tryz.EB:Tryz.prog.funcs[219]? =some Tryz.f219:=Tryz.func219
end Go.Proofs
namespace Go.Proofs.YtgbkinibgjmodaaGreatDoor
open Go Go.Vc Go.RowKit Go.Proofs Go.Proofs.Tryz
set_option maxRecDepth 100000
def oY {α:Type} (f:α→Int) (L:List α) (a i:Nat):Prop:=∀ (p q:Nat) (x y:α),a≤p→p<q→q<i→L[p]? =some x→L[q]? =some y→f x≤f y
def lJ (L:List (List Int)):Prop:=∀ ks∈L,iw ks
theorem lJ.perm {L M:List (List Int)} (h:lJ L) (E:M.Perm L):lJ M:=fun ks J=>h ks (E.mem_iff.1 J)
theorem EC {w:x2} {g:Nat} {v:x1} {L:List (List Int)} {i:Nat} {y:Int} {ks:List Int} {K:x1→Prop} (E:y=(i:Int)) (h:kC w g v L) (hi:L[i]? =some ks):
  O x5 (j4 gK v (.int .i64 y)) w (fun p=>O x5 (x7 bO p) w K)=K (c0 ks):=by
 have J:ks.length=6:=by have:=h.2 ks (x4 hi);simpa using this
 rw[cr E gK.u bO.i h (x3.1 hi).1,kB J (h.range hi)]
abbrev wI:x1:=.func (.func ue) #[] #[]
theorem oZ {P:Y3} {w:x2} {t:u5} {k:r9} {s:ByteArray} {i:Nat} {K:x1→Prop} (E:P.underlying t=some .string) (hi:i<s.size):
  O P (Instr.index t (.string s) (.int k (i:Int))) w K=K (.int .u8 (s[i].toNat:Int)):=O.of fun w' _=>by
 simp[Instr.index,asIntOf,run_underlying E,hi]
def df (n:Nat):Nat:=if n=0 then 0 else Nat.log2 n+1
theorem wJ {n:Nat} (h:n<256):df n≤8:=by
 unfold df;by_cases E:n=0
 ·rw[if_pos E];omega
 ·rw[if_neg E];have J:Nat.log2 n<8:=(Nat.log2_lt E).2 (by omega);omega
set_option maxHeartbeats 1000000 in
theorem ED {w:x2} {g:Nat} {v:x1} {L:List (List Int)} (h:kC w g v L) (U:lJ L) (V:L.length<65536):
  ah x5 B7 [v,wI] w fun _ w'=>af (fun r=>leadsTo v r) w w'∧ ∃ M,M.Perm L∧oY eM M 0 M.length∧kC w' g v M:=by
 refine (wH Eu (G:=iw) (num:=eM) (cf:=fY) (cap:=#[]) Ew Ex (fun a _=>wC) (fun a E=>by simp[E.1]) (fun a b E O=>(wD a b (by rw[E.1,O.1]) E.2 O.2).1) (Enters.of x5 Ey rfl (by kernel_rfl)) h U V fun aa a b _ E O=>Et E O).mono ?_;rintro _ w' _ ⟨W,M,X,hu,hm⟩;exact⟨W,M,X,fun p q x y _ Y _ J Z=>hu p q x y Y J Z,hm⟩
end Go.Proofs.YtgbkinibgjmodaaGreatDoor
namespace Go.Vc
open Go Go.RowKit
set_option maxRecDepth 100000
theorem Keys.str {P:Y3} {k:u5} (E:P.underlying k=some .string):Keys P k fun v=>∃ s,v= .string s:=by
 have key:∀ s,MapKept.IsKey .string (.string s):=fun s=>trivial;refine⟨fun w O v ⟨n,h⟩=>?_,fun w x ⟨n,h⟩ U V=>?_,fun w v ⟨n,h⟩=>?_⟩
 ·subst h;exact MapKept.run_checkKey E (key n) O 9999
 ·subst h;rcases MapKept.findNow_spec (key n) U 0 (fun e he=>by obtain⟨m,h⟩:=V e he;rw[h];exact key m) with⟨h1,J⟩|⟨j,e,h1,J,W⟩
  ·exact .inl ⟨MapKept.run_findKey E h1,J⟩
  ·exact .inr ⟨j,e,by have:=MapKept.run_findKey (P:=P) (w:=w) E h1;simpa using this,J,W⟩
 ·subst h;exact MapKept.run_keyThatStays (d:=.string) (key n)
section
variable {P:Y3} {w:x2}
theorem kD {s:Sem x1} {v:x1} (h:∀ K:x1→Prop,O P s w K=K v):bL P s v w:=by
 have h1:O P s w (fun u=>u=v):=(h fun u=>u=v).mpr rfl;obtain⟨u,hu,rfl⟩:=h1;exact hu
variable {k e:u5} {G:x1→Prop}
end
end Go.Vc
namespace Go.Proofs.YtgbkinibgjmodaaGreatDoor
open Go Go.Vc Go.RowKit Go.Proofs Go.Proofs.Tryz
set_option maxRecDepth 100000
def eW:Nat→Nat→List Int
 |0,_=>[]
 |n+1,u=>eW n (u / 10)++[48+((u % 10:Nat):Int)]
theorem mT:∀ (n u:Nat),(eW n u).length=n
 |0,_=>rfl
 |n+1,u=>by rw[eW,r8,mT n];rfl
theorem EE (n u:Nat):eW (n+2) u=eW n (u / 100)++[48+((u / 10 % 10:Nat):Int),48+((u % 10:Nat):Int)]:=by
 rw[eW,eW,X8];rw[show u / 10 / 10=u / 100 by omega];rfl
theorem wK:∀ (n u:Nat),10 ^ n≤u→u<10 ^ (n+1)→eW (n+1) u=dU u
 |0,u,h1,E=>by
  rw[kw,if_pos (by simpa using E)];simp[eW]
 |n+1,u,h1,E=>by
  have J:(10:Nat) ^ (n+1)=10*10 ^ n:=by rw[Nat.pow_succ,Nat.mul_comm]
  have O:(10:Nat) ^ (n+1+1)=10*10 ^ (n+1):=by rw[Nat.pow_succ,Nat.mul_comm]
  have U:1≤10 ^ n:=Nat.one_le_iff_ne_zero.2 (by simp);rw[kw,if_neg (by omega),eW,wK n (u / 10) (by omega) (by omega)]
def eN (E C:List Int) (nd u:Nat):Prop:=nd≤E.length∧C.length=E.length∧ ∃ t,C.drop nd=t∧E=eW nd u++t
theorem eN.two {E C:List Int} {nd u:Nat} (h:eN E C (nd+2) u):eN E ((C.set (nd+1) (48+((u % 10:Nat):Int))).set nd (48+((u / 10 % 10:Nat):Int))) nd (u / 100):=by
 obtain⟨h1,J,t,O,U⟩:=h;refine⟨by omega,by simp[J],_,rfl,?_⟩;rw[U,EE,X8];congr 1;rw[List.drop_set,if_neg (by omega),List.drop_set,if_neg (by omega),←O];have V:nd<C.length:=by omega
 have W:nd+1<C.length:=by omega
 rw[Y2 V,Y2 W,X6,Nat.add_sub_cancel_left];rfl
theorem eN.one {E C:List Int} {u:Nat} (h:eN E C 1 u):C.set 0 (48+((u % 10:Nat):Int))=E:=by
 obtain⟨h1,J,t,O,U⟩:=h;rw[U,eW,eW,List.nil_append,←O];cases C with
 |nil=>simp at J;omega
 |cons c C=>simp
theorem eN.zero {E C:List Int} {u:Nat} (h:eN E C 0 u):C=E:=by
 obtain⟨h1,U,t,J,O⟩:=h;rw[O,eW,List.nil_append,←J,List.drop_zero]
def ho:ByteArray:=⟨#[48,48,48,49,48,50,48,51,48,52,48,53,48,54,48,55,48,56,48,57,49,48,49,49,49,50,49,51,49,52,49,53,49,54,49,55,49,56,49,57,50,48,50,49,50,50,50,51,50,52,50,53,50,54,50,55,50,56,50,57,51,48,51,49,51,50,51,51,51,52,51,53,51,54,51,55,51,56,51,57,52,48,52,49,52,50,52,51,52,52,52,53,52,54,52,55,52,56,52,57,53,48,53,49,53,50,53,51,53,52,53,53,53,54,53,55,53,56,53,57,54,48,54,49,54,50,54,51,54,52,54,53,54,54,54,55,54,56,54,57,55,48,55,49,55,50,55,51,55,52,55,53,55,54,55,55,55,56,55,57,56,48,56,49,56,50,56,51,56,52,56,53,56,54,56,55,56,56,56,57,57,48,57,49,57,50,57,51,57,52,57,53,57,54,57,55,57,56,57,57]⟩
theorem wL:ho.size=200:=by decide+kernel
theorem EF:∀ q:Fin 100,ho.data.toList[2*q.val]? =some (UInt8.ofNat (48+q.val / 10))∧ho.data.toList[2*q.val+1]? =some (UInt8.ofNat (48+q.val % 10)):=by decide+kernel
theorem rl {q:Nat} (J:q<100):(∀ h,(ho[2*q]'h).toNat=48+q / 10)∧ ∀ h,(ho[2*q+1]'h).toNat=48+q % 10:=by
 obtain⟨h1,O⟩:=EF ⟨q,J⟩;refine⟨fun h=>?_,fun h=>?_⟩
 ·have E:=(x3.1 h1).2;have:ho[2*q]=UInt8.ofNat (48+q / 10):=E;rw[this,UInt8.toNat_ofNat'];omega
 ·have E:=(x3.1 O).2;have:ho[2*q+1]=UInt8.ofNat (48+q % 10):=E;rw[this,UInt8.toNat_ofNat'];omega
theorem wrap_u32 {x:Int} (h1:0≤x) (E:x<4294967296):r9.u32.wrap x=x:=by
 simp[r9.wrap,r9.bits,r9.signed];omega
def hp (w:x2) (g o:Nat) (E C J:List Int):Prop:=ad w g jA (ints .u8 (E++C++J))∧E.length=o
theorem rm {w:x2} {g o n c i:Nat} {y:Int} {E:r9} {K:x1→Prop} (J:y=(i:Int)) (hi:i<n):
  O x5 (j4 bZ (.slice (some ⟨g,o,none⟩) n c) (.int E y)) w K=K (.pointer (some ⟨g,o+i,none⟩)):=by
 subst J;rw[gj bZ.u bY.i hi (fun _=>rfl),W9]
theorem rn {w:x2} {g o i:Nat} {x:Int} {E C J:List Int} {K:Unit→x2→Prop} (O:hp w g o E C J) (hi:i<C.length)
  (V:∀ w',af (fun r=>r=g) w w'→hp w' g o E (C.set i x) J→K () w'):aA x5 (o7 bY (.pointer (some ⟨g,o+i,none⟩)) (.int .u8 x)) w K:=by
 obtain⟨O,rfl⟩:=O;refine aZ (g:=g) (o:=E.length+i) bY.i rfl rfl O (by simp;omega) fun w' W X U=>V w' W ⟨?_,rfl⟩;have e:(ints .u8 (E++C++J)).set (E.length+i) (.int .u8 x)=ints .u8 (E++C.set i x++J):=by
  unfold ints;rw[←List.map_set,X8,List.set_append_right _ _ (by omega),Nat.add_sub_cancel_left,List.set_append_left _ _ hi,X8]
 rw[e] at U;exact U
theorem kE {w:x2} {g o n c nd q i:Nat} {ac V t:Int} {W C X:List Int} {K:x2→Prop} (ad:hp w g o W C X) (aD:C.length=n) (aE:n≤1000) (aG:nd≤n) (h1:(nd:Int)-ac=((i+1:Nat):Int)) (ai:(nd:Int)-V=(i:Int)) (aj:i+1<n) (ak:t=((2*q:Nat):Int)) (Y:q<100)
  (al:∀ w',af (fun r=>r=g) w w'→hp w' g o W ((C.set (i+1) (48+((q % 10:Nat):Int))).set i (48+((q / 10:Nat):Int))) X→K w'):
  dj w fun E=>
  O x5 (aB .sub ab false true (.int .i64 (nd:Int)) (.int .i64 ac)) E fun am=>
  O x5 (aB .sub ab false true (.int .i64 (nd:Int)) (.int .i64 V)) E fun ae=>
  O x5 (aB .add lg false true (.int .u32 t) (.int .u32 1)) E fun ao=>
  O x5 (Instr.index cc (.string ho) ao) E fun t50=>
  O x5 (Instr.index cc (.string ho) (.int .u32 t)) E fun ag=>
  O x5 (j4 bZ (.slice (some ⟨g,o,none⟩) n c) am) E fun t53=>
  aA x5 (o7 bY t53 t50) E fun(_:Unit) J=>
   (Ext E J∨bL x5 (Instr.index cc (.string ho) (.int .u32 t)) ag J∧bL x5 (aB .sub ab false true (.int .i64 (nd:Int)) (.int .i64 V)) ae J∧True)∧
  O x5 (j4 bZ (.slice (some ⟨g,o,none⟩) n c) ae) J fun ap=>
   aA x5 (o7 bY ap ag) J fun(_:Unit) Z=>K Z:=by
 subst ak;intro E ah _ _;have aq:af (fun r=>r=g) w E:=ah.U _;have au:hp E g o W C X:=⟨ad.1.ext ah,ad.2⟩;rw[cY,wrap_i64 (by omega) (by omega),cY,wrap_i64 (by omega) (by omega),aF,wrap_u32 (by omega) (by omega)];rw[show ((2*q:Nat):Int)+1=((2*q+1:Nat):Int) by omega];have aa:=wL;rw[oZ cc.u (by rw[aa];omega),oZ cc.u (by rw[aa];omega)];rw[(rl Y).1,(rl Y).2,rm h1 aj];refine rn au (by omega) fun J av aw=>⟨.inr ⟨kD fun K=>?_,kD fun K=>?_,trivial⟩,?_⟩
 ·rw[oZ cc.u (by rw[aa];omega),(rl Y).1]
 ·rw[cY,wrap_i64 (by omega) (by omega)]
 ·rw[rm ai (by omega)];refine rn aw (by simp;omega) fun Z ax ay=>al Z ((aq.trans av).trans ax) ?_;have az:48+((q % 10:Nat):Int)=((48+q % 10:Nat):Int):=by omega
  have aC:48+((q / 10:Nat):Int)=((48+q / 10:Nat):Int):=by omega
  rw[az,aC];exact ay
theorem eN.pair {E C:List Int} {nd u q:Nat} (h:eN E C (nd+2) u) (J:q=u % 100):eN E ((C.set (nd+1) (48+((q % 10:Nat):Int))).set nd (48+((q / 10:Nat):Int))) nd (u / 100):=by
 have:=h.two;rw[show u % 10=q % 10 by omega,show u / 10 % 10=q / 10 by omega] at this;exact this
theorem kF {t:u5} {cx cy:Bool} {k:r9} {a b:Nat} {K:x1→Prop} {w:x2} (E:b≠0):O x5 (aB .rem t cx cy (.int k (a:Int)) (.int k (b:Int))) w K=K (.int k ((a % b:Nat):Int)):=by
 rw[uj (by omega),Int.tmod_eq_emod_of_nonneg (by omega),Int.natCast_emod]
theorem u32_quo {t:u5} {cx cy:Bool} {a b:Nat} {K:x1→Prop} {w:x2} (E:b≠0) (J:a<4294967296):O x5 (aB .quo t cx cy (.int .u32 (a:Int)) (.int .u32 (b:Int))) w K=K (.int .u32 ((a / b:Nat):Int)):=by
 have:=Nat.div_le_self a b;rw[ob (by omega),Int.tdiv_eq_ediv_of_nonneg (by omega),←Int.natCast_ediv];generalize a / b=m at this ⊢;rw[wrap_u32 (by omega) (by omega)]
theorem u64_quo {t:u5} {cx cy:Bool} {a b:Nat} {K:x1→Prop} {w:x2} (E:b≠0) (J:a<18446744073709551616):O x5 (aB .quo t cx cy (.int .u64 (a:Int)) (.int .u64 (b:Int))) w K=K (.int .u64 ((a / b:Nat):Int)):=by
 have:=Nat.div_le_self a b;rw[ob (by omega),Int.tdiv_eq_ediv_of_nonneg (by omega),←Int.natCast_ediv];generalize a / b=m at this ⊢;rw[wrap_u64 (by omega) (by omega)]
theorem kG {t:u5} {cx cy:Bool} {a b:Nat} {K:x1→Prop} {w:x2} (E:a*b<4294967296):O x5 (aB .mul t cx cy (.int .u32 (a:Int)) (.int .u32 (b:Int))) w K=K (.int .u32 ((a*b:Nat):Int)):=by
 have e:(a:Int)*(b:Int)=((a*b:Nat):Int):=by simp
 rw[fx,e];generalize a*b=m at E ⊢;rw[wrap_u32 (by omega) (by omega)]
theorem eN.start {N u:Nat} {C:List Int} (h:C.length=N):eN (eW N u) C N u:=⟨by rw[mT];omega,by rw[mT,h],[],by rw[List.drop_eq_nil_iff];omega,by simp⟩
set_option maxHeartbeats 4000000 in
theorem EG {w:x2} {g o N c u:Nat} {ad C ae:List Int} (aK:hp w g o ad C ae) (aL:C.length=N) (aW:N≤19) (hu:u<10 ^ N):
  ah x5 Cg [.slice (some ⟨g,o,none⟩) N c,.int .u64 (u:Int)] w fun v w'=>v= .tuple #[]∧af (fun r=>r=g) w w'∧hp w' g o ad (eW N u) ae:=by
 have X:=mT N u;refine aq func314 ?_;rw[fy bZ.u];refine⟨fun aM av aw=>∃ E nd:Nat,aM= .int .u64 (E:Int)∧av= .int .i64 (nd:Int)∧E<10 ^ nd∧nd≤N∧af (fun r=>r=g) w aw∧ ∃ ai,hp aw g o ad ai ae∧eN (eW N u) ai nd E,
  fun _ av _=>(bl av).toNat,⟨u,N,rfl,rfl,hu,u9 _,af.refl _ _,C,aK,eN.start aL⟩,?_⟩
 rintro _ _ aw ⟨E,nd,rfl,rfl,aj,Y,ax,ai,ay,ag⟩;have aG:ai.length=N:=by rw[ag.2.1,X]
 have aX:(10:Nat) ^ nd≤10 ^ 19:=Nat.pow_le_pow_right (by omega) (by omega);have aN:E<18446744073709551616:=by omega
 have aY:(8:Int)=((8:Nat):Int):=rfl;rw[ca,aa];refine⟨fun aO=>?_,fun aO=>?_⟩
 ·obtain⟨m,rfl⟩:∃ m,nd=m+8:=⟨nd-8,by omega⟩;have aZ:E % 100000000<100000000:=Nat.mod_lt _ (by omega);rw[show Y5 .u64 100000000=Y5 .u64 ((100000000:Nat):Int) from rfl,kF (by omega),e7 e4.u lg.u,wrap_u32 (by omega) (by omega),u64_quo (by omega) aN];rw[show Y5 .u32 10000=Y5 .u32 ((10000:Nat):Int) from rfl,show Y5 .u32 100=Y5 .u32 ((100:Nat):Int) from rfl,show Y5 .u32 2=Y5 .u32 ((2:Nat):Int) from rfl];rw[u32_quo (by omega) (by omega),kF (by omega),u32_quo (by omega) (by omega),kG (by omega),kF (by omega),kG (by omega),u32_quo (by omega) (by omega),kG (by omega),kF (by omega),kG (by omega)];refine kE (i:=m+6) (q:=E % 100000000 % 10000 % 100) ay aG (by omega) Y (by omega) (by omega) (by omega) (by omega) (by omega) fun ak Z ab=>?_;have O:=ag.pair (q:=E % 100000000 % 10000 % 100) (by omega);have al:=O.2.1.trans X;refine kE (i:=m+4) (q:=E % 100000000 % 10000 / 100) ab al (by omega) Y (by omega) (by omega) (by omega) (by omega) (by omega) fun ac V U=>?_;have J:=eN.pair (nd:=m+4) (q:=E % 100000000 % 10000 / 100) O (by omega);have aH:=J.2.1.trans X;refine kE (i:=m+2) (q:=E % 100000000 / 10000 % 100) U aH (by omega) Y (by omega) (by omega) (by omega) (by omega) (by omega) fun aP az ap=>?_;have aI:=eN.pair (nd:=m+2) (q:=E % 100000000 / 10000 % 100) J (by omega);have aQ:=aI.2.1.trans X;refine kE (i:=m) (q:=E % 100000000 / 10000 / 100) ap aQ (by omega) Y (by omega) (by omega) (by omega) (by omega) (by omega) fun a1 aR aS=>?_;have aJ:=eN.pair (nd:=m) (q:=E % 100000000 / 10000 / 100) aI (by omega);rw[cY,wrap_i64 (by omega) (by omega)];refine⟨⟨E / 100000000,m,rfl,by congr 1;omega,?_,by omega,(((ax.trans Z).trans V).trans az).trans aR,_,aS,?_⟩,by simp only[bl];omega⟩
  ·rw[Nat.pow_add] at aj;exact Nat.div_lt_of_lt_mul (by rw[Nat.mul_comm];exact aj)
  ·rw[show E / 100 / 100 / 100 / 100=E / 100000000 by omega] at aJ;exact aJ
 ·have a2:nd<8:=by omega
  have a6:(10:Nat) ^ nd≤10 ^ 7:=Nat.pow_le_pow_right (by omega) (by omega);rw[e7 e4.u lg.u,wrap_u32 (by omega) (by omega)];refine gH (fun a b ak=>∃ W m:Nat,a= .int .i64 (m:Int)∧b= .int .u32 (W:Int)∧W<10 ^ m∧m<4∧m≤N∧af (fun r=>r=g) w ak∧ ∃ au,hp ak g o ad au ae∧eN (eW N u) au m W) ?_ ?_
  rotate_left
  ·intro aT am;rw[ca,aa];refine⟨fun aA=>?_,fun aA=>am _ _ _ ⟨E,nd,rfl,rfl,aj,by omega,Y,ax,ai,ay,ag⟩⟩;obtain⟨m,rfl⟩:∃ m,nd=m+4:=⟨nd-4,by omega⟩;rw[show Y5 .u32 10000=Y5 .u32 ((10000:Nat):Int) from rfl,show Y5 .u32 100=Y5 .u32 ((100:Nat):Int) from rfl,show Y5 .u32 2=Y5 .u32 ((2:Nat):Int) from rfl];rw[kF (by omega),u32_quo (by omega) (by omega),u32_quo (by omega) (by omega),kG (by omega),kF (by omega),kG (by omega)];refine kE (i:=m+2) (q:=E % 10000 % 100) ay aG (by omega) Y (by omega) (by omega) (by omega) (by omega) (by omega) fun ak Z ab=>?_;have O:=ag.pair (q:=E % 10000 % 100) (by omega);have al:=O.2.1.trans X;refine kE (i:=m) (q:=E % 10000 / 100) ab al (by omega) Y (by omega) (by omega) (by omega) (by omega) (by omega) fun ac V U=>?_;have J:=eN.pair (nd:=m) (q:=E % 10000 / 100) O (by omega);rw[cY,wrap_i64 (by omega) (by omega)];refine am _ _ _ ⟨E / 10000,m,by congr 1;omega,rfl,?_,by omega,by omega,(ax.trans Z).trans V,_,U,?_⟩
   ·rw[Nat.pow_add] at aj;exact Nat.div_lt_of_lt_mul (by rw[Nat.mul_comm];exact aj)
   ·rw[show E / 100 / 100=E / 10000 by omega] at J;exact J
  rintro _ _ ak ⟨W,m,rfl,rfl,aB,a7,aC,Z,au,ab,O⟩;have al:=O.2.1.trans X;have a8:(10:Nat) ^ m≤10 ^ 3:=Nat.pow_le_pow_right (by omega) (by omega);refine gH (fun a b ac=>∃ ao m:Nat,a= .int .i64 (m:Int)∧b= .int .u32 (ao:Int)∧ao<10 ^ m∧m<2∧m≤N∧af (fun r=>r=g) w ac∧ ∃ aD,hp ac g o ad aD ae∧eN (eW N u) aD m ao) ?_ ?_
  rotate_left
  ·intro aT am;rw[ca,aa];refine⟨fun aA=>?_,fun aA=>am _ _ _ ⟨W,m,rfl,rfl,aB,by omega,aC,Z,au,ab,O⟩⟩;obtain⟨m,rfl⟩:∃ aU,m=aU+2:=⟨m-2,by omega⟩;rw[show Y5 .u32 100=Y5 .u32 ((100:Nat):Int) from rfl,show Y5 .u32 2=Y5 .u32 ((2:Nat):Int) from rfl];rw[kF (by omega),kG (by omega),u32_quo (by omega) (by omega)];refine kE (i:=m) (q:=W % 100) ab al (by omega) aC (by omega) (by omega) (by omega) (by omega) (by omega) fun ac V U=>?_;have J:=O.pair (q:=W % 100) rfl;rw[cY,wrap_i64 (by omega) (by omega)];refine am _ _ _ ⟨W / 100,m,by congr 1;omega,rfl,?_,by omega,by omega,Z.trans V,_,U,J⟩;rw[Nat.pow_add] at aB;exact Nat.div_lt_of_lt_mul (by rw[Nat.mul_comm];exact aB)
  rintro _ _ ac ⟨ao,m,rfl,rfl,aE,ba,aC,V,aD,U,J⟩;have aH:=J.2.1.trans X;rw[bA,aa];refine⟨fun aV=>?_,fun aV=>?_⟩
  ·obtain rfl:m=1:=by omega
   have aE:ao<10:=by simpa using aE
   rw[aF,wrap_u32 (by omega) (by omega),e7 lg.u bY.u,wrap_u8 (by omega) (by omega),rm (y:=0) (i:=0) rfl (by omega)];refine rn U (by omega) fun aP az ap=>?_;have:=J.one;rw[Nat.mod_eq_of_lt aE] at this;rw[this] at ap;exact⟨rfl,V.trans az,ap⟩
  ·obtain rfl:m=0:=by omega
   rw[J.zero] at U;exact⟨rfl,V,U⟩
def mU:List Int:=[1,10,100,1000,10000,100000,1000000,10000000,100000000,1000000000,10000000000,100000000000,1000000000000,10000000000000,100000000000000,1000000000000000,10000000000000000,100000000000000000,1000000000000000000,10000000000000000000]
def dW (w:x2):Prop:=w.rangeAt 1 0 (ints .u64 mU)
theorem dW.ext {w w':x2} (h:dW w) (J:Ext w w'):dW w':=lh J h
theorem EH:∀ k:Nat,k<20→mU[k]? =some (((10 ^ k:Nat)):Int):=by decide
theorem wM {n s:Nat} (h:2 ^ s≤n):df n=s+df (n / 2 ^ s):=by
 have E:=Nat.two_pow_pos s;have h1:n / 2 ^ s≠0:=by have:=Nat.div_pos h E;omega
 have J:n≠0:=by omega
 unfold df;rw[if_neg J,if_neg h1];have e:Nat.log2 n=Nat.log2 (n / 2 ^ s)+s:=by
  refine (Nat.log2_eq_iff J).2 ⟨?_,?_⟩
  ·rw[Nat.pow_add];have:=Y7 (2 ^ s) (Nat.log2_self_le h1);have:=Nat.div_mul_le_self n (2 ^ s);omega
  ·have O:=Nat.lt_log2_self (n:=n / 2 ^ s);rw[show Nat.log2 (n / 2 ^ s)+s+1=(Nat.log2 (n / 2 ^ s)+1)+s by omega,Nat.pow_add];have:=Y7 (2 ^ s) (show n / 2 ^ s+1≤2 ^ (Nat.log2 (n / 2 ^ s)+1) by omega);have U:=Nat.lt_div_mul_add E (a:=n);rw[W3] at this;omega
 omega
def mV:ByteArray:=⟨#[0,1,2,2,3,3,3,3,4,4,4,4,4,4,4,4,5,5,5,5,5,5,5,5,5,5,5,5,5,5,5,5,6,6,6,6,6,6,6,6,6,6,6,6,6,6,6,6,6,6,6,6,6,6,6,6,6,6,6,6,6,6,6,6,7,7,7,7,7,7,7,7,7,7,7,7,7,7,7,7,7,7,7,7,7,7,7,7,7,7,7,7,7,7,7,7,7,7,7,7,7,7,7,7,7,7,7,7,7,7,7,7,7,7,7,7,7,7,7,7,7,7,7,7,7,7,7,7,8,8,8,8,8,8,8,8,8,8,8,8,8,8,8,8,8,8,8,8,8,8,8,8,8,8,8,8,8,8,8,8,8,8,8,8,8,8,8,8,8,8,8,8,8,8,8,8,8,8,8,8,8,8,8,8,8,8,8,8,8,8,8,8,8,8,8,8,8,8,8,8,8,8,8,8,8,8,8,8,8,8,8,8,8,8,8,8,8,8,8,8,8,8,8,8,8,8,8,8,8,8,8,8,8,8,8,8,8,8,8,8,8,8,8,8,8,8,8,8,8,8,8,8,8,8,8,8]⟩
theorem EI:mV.size=256:=by decide+kernel
theorem EJ:∀ q:Fin 256,mV.data.toList[q.val]? =some (UInt8.ofNat (df q.val)):=by decide+kernel
theorem EK {q:Nat} (E:q<256):∀ h,(mV[q]'h).toNat=df q:=fun h=>by
 have h1:=EJ ⟨q,E⟩;have J:=(x3.1 h1).2;have:mV[q]=UInt8.ofNat (df q):=J;have O:=wJ E;rw[this,UInt8.toNat_ofNat'];omega
theorem EL {n:Nat} {w:x2} (ak:n<18446744073709551616):ah x5 BB [.int .u64 (n:Int)] w fun v w'=>v= .int .i64 (df n:Int)∧Ext w w':=by
 refine aq func238 ?_;have step:∀ {s x m:Nat} {W:x1→x1→x2→Prop} {y c:Int},s<64→x<18446744073709551616→m+df x=df n→m≤64→y=(2 ^ s:Nat)→c=(s:Int)→2 ^ s≤18446744073709551615→(∀ E U:Nat,E<2 ^ s∨(E=x / 2 ^ s∧U=m+s)→E≤x→U+df E=df n→U≤m+s→W (.int .u64 (E:Int)) (.int .i64 (U:Int)) w)→
   O x5 (aB .geq e4 false true (.int .u64 (x:Int)) (.int .u64 y)) w fun t4=>
    Split t4 (O x5 (aB .shr e4 false true (.int .u64 (x:Int)) (.int .u64 c)) w fun ae=>O x5 (aB .add ab false true (.int .i64 (m:Int)) (.int .i64 c)) w fun af=>W ae af w) (W (.int .u64 (x:Int)) (.int .i64 (m:Int)) w):=by
  intro s x m W y c Y J hm al ag ai ac V;subst ag ai;rw[ca,aa];refine⟨fun h=>?_,fun h=>V x m (.inl (by omega)) (u9 _) hm (by omega)⟩;rw[oz Y,aF,wrap_i64 (by omega) (by omega)];have:=wM (n:=x) (s:=s) (by omega);have:=V (x / 2 ^ s) (m+s) (.inr ⟨rfl,rfl⟩) (Nat.div_le_self _ _) (by omega) (by omega);exact this
 refine gH (fun x m X=>w=X∧ ∃ E U:Nat,x= .int .u64 (E:Int)∧m= .int .i64 (U:Int)∧E<4294967296∧U+df E=df n∧U≤32) ?_ ?_
 rotate_left
 ·intro W V;rw[ca,aa];refine⟨fun h=>?_,fun h=>V _ _ _ ⟨rfl,n,0,rfl,rfl,by omega,by omega,by omega⟩⟩;rw[show Y5 .u64 32=Y5 .u64 ((32:Nat):Int) from rfl,oz (by omega)];have:=wM (n:=n) (s:=32) (by omega);exact V _ _ _ ⟨rfl,n / 2 ^ 32,32,rfl,rfl,by omega,by omega,by omega⟩
 rintro _ _ _ ⟨rfl,x,m,rfl,rfl,J,hm,ad⟩;refine gH (fun x m X=>w=X∧ ∃ E U:Nat,x= .int .u64 (E:Int)∧m= .int .i64 (U:Int)∧E<65536∧U+df E=df n∧U≤48) ?_ ?_
 rotate_left
 ·intro W V;refine step (s:=16) (by omega) (by omega) hm (by omega) (by omega) (by omega) (by omega) fun E U h1 ac Z aj=>V _ _ _ ⟨rfl,E,U,rfl,rfl,?_,Z,by omega⟩;rcases h1 with h1|⟨h1,_⟩ <;> omega
 rintro _ _ _ ⟨rfl,x,m,rfl,rfl,J,hm,ad⟩;refine gH (fun x m X=>w=X∧ ∃ E U:Nat,x= .int .u64 (E:Int)∧m= .int .i64 (U:Int)∧E<256∧U+df E=df n∧U≤56) ?_ ?_
 rotate_left
 ·intro W V;refine step (s:=8) (by omega) (by omega) hm (by omega) (by omega) (by omega) (by omega) fun E U h1 ac Z aj=>V _ _ _ ⟨rfl,E,U,rfl,rfl,?_,Z,by omega⟩;rcases h1 with h1|⟨h1,_⟩ <;> omega
 rintro _ _ _ ⟨rfl,x,m,rfl,rfl,J,hm,ad⟩;have Y:=EI;have am:=wJ J;rw[e7 e4.u bY.u,wrap_u8 (by omega) (by omega)];refine (oZ (s:=mV) cc.u (by rw[Y];omega)).mpr ?_;rw[EK J,e7 bY.u ab.u,wrap_i64 (by omega) (by omega),aF,wrap_i64 (by omega) (by omega)];exact⟨by congr 1;omega,Ext.refl _⟩
theorem wN {t:u5} {cx cy:Bool} {k:r9} {a n:Nat} {w:x2} {K:x1→Prop} (E:n<64):O x5 (aB .shr t cx cy (.int .i64 (a:Int)) (.int k (n:Int))) w K=K (.int .i64 ((a / 2 ^ n:Nat):Int)):=O.of fun w' _=>by
 have e:(a:Int).fdiv (2 ^ min n X0.bits)=((a / 2 ^ n:Nat):Int):=by
  have:min n X0.bits=n:=Nat.min_eq_left (by show n≤64;omega);rw[this,Int.fdiv_eq_ediv_of_nonneg _ (by exact Int.le_of_lt (Int.pow_pos (by omega)))];simp
 simp only[aB,eqGuard,binOp,Op.shift,c8,e];rfl
theorem EM:∀ L:Fin 64,7≤L.val→2 ^ L.val≤10 ^ (L.val*78913 / 262144+1)∧10 ^ (L.val*78913 / 262144)≤10*2 ^ (L.val-1)∧1≤L.val*78913 / 262144∧L.val*78913 / 262144<19:=by decide+kernel
theorem EN {d:Nat} {w:x2} (ac:dW w) (h1:100≤d) (aj:d<9223372036854775808):ah x5 Cf [.int .u64 (d:Int)] w fun v w'=>Ext w w'∧ ∃ n:Nat,v= .int .i64 ((n+1:Nat):Int)∧n<19∧10 ^ n≤d∧d<10 ^ (n+1):=by
 have W:d≠0:=by omega
 have X:df d=Nat.log2 d+1:=by unfold df;rw[if_neg W]
 have ak:2 ^ (df d-1)≤d:=by rw[X];exact Nat.log2_self_le W
 have al:d<2 ^ df d:=by rw[X];exact Nat.lt_log2_self
 have ad:7≤df d:=by
  by_cases h:7≤df d
  ·exact h
  ·have:2 ^ df d≤2 ^ 6:=Nat.pow_le_pow_right (by omega) (by omega);omega
 have ae:df d<64:=by
  by_cases h:df d<64
  ·exact h
  ·have:2 ^ 63≤2 ^ (df d-1):=Nat.pow_le_pow_right (by omega) (by omega);omega
 obtain⟨af,Y,t3,t4⟩:=EM ⟨df d,ae⟩ ad;simp only at af Y t3 t4;refine aq func313 ?_;refine (EL (by omega)).mono ?_;rintro _ ag _ ⟨rfl,E⟩;generalize df d=L at*;refine ah.mono (K:=fun v J=>v= .int .i64 ((L*78913 / 262144:Nat):Int)∧Ext ag J) ?_ ?_
 ·refine aq func334 ?_;rw[fx,wrap_i64 (by omega) (by omega),show Y5 .u64 18=Y5 .u64 ((18:Nat):Int) from rfl,show (L:Int)*78913=((L*78913:Nat):Int) by omega,wN (by omega)];exact⟨rfl,Ext.refl _⟩
 rintro _ J _ ⟨rfl,O⟩;generalize L*78913 / 262144=t at*;have ai:=EH t (by omega);rw[qE (t:=n7) n7.u e4.i (by omega),V (by kernel_rfl) (by rw[W9];exact ((ac.ext E).ext O) _ _ (il ai)),ca];refine ah.mono (K:=fun v Z=>v= .int .i64 ((if 10 ^ t≤d then 1 else 0:Nat):Int)∧Ext J Z) ?_ ?_
 ·refine aq func335 ?_;rw[aa];refine⟨fun h=>⟨by rw[if_pos (by omega)];rfl,Ext.refl _⟩,fun h=>⟨by rw[if_neg (by omega)];rfl,Ext.refl _⟩⟩
 rintro _ Z _ ⟨rfl,ab⟩;rw[aF];by_cases U:10 ^ t≤d
 ·rw[if_pos U,wrap_i64 (by omega) (by omega)];exact⟨(E.trans O).trans ab,t,by congr 1,t4,U,by omega⟩
 ·rw[if_neg U,wrap_i64 (by omega) (by omega)];obtain⟨s,rfl⟩:∃ s,t=s+1:=⟨t-1,by omega⟩;rw[Nat.pow_succ] at Y;exact⟨(E.trans O).trans ab,s,by congr 1,by omega,by omega,by omega⟩
theorem wO {t:u5} {k E:r9} {x y:Int} {i j:Nat} {s:ByteArray} {w:x2} {K:x1→Prop} (J:x=(i:Int)) (U:y=(j:Int)) (V:x5.underlying t=some .string) (W:i≤j) (X:j≤s.size):
  O x5 (Y9 t (.string s) (some (.int k x)) (some (.int E y)) none) w K=K (.string (s.extract i j)):=O.of fun w' _=>by
 subst J U;have Y:=od (P:=x5) w' (sl:=false) (n:=s.size) (c:=s.size) (low:=some (.int k (i:Int))) (high:=some (.int E (j:Int))) (mx:=none) (l:=i) (h:=j) (m:=s.size) ⟨k,rfl⟩ ⟨E,rfl⟩ eb W X (u9 _);simp[Y9,Instr.slice,run_underlying V,Y]
theorem EO:∀ q:Fin 100,ho.extract (2*q.val) (2*q.val+2)=strOfNums [48+((q.val / 10:Nat):Int),48+((q.val % 10:Nat):Int)]:=by decide+kernel
def wP:ByteArray:=⟨#[48,49,50,51,52,53,54,55,56,57,97,98,99,100,101,102,103,104,105,106,107,108,109,110,111,112,113,114,115,116,117,118,119,120,121,122]⟩
theorem EP:∀ q:Fin 10,wP.extract q.val (q.val+1)=strOfNums [48+(q.val:Int)]:=by decide+kernel
theorem wQ {n:Nat} (h:n<10):dU n=[48+(n:Int)]:=by rw[kw,if_pos h,Nat.mod_eq_of_lt h];rfl
theorem EQ {n:Nat} (h1:10≤n) (E:n<100):dU n=[48+((n / 10:Nat):Int),48+((n % 10:Nat):Int)]:=by
 rw[kw,if_neg (by omega),wQ (by omega)];rfl
theorem ER {n:Nat} {w:x2} (E:n<100):ah x5 Ce [.int .i64 (n:Int)] w fun v w'=>v=bb (dU n)∧Ext w w':=by
 refine aq func312 ?_;rw[ao,aa];refine⟨fun h=>?_,fun h=>?_⟩
 ·rw[aF,wrap_i64 (by omega) (by omega)];refine (wO (s:=wP) (i:=n) (j:=n+1) rfl (by omega) cc.u (by omega) (by show n+1≤36;omega)).mpr ?_;rw[EP ⟨n,by omega⟩,wQ (by omega)];exact⟨rfl,Ext.refl _⟩
 ·rw[fx,wrap_i64 (by omega) (by omega),fx,wrap_i64 (by omega) (by omega),aF,wrap_i64 (by omega) (by omega)];refine (wO (s:=ho) (i:=2*n) (j:=2*n+2) (by omega) (by omega) cc.u (by omega) (by rw[wL];omega)).mpr ?_;rw[EO ⟨n,E⟩,EQ (by omega) E];exact⟨rfl,Ext.refl _⟩
theorem ES {w:x2} {g:Nat} {J C O:List Int} (E:hp w g 1 J C O) (U:C.length≤23):aC .u8 w (.slice (some ⟨g,1,none⟩) C.length 23) C:=by
 obtain⟨E,V⟩:=E;refine⟨by simp,g,1,_,23,rfl,U,by simp[maxLen],fun _=>rfl,fun j v ac=>?_⟩;have W:j<C.length:=by have:=(x3.1 ac).1;simpa using this
 refine E.cell ?_;rw[ints,o9,o9,Z0 (by simp;omega),Z2 (by simp;omega),u7,V,Nat.add_sub_cancel_left];exact ac
theorem wR {g m:Nat} {y:Int} {w:x2} {K:x1→Prop} (E:y=((m+2:Nat):Int)) (hm:m≤22):
  O x5 (Y9 jA (.pointer (some ⟨g,0,none⟩)) (some (.int .i64 1)) (some (.int .i64 y)) none) w K=K (.slice (some ⟨g,1,none⟩) (m+1) 23):=by
 subst E;have:=oe (w:=w) (b:=g) (o:=0) (low:=some (.int .i64 1)) (high:=some (.int .i64 ((m+2:Nat):Int))) (mx:=none) (l:=1) (h:=m+2) (m:=24) (K:=K) jA.u bY.i ⟨_,rfl⟩ ⟨_,rfl⟩ eb (by omega) (by omega) (by omega);rw[this,if_neg (by omega)];rfl
set_option maxHeartbeats 1000000 in
theorem ET {n:Nat} {w:x2} (Y:dW w) (Z:n<9223372036854775808):ah x5 B9 [.int .i64 (n:Int),.int .i64 10] w fun v w'=>v=bb (dU n)∧Ext w w':=by
 refine aq func302 ?_;rw[bc];refine (aa).mpr ⟨fun _=>?_,fun h=>absurd rfl h⟩;refine aL (fun v E=>w=E∧v= .bool (decide (n<100))) ?_ ?_
 rotate_left
 ·intro ab J;rw[mn,aa];refine⟨fun _=>?_,fun h=>by omega⟩;rw[ao];exact J _ _ ⟨rfl,by congr 1;rw[X5,decide_eq_true_eq,decide_eq_true_eq];omega⟩
 rintro _ _ ⟨rfl,rfl⟩;rw[aa];refine⟨fun h=>?_,fun h=>?_⟩
 ·exact (ER h).mono fun _ _ _ h=>h
 refine bi jA.i fun g E ak U ac=>?_;rw[e7 aj.u e4.u,wrap_u64 (by omega) (by omega)];refine aL (fun v O=>E=O∧v= .int .u64 (n:Int)) ?_ ?_
 rotate_left
 ·intro ab J;rw[ao,aa];exact⟨fun h=>by omega,fun _=>J _ _ ⟨rfl,rfl⟩⟩
 rintro _ _ ⟨rfl,rfl⟩;refine (EN (Y.ext U) (by omega) Z).mono ?_;rintro _ O _ ⟨V,m,rfl,hm,ad,W⟩;rw[aF,wrap_i64 (by omega) (by omega)];rw[wR (m:=m) (by omega) (by omega)];have ae:hp O g 1 [0] (v8 (m+1) 0) (v8 (22-m) 0):=by
  refine⟨?_,rfl⟩;have e:[0]++v8 (m+1) (0:Int)++v8 (22-m) 0=v8 24 0:=by
   rw[show[(0:Int)]=v8 1 0 from rfl,List.replicate_append_replicate,List.replicate_append_replicate];congr 1;omega
  rw[e];exact ac.ext V
 refine (EG (N:=m+1) ae (by simp) (by omega) W).mono ?_;rintro _ al _ ⟨rfl,af,ag⟩;rw[ao,aa];refine⟨fun h=>by omega,fun _=>?_⟩;rw[aF,wrap_i64 (by omega) (by omega)];rw[wR (m:=m) (by omega) (by omega)];have ai:=mT (m+1) n;have X:=ES ag (by omega);rw[ai] at X;rw[qR bZ.u bY.u cc.u X,wK m n ad W];refine⟨rfl,(U.trans V).then af fun r am he=>?_⟩;have he:r=g:=he;omega
theorem EU {n:Nat} {w:x2} (E:dW w) (J:n<9223372036854775808):ah x5 qx [.int .i64 (n:Int)] w fun v w'=>v=bb (dU n)∧Ext w w':=by
 refine aq func243 ?_;refine ah.mono (K:=fun v w'=>v=bb (dU n)∧Ext w w') ?_ (fun _ _ _ h=>h);refine aq func278 ?_;exact (ET E J).mono fun _ _ _ h=>h
theorem dW.U {S:Nat→Prop} {w w':x2} (h:dW w) (J:af S w w') (E:¬S 1):dW w':=oa J E h
def cw (w:x2) (g gs:Nat) (A:an) (B:an) (clean:Bool) (s:Option aw):Prop:=match s with
 |some s=>cq w g gs A B s clean
 |none=>dn w g gs A B
theorem er.of {w w':x2} {g gs:Nat} {A:an} {B:an} {clean:Bool} {s:Option aw} (h:er w g gs A B clean s w'):af (ba g gs A) w w'∧cw w' g gs A B clean s:=h
theorem er.mk {w w':x2} {g gs:Nat} {A:an} {B:an} {clean:Bool} {s:Option aw} (h:af (ba g gs A) w w') (E:cw w' g gs A B clean s):er w g gs A B clean s w':=⟨h,E⟩
theorem cw.U {S:Nat→Prop} {w w':x2} {g gs:Nat} {A:an} {B:an} {clean:Bool} {s:Option aw} (h:cw w g gs A B clean s) (J:af S w w') (E:∀ r,ba g gs A r→¬S r) (O:∀ r,bQ g gs A B r→¬S r):cw w' g gs A B clean s:=by
 cases s with
 |none=>exact dn.U (g:=g) (gs:=gs) (A:=A) (B:=B) h J E O
 |some s=>exact cq.U (g:=g) (gs:=gs) (A:=A) (B:=B) (s:=s) (clean:=clean) h J E O
theorem cw.ext {w w':x2} {g gs:Nat} {A:an} {B:an} {clean:Bool} {s:Option aw} (h:cw w g gs A B clean s) (J:Ext w w'):cw w' g gs A B clean s:=h.U (J.U fun _=>False) (fun _ _ h=>h) fun _ _ h=>h
theorem cw.side {w:x2} {g gs:Nat} {A:an} {B:an} {clean:Bool} {s:Option aw} (h:cw w g gs A B clean s):iv w g gs A B:=by
 cases s with
 |none=>exact h.1
 |some s=>exact h.1
def aO (lo hi:Int) (s:Option aw):Option (Int×aw):=s.bind (aT lo hi)
theorem je {w:x2} {g gs:Nat} {A:an} {B:an} {s:Option aw} {clean:Bool} {lo hi:Int} (h:cw w g gs A B clean s):ah x5 kd [.pointer (some ⟨g,0,none⟩),.int .i64 lo,.int .i64 hi] w fun v w'=>er w g gs A B clean ((aO lo hi s).map (·.2)) w'∧ ∃ n at_:Int,v= .tuple #[.int .i64 n,.int .i64 at_]∧(∀ q,aO lo hi s=some q→n=q.1)∧(aO lo hi s=none→n=0):=by
 cases s with
 |none=>
  refine (DQ h).mono ?_;rintro _ E _ ⟨J,rfl⟩;exact⟨⟨J.U _,dn.ext (g:=g) (gs:=gs) (A:=A) (B:=B) h J⟩,0,0,rfl,fun q h=>(by cases h),fun _=>rfl⟩
 |some s=>exact q8 (s:=s) h
theorem lK {w:x2} {g gs:Nat} {A:an} {B:an} {s:Option aw} {clean:Bool} (h:cw w g gs A B clean s):ah x5 ih [.pointer (some ⟨g,0,none⟩)] w fun v w'=>v= .bool s.isSome∧Ext w w':=by
 cases s with
 |none=>exact kA h
 |some s=>exact lC h
theorem EV {w:x2} {g gs:Nat} {A:an} {B:an} {s:Option aw} {clean:Bool} {e at_:Int} (h:cw w g gs A B clean s) (he:e≠0):ah x5 ke [.pointer (some ⟨g,0,none⟩),.int .i64 e,.int .i64 at_] w fun _ w'=>er w g gs A B clean none w':=by
 cases s with
 |none=>
  refine (DO h).mono ?_;rintro _ E _ J;exact⟨J.U _,dn.ext (g:=g) (gs:=gs) (A:=A) (B:=B) h J⟩
 |some s=>
  refine (oM (s:=s) h he).mono ?_;rintro _ E _ ⟨O,V⟩;exact⟨O.mono fun r _ h=>.inl h,V⟩
theorem mW {w:x2} {g gs:Nat} {A:an} {B:an} {s:Option aw} {clean b:Bool} {at_:Int} (h:cw w g gs A B clean s):ah x5 mj [.pointer (some ⟨g,0,none⟩),.bool b,.int .i64 at_] w fun _ w'=>er w g gs A B clean (s.map (aQ b)) w':=by
 cases s with
 |none=>
  refine (vY h).mono ?_;rintro _ E _ J;exact⟨J.U _,dn.ext (g:=g) (gs:=gs) (A:=A) (B:=B) h J⟩
 |some s=>
  refine (oN (s:=s) h).mono ?_;rintro _ E _ ⟨O,V⟩;exact⟨O.mono fun r _ h=>.inl h,V⟩
theorem jP {lo hi n:Int} {s:Option aw} {s':aw} (h:aO lo hi s=some (n,s')):lo≤n∧n≤hi:=by
 cases s with
 |none=>cases h
 |some s=>exact (fB h).1
def dL (ks acc:List Int) (s:Option aw):Option (List Int×aw):=s.bind (gk ks acc)
theorem wS {k:Int} {ks acc:List Int} {s:Option aw}:dL (k::ks) acc s=match aO 0 (k-1) s with
  |none=>none
  |some (v,s)=>gk ks (acc++[v]) s:=by
 cases s with
 |none=>rfl
 |some s=>
  show gk (k::ks) acc s=_;rw[gk];show _=match aT 0 (k-1) s with|none=>none|some (v,s)=>gk ks (acc++[v]) s
  cases aT 0 (k-1) s <;> rfl
theorem wT:∀ (t:List Int),(∀ x∈t,0≤x∧x≤ak)→(dc t).length≤20*t.length
 |[],_=>by simp[dc]
 |x::t,h=>by
  have O:=wT t fun y E=>h y (.tail _ E);have J:=h x (.head _);have U:=qU 19 x.toNat (by unfold ak at J;omega) (by omega);have e:dc (x::t)=dU x.toNat++[32]++dc t:=by simp[dc]
  rw[e];simp only[r8,l6,List.length_nil];omega
set_option maxHeartbeats 4000000 in
theorem EW {w:x2} {g gs aJ:Nat} {A B:an} {s:Option aw} {clean:Bool} {sv:x1} {sizes:List Int} {aR:x1→x2→Prop}
  (h:cw w g gs A B clean s) (aS:aC .i64 w sv sizes) (bh:∀ r,leads sv r→¬ba g gs A r∧r≠aJ) (bi:∀ z∈sizes,1≤z∧z≤ak) (b5:sizes.length≤100001) (bj:dW w) (h1:bQ g gs A B 1)
  (aT:ad w aJ db [.slice none 0 0,.int .i64 0]) (aU:¬ba g gs A aJ) (aV:¬B aJ)
  (aW:∀ t w' Y gt,t.length=sizes.length→(∀ x∈t,0≤x∧x≤ak)→af (fun r=>ba g gs A r∨r=aJ) w w'→ad w' aJ db [Y,.int .i64 0]→am .i64 aj w' gt Y t→w.heap.size≤gt→
   cw w' g gs A B clean ((dL sizes [] s).map (·.2))→(∀ q,dL sizes [] s=some q→t=q.1)→aR (bb (dc t)) w'):
  bM (.string ⟨#[]⟩) (.int .i64 0) w fun key aK ag bk=>
   O x5 (aB .lss ab false false aK (.int .i64 (sizes.length:Int))) ag fun bl=>
   Split bl (O x5 (j4 ap sv aK) ag fun bm=>
   O x5 (x7 aj bm) ag fun bn=>
   O x5 (aB .sub aj false true bn (.int .i64 1)) ag fun bo=>
   ah x5 kd [.pointer (some ⟨g,0,none⟩),(.int .i64 0),bo] ag fun aX al=>
   O x5 (c9 aX 0) al fun aY=>
   O x5 (c9 aX 1) al fun b6=>
   O x5 (x8 db (.pointer (some ⟨aJ,0,none⟩)) 0) al fun bp=>
   O x5 (x7 ap bp) al fun bq=>
   aA x5 (j9 ap 1 #[(0,aY)]) al fun br bt=>
   aA x5 (l5 #[ap,ap] ap #[bq,br]) bt fun bu a2=>
   O x5 (x8 db (.pointer (some ⟨aJ,0,none⟩)) 0) a2 fun bw=>
   aA x5 (o7 ap bw bu) a2 fun(_:Unit) bx=>
   ah x5 qx [aY] bx fun bz ax=>
   O x5 (aB .add cc false true bz (.string ⟨#[32]⟩)) ax fun bA=>
   O x5 (aB .add cc false false key bA) ax fun bB=>
   O x5 (aB .add ab false true aK (.int .i64 1)) ax fun bC=>
   bk bB bC ax) (aR key ag):=by
 have b7:=aT.lt;have bD:=h.side;obtain⟨b8,b9,ca,bE,bF⟩:=bD;refine bM.range sizes.length (fun j key Z=>∃ t Y gt W,key=bb (dc t)∧t.length=j∧(∀ x∈t,0≤x∧x≤ak)∧af (fun r=>ba g gs A r∨r=aJ) w Z∧ad Z aJ db [Y,.int .i64 0]∧am .i64 aj Z gt Y t∧w.heap.size≤gt∧
  cw Z g gs A B clean W∧dL sizes [] s=dL (sizes.drop j) t W) aS.le ⟨[],_,w.heap.size,s,rfl,rfl,fun x J=>(by cases J),af.refl _ _,aT,am.nil _ _ _ _,u9 _,h,rfl⟩ ?_ ?_
 rotate_left
 ·rintro _ Z bG ⟨t,Y,gt,W,rfl,ay,aq,ai,az,aD,aL,aE,he⟩;rw[ao,aa];refine⟨fun h=>by omega,fun _=>?_⟩;rw[List.drop_length] at he;cases W with
  |none=>
   have he:dL sizes [] s=none:=he;exact aW t Z Y gt ay aq ai az aD aL (by rw[he];exact aE) (fun q E=>by rw[he] at E;cases E)
  |some W=>
   have he:dL sizes [] s=some (t,W):=he;exact aW t Z Y gt ay aq ai az aD aL (by rw[he];exact aE) (fun q E=>by rw[he] at E;cases E;rfl)
 rintro j _ Z bG a6 ⟨t,Y,gt,W,rfl,ay,aq,ai,az,aD,aL,aE,he⟩ bH;obtain⟨z,aM⟩:∃ z,sizes[j]? =some z:=⟨_,y0 a6⟩;have bI:=bi z (x4 aM);have cb:z≤4611686018427387904:=bI.2;have bJ:aC .i64 Z sv sizes:=hg aS ai fun r X a n c ac bK=>by
  have:=bh r ⟨a,n,c,ac,bK⟩;exact X.elim this.1 this.2
 have gT:∀ r,ba g gs A r→r<w.heap.size:=bE;rw[ao,aa];refine⟨fun _=>?_,fun h=>by omega⟩;rw[a1 ap.u aj.i (by kernel_rfl) bJ aM,cY,wrap_i64 (by omega) (by omega)];refine (je aE).mono ?_;rintro _ cd _ ⟨bL,n,at_,rfl,a7,bN⟩;obtain⟨aG,bO⟩:=bL.of;have a8:0≤n∧n≤ak:=by
  cases E:aO 0 (z-1) W with
  |none=>rw[bN E];exact⟨by omega,by unfold ak;omega⟩
  |some q=>
   rw[a7 q E];have:=jP (s':=q.2) (n:=q.1) E;exact⟨this.1,by unfold ak;omega⟩
 rw[av (v:=.int .i64 n) rfl,av (v:=.int .i64 at_) rfl];have bc:=az.U aG aU;have bP:=aD.U aG fun _ bR=>by have:=gT _ bR;omega
 rw[ae db.p rfl,V (by kernel_rfl) (bc.cell (o:=0+0) rfl)];refine dC ap.u aj.i rfl fun a ce bS cg au bT=>?_;refine gM ap.u aj.i rfl (bP.ext au) bT.ls (by simp;omega) (by simp;omega) fun bd be bU ch aN aH=>?_;have ci:=ai.size;have cj:=aG.size;have z3:=au.size;have z4:=aH.size;rw[ae db.p rfl];have bV:=(bc.ext au).U aH (fun he=>by have he:aJ=gt:=he;omega);refine aZ (g:=aJ) (o:=0) ap.i aN.ls.cells.1 aN.ls.cells.2 bV (by simp) fun bf aP ck aQ=>?_;have aQ:ad bf aJ db [bd,.int .i64 0]:=aQ;have bW:af (fun r=>ba g gs A r∨r=aJ) w bS:=(ai.trans (aG.mono fun r _ h=>.inl h)).trans (au.U _);have bX:af (fun r=>ba g gs A r∨r=aJ) w bU:=fk bW aH fun r X he=>by have he:r=gt:=he;omega
 have bg:af (fun r=>ba g gs A r∨r=aJ) w bf:=bX.trans (aP.mono fun r _ h=>.inr h);have bY:¬(fun r=>ba g gs A r∨r=aJ) 1:=fun h=>h.elim h1.1 fun h=>aV (h▸h1.2);obtain⟨m,rfl⟩:∃ m:Nat,n=(m:Int):=⟨n.toNat,by omega⟩;unfold ak at a8;refine (EU (bj.U bg bY) (by omega)).mono ?_;rintro _ cl _ ⟨rfl,aI⟩;have cm:=qU 19 m (by omega) (by omega);have cn:=wT t aq;rw[show (ByteArray.mk #[32])=strOfNums [32] from rfl,qQ (by simp;omega),qQ (by simp;omega),aF];refine bH _ _ ⟨t++[(m:Int)],bd,be,(aO 0 (z-1) W).map (·.2),?_,by simp[ay],fun x J=>?_,bg.trans (aI.U _),aQ.ext aI,(aN.U aP (fun _ he=>by have he:be=aJ:=he;omega)).ext aI,by omega,?_,?_⟩
 ·rw[C7,c8]
 ·rcases p9.1 J with J|J
  ·exact aq x J
  ·rw[p8.1 J];exact a8
 ·refine cw.ext ?_ aI;have bZ:=bO.ext au;have b1:∀ r,ba g gs A r→¬(fun r=>r=gt) r:=fun r X he=>by have:=gT r X;have he:r=gt:=he;omega
  have b2:∀ r,bQ g gs A B r→¬(fun r=>r=gt) r:=fun r X he=>by have:=bF r X.2;have he:r=gt:=he;omega
  have b3:∀ r,ba g gs A r→¬(fun r=>r=aJ) r:=fun r X he=>by have he:r=aJ:=he;exact aU (he▸X)
  have b4:∀ r,bQ g gs A B r→¬(fun r=>r=aJ) r:=fun r X he=>by have he:r=aJ:=he;exact aV (he▸X.2)
  exact (bZ.U aH b1 b2).U aP b3 b4
 ·rw[he,Y2 a6,show sizes[j]=z from (x3.1 aM).2,wS];cases E:aO 0 (z-1) W with
  |none=>rfl
  |some q=>
   rw[a7 q E];rfl
def cX (s:aw):Prop:=s.big=false→s.told≤16384
def hq (n:Int) (s:aw):aw:=aQ (decide (16384<min (s.told+n) ak)) {s with told:=min (s.told+n) ak}
theorem EX (n:Int) (s:aw):cX (hq n s):=fun h=>by
 have h:(s.big||decide (16384<min (s.told+n) ak))=false:=h;have:=of_decide_eq_false (V7.1 h).2;show min (s.told+n) ak≤16384;omega
theorem EY {w:x2} {g gs:Nat} {A B:an} {s:Option aw} {clean:Bool} {n at_:Int} {K:x2→Prop} (h:cw w g gs A B clean s) (au:∀ t,s=some t→0≤n∧n≤ak∧cX t)
  (am:∀ w',af (ba g gs A) w w'→cw w' g gs A B clean (s.map (hq n))→K w'):
  O x5 (bk (.pointer (some ⟨g,0,none⟩))) w fun av=>
  O x5 (x8 bC av 2) w fun az=>
  O x5 (x7 aj az) w fun aC=>
  O x5 (aB .add aj false false aC (.int .i64 n)) w fun aD=>
  O x5 (n0.min_ #[aj,aj] aj #[aD,(.int .i64 4611686018427387904)]) w fun aE=>
  O x5 (bk (.pointer (some ⟨g,0,none⟩))) w fun aG=>
  O x5 (x8 bC aG 2) w fun aH=>
  aA x5 (o7 aj aH aE) w fun(_:Unit) Y=>
  O x5 (bk (.pointer (some ⟨g,0,none⟩))) Y fun t77=>
  O x5 (x8 bC t77 2) Y fun aI=>
  O x5 (x7 aj aI) Y fun aJ=>
  O x5 (aB .gtr aj false true aJ (.int .i64 16384)) Y fun aK=>
  ah x5 mj [.pointer (some ⟨g,0,none⟩),aK,.int .i64 at_] Y fun _ aL=>K aL:=by
 cases s with
 |none=>
  obtain⟨W,e,big,aa,ab,told,sv,l,Z,ac,ai⟩:=id h;rw[ax,ae bC.p rfl,V (by kernel_rfl) (Z.cell (o:=0+5) rfl),aF,i7,ax,ae bC.p rfl];refine aZ (g:=g) (o:=5) aj.i rfl rfl Z (by simp[ee]) fun ag E aM J=>?_;rw[ax,ae bC.p rfl,V (by kernel_rfl) (J.cell (o:=0+5) rfl),bA];have ao:dn ag g gs A B:=⟨W.U E,e,big,aa,ab,_,sv,l,J,ac,ay.U ai E fun r _ h al=>oK h W.2.1 al⟩;refine (vY ao).mono ?_;rintro _ aN _ ap;exact am _ ((E.mono fun r _ h=>.inl h).trans (ap.U _)) (ao.ext ap)
 |some s=>
  obtain⟨aV,aO,hi⟩:=au s rfl;obtain⟨W,aP,aR,big,aa,ab,told,sv,Z,ac,ai⟩:=id h;rw[ax,ae bC.p rfl,V (by kernel_rfl) (Z.cell (o:=0+5) rfl),aF,i7,ax,ae bC.p rfl];refine aZ (g:=g) (o:=5) aj.i rfl rfl Z (by simp[ee]) fun ag E aM J=>?_;have J:ad ag g bC (ee gs 0 big aa ab (min (X0.wrap (told+n)) 4611686018427387904) sv):=J;rw[ax,ae bC.p rfl,V (by kernel_rfl) (J.cell (o:=0+5) rfl),bA];have key:s.big=false→min (X0.wrap (told+n)) 4611686018427387904=min (s.told+n) ak:=fun X=>by
   rw[ac.2 X];have:=hi X;unfold ak at aO ⊢;rw[wrap_i64 (by omega) (by omega)]
  have aS:cq ag g gs A B {s with told:=min (s.told+n) ak} clean:=⟨W.U E,aP.U E (fun he=>W.1 he.symm) (fun r aT he=>aT.1 (.inl he)),⟨by show 0≤min _ _;unfold ak;omega,by show min _ _≤_;omega,aR.2.2⟩,big,aa,ab,_,sv,J,⟨ac.1,key⟩,ay.U ai E fun r _ h al=>oK h W.2.1 al⟩;refine (oN aS).mono ?_;rintro _ aN _ ⟨aU,aq⟩;refine am _ ((E.trans aU).mono fun r _ h=>.inl h) ?_;have e:aQ (decide (16384<min (X0.wrap (told+n)) 4611686018427387904)) {s with told:=min (s.told+n) ak}=hq n s:=by
   cases X:s.big with
   |false=>rw[key X,←X];rfl
   |true=>simp[hq,aQ,X]
  rw[e] at aq;exact aq
def gp (sizes:List Int) (s:Option aw):Option (List (List Int×Int)×aw):=s.bind (cW sizes)
def iy (w:x2) (m:Nat) (acc:List (List Int×Int)):Prop:=cg w m (acc.map fun p=>(bb (dc p.1),.int .i64 1))
def hX (w:x2) (m:Nat):Prop:=∃ d,cg w m d∧ ∀ p∈d,∃ (k:ByteArray) (c:Int),p=(.string k,.int .i64 c)
theorem iy.any {w:x2} {m:Nat} {acc:List (List Int×Int)} (h:iy w m acc):hX w m:=⟨_,h,fun p E=>by
 obtain⟨q,_,rfl⟩:=o6.1 E;exact⟨_,_,rfl⟩⟩
theorem EZ {w:x2} {m:Nat} {k:ByteArray} {K:x1→Prop} (h:hX w m) (U:∀ c:Int,K (.int .i64 c)):O x5 (Instr.lookup e6 (.map (some m)) (.string k) false) w K:=by
 obtain⟨d,hm,V⟩:=h;have W:=Keys.str cc.u;have X:∀ p∈d,∃ s,p.1=x1.string s:=fun p E=>by obtain⟨s,c,rfl⟩:=V p E;exact⟨s,rfl⟩
 by_cases he:∃ p∈d,p.1=x1.string k
 ·obtain⟨p,E,J⟩:=he;obtain⟨j,Y⟩:=Y6.1 E;obtain⟨s,c,rfl⟩:=V p E;have J:x1.string s=x1.string k:=J;rw[J] at Y;rw[mM e6.u W hm X ⟨k,rfl⟩ Y];exact U c
 ·have Z:∀ p∈d,p.1≠x1.string k:=fun p E h=>he ⟨p,E,h⟩;rw[oS e6.u W ⟨_,_,ab.i⟩ hm X ⟨k,rfl⟩ Z];exact U 0
theorem E0 {w:x2} {m:Nat} {k:ByteArray} {c:Int} {K:Unit→x2→Prop} (h:hX w m) (V:∀ w',af (fun r=>r=m) w w'→hX w' m→K () w'):aA x5 (Instr.mapUpdate e6 (.map (some m)) (.string k) (.int .i64 c)) w K:=by
 obtain⟨d,hm,J⟩:=h;have W:∀ p∈d,∃ s,p.1=x1.string s:=fun p E=>by obtain⟨s,c,rfl⟩:=J p E;exact⟨s,rfl⟩
 refine mN e6.u (Keys.str cc.u) hm W ⟨k,rfl⟩ (fun j v0 w' X O U=>V w' U ⟨_,O,fun p E=>?_⟩) (fun w' Y O U=>V w' U ⟨_,O,fun p E=>?_⟩)
 ·rcases V2 E with E|rfl
  ·exact J p E
  ·exact⟨_,_,rfl⟩
 ·rcases p9.1 E with E|E
  ·exact J p E
  ·rw[p8.1 E];exact⟨_,_,rfl⟩
theorem wU {a b:List Int} (E:∀ x∈a,0≤x) (J:∀ x∈b,0≤x) (h:bb (dc a)=bb (dc b)):a=b:=by
 have h:strOfNums (dc a)=strOfNums (dc b):=x1.string.inj h;exact vc E J (str_inj (vd a) (vd b) h)
theorem rp {acc:List (List Int×Int)}:∀ p∈acc.map fun p=>(bb (dc p.1),Y5 .i64 1),∃ s,p.1=x1.string s:=fun p E=>by
 obtain⟨q,_,rfl⟩:=o6.1 E;exact⟨_,rfl⟩
theorem wV {w:x2} {m:Nat} {acc:List (List Int×Int)} {t:List Int} {K:x1→Prop} (h:iy w m acc) (V:∀ p∈acc,∀ x∈p.1,0≤x) (W:∀ x∈t,0≤x):
  O x5 (Instr.lookup e6 (.map (some m)) (bb (dc t)) false) w K=K (.int .i64 (if t∈acc.map (·.1) then 1 else 0)):=by
 have J:=Keys.str cc.u;by_cases he:t∈acc.map (·.1)
 ·rw[if_pos he];obtain⟨p,E,rfl⟩:=o6.1 he;obtain⟨j,X⟩:=Y6.1 E;rw[mM e6.u J h rp ⟨_,rfl⟩ (j:=j) (v:=.int .i64 1) (by rw[x6,X];rfl)];simp
 ·rw[if_neg he];rw[oS e6.u J ⟨_,_,ab.i⟩ h rp ⟨_,rfl⟩ (fun p E Y=>?_)]
  ·simp
  ·obtain⟨q,U,rfl⟩:=o6.1 E;have:=wU (V q U) W Y;exact he (o6.2 ⟨q,U,this⟩)
theorem E1 {w:x2} {m:Nat} {acc:List (List Int×Int)} {t:List Int} {c:Int} {K:Unit→x2→Prop} (h:iy w m acc) (W:∀ p∈acc,∀ x∈p.1,0≤x) (X:∀ x∈t,0≤x) (Y:t∉acc.map (·.1))
  (Z:∀ w',af (fun r=>r=m) w w'→iy w' m (acc++[(t,c)])→K () w'):aA x5 (Instr.mapUpdate e6 (.map (some m)) (bb (dc t)) (.int .i64 1)) w K:=by
 refine mN e6.u (Keys.str cc.u) h rp ⟨_,rfl⟩ (fun j v0 w' J O U=>?_) (fun w' _ O U=>Z w' U ?_)
 ·rw[x6] at J;obtain⟨q,V,E⟩:=b8.1 J;have E:bb (dc q.1)=bb (dc t):=congrArg Prod.fst E;have:=wU (W q (x4 V)) X E;exact absurd (o6.2 ⟨q,x4 V,this⟩) Y
 ·unfold iy;rw[o9];exact O
theorem E2 {w:x2} {m:Nat} {acc:List (List Int×Int)} {t:List Int} {c:Int} {ok:Prop} {K:Unit→x2→Prop} (U:hX w m) (aa:ok→iy w m acc∧(∀ p∈acc,∀ x∈p.1,0≤x)∧(∀ x∈t,0≤x)∧t∉acc.map (·.1))
  (V:∀ w',af (fun r=>r=m) w w'→hX w' m→(ok→iy w' m (acc++[(t,c)]))→K () w'):
  O x5 (Instr.lookup e6 (.map (some m)) (bb (dc t)) false) w fun ac=>
  O x5 (aB .add ab false true ac (.int .i64 1)) w fun ad=>
  aA x5 (Instr.mapUpdate e6 (.map (some m)) (bb (dc t)) ad) w K:=by
 by_cases W:ok
 ·obtain⟨h1,X,Y,Z⟩:=aa W;rw[wV h1 X Y,if_neg Z,aF,wrap_i64 (by omega) (by omega)];exact E1 (c:=c) h1 X Y Z fun w' J E=>V w' J E.any fun _=>E
 ·refine EZ U fun ae=>?_;rw[aF];exact E0 U fun w' J E=>V w' J E fun h=>absurd h W
def dX {α:Type} (f:List α→aw→Option (α×aw)) (n:Nat) (acc:List α) (o:Option aw):Option (List α×aw):=o.bind (b1 f n acc)
theorem hX.U {S:Nat→Prop} {w w':x2} {m:Nat} (h:hX w m) (J:af S w w') (E:¬S m):hX w' m:=by
 obtain⟨d,h1,O⟩:=h;exact⟨d,h1.U J E,O⟩
theorem cw.words {w:x2} {g gs:Nat} {A:an} {B:an} {clean:Bool} {s:aw} (h:cw w g gs A B clean (some s)):s.toks.length≤100000:=by
 have h:cq w g gs A B s clean:=h;exact h.2.1.words.1
theorem wW {sizes:List Int} {acc:List (List Int×Int)} {st:aw} {t:List Int} {c:Int} (O:∀ q,dL sizes [] (some st)=some q→t=q.1) (E:∀ q,aO 0 ak ((dL sizes [] (some st)).map (·.2))=some q→c=q.1):
  (aO 0 ak ((dL sizes [] (some st)).map (·.2))=none→cV sizes acc st=none)∧ ∀ q,aO 0 ak ((dL sizes [] (some st)).map (·.2))=some q→cV sizes acc st=if t∈acc.map (·.1) then none else some ((t,c),q.2):=by
 have e:dL sizes [] (some st)=gk sizes [] st:=rfl;rw[e] at O E ⊢;unfold cV;cases h1:gk sizes [] st with
 |none=>exact⟨fun _=>rfl,fun q J=>(by cases J)⟩
 |some q=>
  obtain⟨X,U⟩:=q;rw[h1] at O E;have:=O _ rfl;subst this;have V:aO 0 ak ((some (t,U)).map (·.2))=aT 0 ak U:=rfl;rw[V] at E ⊢;simp only;cases W:aT 0 ak U with
  |none=>exact⟨fun _=>rfl,fun q J=>(by cases J)⟩
  |some q=>
   obtain⟨Y,Z⟩:=q;rw[W] at E;have:=E _ rfl;subst this;exact⟨fun h=>(by cases h),fun q J=>(by cases J;rfl)⟩
set_option maxHeartbeats 8000000 in
theorem E3 {w:x2} {g gs N:Nat} {A B:an} {s:Option aw} {clean:Bool} {sv:x1} {sizes:List Int} {Q:x1→x2→Prop}
  (h:cw w g gs A B clean s) (cb:aC .i64 w sv sizes) (bm:∀ r,leads sv r→¬ba g gs A r∧r<w.heap.size) (cd:∀ z∈sizes,1≤z∧z≤ak) (ce:sizes.length≤100001) (ch:dW w) (h1:bQ g gs A B 1) (ci:(N:Int)≤ak)
  (bK:∀ v w' l,er w g gs A B clean ((dX (cV sizes) N [] s).map (·.2)) w'→de (dD w.heap.size) a8 w' [v] (show List (List Int×Int) from l)→(∀ q,dX (cV sizes) N [] s=some q→l=q.1)→Q v w'):
  aA x5 (Instr.makeMap e6 none) w fun bn W=>
 bM (.slice none 0 0) (.int .i64 0) W fun out i ag k=>
  bR (α:=x1→x2→Prop) (fun(cj:x1) (aE:x2)=>
   Split cj (aA x5 (Instr.alloc db true (.tuple #[])) aE fun x V=>
  O x5 (Z8 #[ap] ab #[sv]) V fun ck=>
  bM (.string ⟨#[]⟩) (.int .i64 0) V fun key bo aG cl=>
   O x5 (aB .lss ab false false bo ck) aG fun cm=>
   Split cm (O x5 (j4 ap sv bo) aG fun cn=>
   O x5 (x7 aj cn) aG fun cp=>
   O x5 (aB .sub aj false true cp (.int .i64 1)) aG fun cq=>
   ah x5 kd [.pointer (some ⟨g,0,none⟩),(.int .i64 0),cq] aG fun bL aQ=>
   O x5 (c9 bL 0) aQ fun bN=>
   O x5 (c9 bL 1) aQ fun dK=>
   O x5 (x8 db x 0) aQ fun cr=>
   O x5 (x7 ap cr) aQ fun ct=>
   aA x5 (j9 ap 1 #[(0,bN)]) aQ fun cu ai=>
   aA x5 (l5 #[ap,ap] ap #[ct,cu]) ai fun cz bO=>
   O x5 (x8 db x 0) bO fun cA=>
   aA x5 (o7 ap cA cz) bO fun(_:Unit) cB=>
   ah x5 qx [bN] cB fun cC a2=>
   O x5 (aB .add cc false true cC (.string ⟨#[32]⟩)) a2 fun cD=>
   O x5 (aB .add cc false false key cD) a2 fun cE=>
   O x5 (aB .add ab false true bo (.int .i64 1)) a2 fun cF=>
   cl cE cF a2)
    (ah x5 kd [.pointer (some ⟨g,0,none⟩),(.int .i64 0),(.int .i64 4611686018427387904)] aG fun bP a6=>
  O x5 (c9 bP 0) a6 fun cG=>
  O x5 (c9 bP 1) a6 fun cH=>
  O x5 (x8 db x 1) a6 fun cI=>
  aA x5 (o7 aj cI cG) a6 fun(_:Unit) cJ=>
  bR (α:=x2→Prop) (fun(aH:x2)=>
   O x5 (Instr.lookup e6 bn key false) aH fun cK=>
   O x5 (aB .add ab false true cK (.int .i64 1)) aH fun cL=>
   aA x5 (Instr.mapUpdate e6 bn key cL) aH fun(_:Unit) aR=>
   O x5 (x7 db x) aR fun cM=>
   aA x5 (j9 gh 1 #[(0,cM)]) aR fun cN aW=>
   aA x5 (l5 #[gh,gh] gh #[out,cN]) aW fun cO a7=>
   O x5 (aB .add aj false true i (.int .i64 1)) a7 fun cP=>
  k cO cP a7) fun bS=>
  bR (α:=x1→x2→Prop) (fun(cQ:x1) (ax:x2)=>
   Split cQ (ah x5 ke [.pointer (some ⟨g,0,none⟩),(.int .i64 4),cH] ax fun dM bT=>
    bS bT)
    (bS ax)) fun bU=>
  ah x5 ih [.pointer (some ⟨g,0,none⟩)] cJ fun cR aS=>
  Split cR (O x5 (Instr.lookup e6 bn key false) aS fun cS=>
  O x5 (aB .gtr ab false true cS (.int .i64 0)) aS fun cU=>
  bU cU aS)
   (bU (.bool false) aS)))
    (Q out aE)) fun bV=>
  O x5 (aB .lss aj false false i (.int .i64 (N:Int))) ag fun cW=>
  Split cW (ah x5 ih [.pointer (some ⟨g,0,none⟩)] ag fun cX cY=>
  bV cX cY)
   (bV (.bool false) ag):=by
 obtain⟨dN,dO,dP,cZ,bb⟩:=h.side;have gT:∀ r,ba g gs A r→r<w.heap.size:=cZ;unfold ak at ci;refine oR fun X W dQ bp bq=>?_;have dR:=bp.size;have dS:=bq.lt;generalize Y:dX (cV sizes) N [] s=bW at bK;refine⟨fun out br ag=>∃ (i:Nat) (acc:List (List Int×Int)) (so:Option aw),br= .int .i64 (i:Int)∧i≤N∧af (ba g gs A) w ag∧W.heap.size≤ag.heap.size∧de (dD W.heap.size) a8 ag [out] acc∧cw ag g gs A B clean so∧
   bW=dX (cV sizes) (N-i) acc so∧hX ag X∧acc.length≤100001∧ ∀ st,so=some st→iy ag X acc∧(∀ p∈acc,∀ x∈p.1,0≤x)∧acc.length+st.toks.length≤100000,
  fun _ br _=>N-(bl br).toNat,⟨0,[],s,rfl,Z1 _,bp.U _,u9 _,im,h.ext bp,Y.symm,⟨[],bq,fun p au=>(by cases au)⟩,by simp,fun st c0=>⟨bq,fun p au=>(by cases au),?_⟩⟩,?_⟩
 ·subst c0;have:=h.words;simpa using this
 rintro out _ ag ⟨i,acc,so,rfl,dT,bX,z9,bY,bt,bc,c1,dU,bu⟩;refine aL (fun v aE=>Ext ag aE∧((v= .bool true∧i<N∧ ∃ st,so=some st)∨(v= .bool false∧(so=none∨i=N)))) ?_ ?_
 rotate_left
 ·intro dV bw;rw[ao,aa];refine⟨fun c2=>?_,fun dY=>bw _ _ ⟨Ext.refl _,.inr ⟨rfl,.inr (by omega)⟩⟩⟩;refine (lK bt).mono ?_;rintro _ aE _ ⟨rfl,az⟩;cases so with
  |none=>exact bw _ _ ⟨az,.inr ⟨rfl,.inl rfl⟩⟩
  |some st=>exact bw _ _ ⟨az,.inl ⟨rfl,by omega,st,rfl⟩⟩
 rintro _ aE ⟨az,c3⟩;rcases c3 with⟨rfl,c2,st,rfl⟩|⟨rfl,c4⟩
 rotate_left
 ·rw[aP];have bZ:bW=so.map fun st=>(acc,st):=by
   rcases c4 with rfl|rfl
   ·exact bc
   ·rw[X6] at bc;rw[bc];cases so <;> rfl
  refine bK out aE acc (er.mk (bX.trans (az.U _)) ?_) (cT (ay.mono bY (fun r _ h=>by have h:W.heap.size≤r:=h;show w.heap.size≤r;omega) fun _ _ h=>h) az) (fun q al=>?_)
  ·rw[bZ,Option.map_map];have e:X1 ((fun x=>x.2)∘fun st=>(acc,st)) so=so:=by cases so <;> rfl
   rw[e];exact bt.ext az
  ·rw[bZ] at al;cases so with
   |none=>cases al
   |some st=>cases al;rfl
 rw[bh];obtain⟨bu,bx,dZ⟩:=bu st rfl;have ea:=az.size;refine bi db.i fun aJ V eb b1 b2=>?_;have aX:=az.trans b1;have bz:af (ba g gs A) w V:=bX.trans (aX.U _);have b3:aC .i64 V sv sizes:=hg cb bz fun r E a n c ac c5=>(bm r ⟨a,n,c,ac,c5⟩).1 E;rw[aI ap.u b3];have bd:¬ba g gs A aJ:=fun Y=>by have:=gT _ Y;omega
 refine EW (s:=some st) (bt.ext aX) b3 (fun r E=>⟨(bm r E).1,by have:=(bm r E).2;omega⟩) cd ce (ch.U bz h1.1) h1 b2 bd (fun c6=>by have:=bb _ c6;omega) fun t aG aK gt ec c7 b4 c8 da dc df dg=>?_;have ed:=b1.size;have z12:=b4.size;have ee:=b2.lt;have bB:∀ x∈t,0≤x:=fun x J=>(c7 x J).1;refine (je df).mono ?_;rintro _ aQ _ ⟨bC,c,dh,rfl,di,ef⟩;obtain⟨be,dj⟩:=bC.of;have eg:=be.size;rw[av (v:=.int .i64 c) rfl,av (v:=.int .i64 dh) rfl,ae db.p rfl];refine aZ (g:=aJ) (o:=1) aj.i rfl rfl (c8.U be bd) (by simp) fun ai bf eh bD=>?_;have bD:ad ai aJ db [aK,.int .i64 c]:=bD;have dk:am .i64 aj ai gt aK t:=(da.U be (fun _ Y=>by have:=gT _ Y;omega)).U bf (fun _ he=>by have he:gt=aJ:=he;omega);have bE:af (fun r=>ba g gs A r∨r=aJ) V ai:=(b4.trans (be.mono fun r _ h=>.inl h)).trans (bf.mono fun r _ h=>.inr h);have aM:cw ai g gs A B clean ((aO 0 ak ((dL sizes [] (some st)).map (·.2))).map (·.2)):=dj.U bf (fun r E he=>by have he:r=aJ:=he;exact bd (he▸E)) (fun r E he=>by have:=bb r E.2;have he:r=aJ:=he;omega);have b5:¬(fun r=>ba g gs A r∨r=aJ) X:=fun h=>h.elim (fun h=>by have:=gT _ h;omega) (fun h=>by omega);have dl:hX ai X:=(c1.U (aX.U (fun _=>False)) (fun h=>h)).U bE b5;have b6:iy ai X acc:=(cg.ext bu aX).U bE b5;obtain⟨bF,bG⟩:=wW (acc:=acc) dg di;refine dd (fun aH=>af (ba g gs A) ai aH∧cw aH g gs A B clean ((cV sizes acc st).map (·.2))) ?_ ?_
 ·rintro aH ⟨aT,dm⟩;have bH:¬ba g gs A X:=fun h=>by have:=gT _ h;omega
  have ei:=bf.size;have ej:=aT.size;refine E2 (acc:=acc) (t:=t) (c:=c) (ok:=∃ q,cV sizes acc st=some q) (dl.U aT bH) (fun⟨q,al⟩=>⟨cg.U b6 aT bH,bx,bB,fun aD=>?_⟩) fun aR aY dn dp=>?_
  ·cases aq:aO 0 ak ((dL sizes [] (some st)).map (·.2)) with
   |none=>rw[bF aq] at al;cases al
   |some aU=>rw[bG aU aq,if_pos aD] at al;cases al
  have ek:=aY.size;have dq:ad aR aJ db [aK,.int .i64 c]:=(bD.U aT bd).U aY (fun he=>by have he:aJ=X:=he;omega);have dr:am .i64 aj aR gt aK t:=(dk.U aT (fun _ Y=>by have:=gT _ Y;omega)).U aY (fun _ he=>by have he:gt=X:=he;omega);rw[bj db.p db.i rfl dq.range];have b7:de (dD V.heap.size) a8 aR [aK,.int .i64 c] (t,c):=⟨[aK],[.int .i64 c],dD V.heap.size,a8,rfl,fun _ h=>h,fun _ h=>h.elim,fun _ _ _ h=>h,ay.mono (lm dr) (fun r _ h=>by subst h;exact dc) (fun _ _ h=>h),rfl⟩;refine kp (α:=List Int×Int) (a:=(t,c)) (cs:=[aK,.int .i64 c]) (A:=dD V.heap.size) (R:=a8) gh.u db.i (by decide) rfl b7 fun u aW aV _ ds=>?_;have z22:=aV.size;have dt:de (fun r=>dD W.heap.size r∧r<V.heap.size∧r≠aJ) a8 V [out] acc:=cT (ay.mono (jE bY) (fun r _ h=>⟨h.1,by have:=h.2;omega,by have:=h.2;omega⟩) fun _ _ h=>h) aX;have b9:af (fun r=>ba g gs A r∨r=aJ∨r=X) V aW:=(((bE.mono fun r _ h=>h.elim .inl fun h=>.inr (.inl h)).trans (aT.mono fun r _ h=>.inl h)).trans (aY.mono fun r _ h=>.inr (.inr h))).trans (aV.U _);have du:=ay.U dt b9 fun r E h Y=>by
   rcases h with h|h
   ·have bg:W.heap.size≤r:=h.1;rcases Y with Y|Y|Y
    ·have:=gT _ Y;omega
    ·exact h.2.2 Y
    ·omega
   ·exact h
  refine ll (α:=List Int×Int) (a:=(t,c)) (A:=dD V.heap.size) gh.u db.i rfl du ds (cT b7 aV) (fun r _ h h'=>?_) (by omega) (by omega) fun em a7 dv a1=>?_
  ·rcases h' with h'|h'
   ·have:=h.2;have:V.heap.size≤r:=h';omega
   ·exact h'
  have en:=a1.size;rw[aF,wrap_i64 (by omega) (by omega)];have dw:af (ba g gs A) w aW:=fk bz b9 fun r E h=>by
   rcases h with h|h|h
   ·exact h
   ·omega
   ·omega
  have dx:af (ba g gs A) w a7:=fk dw a1 fun r E h=>by have bg:W.heap.size≤r:=h.1;omega
  have dy:cw aW g gs A B clean ((cV sizes acc st).map (·.2)):=(dm.U aY (fun r E he=>by have he:r=X:=he;exact bH (he▸E)) (fun r E he=>by have:=bb r E.2;have he:r=X:=he;omega)).ext aV;have dz:∀ r,ba g gs A r→¬(dD W.heap.size r∧r<V.heap.size∧r≠aJ):=fun r E he=>by have:=gT _ E;have bg:W.heap.size≤r:=he.1;omega
  have dA:∀ r,bQ g gs A B r→¬(dD W.heap.size r∧r<V.heap.size∧r≠aJ):=fun r E he=>by have:=bb r E.2;have bg:W.heap.size≤r:=he.1;omega
  have ca:¬(dD W.heap.size X∧X<V.heap.size∧X≠aJ):=fun he=>by have bg:W.heap.size≤X:=he.1;omega
  refine⟨⟨i+1,acc++[(t,c)],(cV sizes acc st).map (·.2),rfl,by omega,dx,by omega,?_,dy.U a1 dz dA,?_,(dn.U (aV.U (fun _=>False)) (fun h=>h)).U a1 ca,by simp;omega,fun dC dE=>?_⟩,by simp only[bl];omega⟩
  ·refine ay.mono dv (fun r _ h=>?_) fun _ _ h=>h;show W.heap.size≤r;rcases h with h|h|h
   ·exact h.1
   ·have h:V.heap.size≤r:=h;omega
   ·omega
  ·rw[bc,show N-i=(N-(i+1))+1 by omega];cases Z:cV sizes acc st with
   |none=>exact lD Z
   |some q=>
    obtain⟨a,dC⟩:=q;have dF:a=(t,c):=by
     cases aq:aO 0 ak ((dL sizes [] (some st)).map (·.2)) with
     |none=>rw[bF aq] at Z;cases Z
     |some aU=>
      rw[bG aU aq] at Z;split at Z
      ·cases Z
      ·cases Z;rfl
    subst dF;exact oP Z
  ·obtain⟨q,al,rfl⟩:=b8.1 dE;have eo:=(lA al).2.2.2.1;refine⟨cg.U ((cg.ext (dp ⟨q,al⟩) aV)) a1 ca,fun p au=>?_,by simp only[r8,U2];omega⟩;rcases p9.1 au with au|au
   ·exact bx p au
   ·rw[p8.1 au];exact bB
 ·intro ep bI;cases aq:aO 0 ak ((dL sizes [] (some st)).map (·.2)) with
  |none=>
   rw[aq] at aM;have Z:=bF aq;refine aL (fun v ax=>Ext ai ax∧v= .bool false) ?_ ?_
   ·rintro _ ax ⟨aN,rfl⟩;rw[aP];exact bI _ ⟨aN.U _,by rw[Z];exact aM.ext aN⟩
   ·intro dG bJ;refine (lK aM).mono ?_;rintro _ aS _ ⟨rfl,bk⟩;rw[show ((none:Option (Int×aw)).map (·.2)).isSome=false from rfl,aP];exact bJ _ _ ⟨bk,rfl⟩
  |some aU=>
   rw[aq] at aM;have Z:=bG aU aq;refine aL (fun v ax=>Ext ai ax∧v= .bool (decide (t∈acc.map (·.1)))) ?_ ?_
   ·rintro _ ax ⟨aN,rfl⟩;rw[aa];refine⟨fun aD=>?_,fun dH=>?_⟩
    ·refine (EV (aM.ext aN) (by omega)).mono ?_;rintro _ bT _ bC;obtain⟨dI,dJ⟩:=bC.of;exact bI _ ⟨(aN.U _).trans dI,by rw[Z,if_pos aD];exact dJ⟩
    ·exact bI _ ⟨aN.U _,by rw[Z,if_neg dH];exact aM.ext aN⟩
   ·intro dG bJ;refine (lK aM).mono ?_;rintro _ aS _ ⟨rfl,bk⟩;rw[show ((some aU:Option (Int×aw)).map (·.2)).isSome=true from rfl,bh,wV (cg.ext b6 bk) bx bB,bA];refine bJ _ _ ⟨bk,?_⟩;congr 1;by_cases aD:t∈acc.map (·.1)
    ·rw[if_pos aD,decide_eq_true aD];rfl
    ·rw[if_neg aD,decide_eq_false aD];rfl
theorem wX (sizes:List Int) (s:Option aw):gp sizes s=match aO (-ak) ak s with
 |none=>none
 |some (n,s)=>
  if n<0 then match s.shared[(-n-1).toNat]? with
   |none=>none
   |some (z,l)=>if z=sizes then some (l,s) else none
  else b1 (cV sizes) n.toNat [] (hq n s):=by
 cases s with
 |none=>rfl
 |some s=>
  show cW sizes s=_;unfold cW;show _=match aT (-ak) ak s with
   |none=>none
   |some (n,s)=>
    if n<0 then match s.shared[(-n-1).toNat]? with
     |none=>none
     |some (z,l)=>if z=sizes then some (l,s) else none
    else b1 (cV sizes) n.toNat [] (hq n s)
  cases aT (-ak) ak s <;> rfl
theorem wY {m:Bool} {S R:an} {w:x2} {cs:List x1} {a:gm} (h:ay.rep (α:=gm) m S R w cs a):∃ u v,cs=[u,v]∧ay.rep (α:=List Int) false a8 R w [u] a.1∧ay.rep (α:=List (List Int×Int)) false a8 R w [v] a.2:=by
 obtain⟨c,d,J,O,rfl,_,_,_,h1,E⟩:=h;have h1:ay.rep (α:=List Int) false a8 R w c a.1:=h1;have E:ay.rep (α:=List (List Int×Int)) false a8 R w d a.2:=E;obtain⟨u,rfl⟩:=W8.1 (show c.length=1 from ay.len h1);obtain⟨v,rfl⟩:=W8.1 (show d.length=1 from ay.len E);exact⟨u,v,rfl,h1,E⟩
set_option maxHeartbeats 4000000 in
theorem E4 {w:x2} {g gs:Nat} {A B:an} {s:Option aw} {clean:Bool} {sv:x1} {sizes:List Int}
  (h:cw w g gs A B clean s) (hi:∀ t,s=some t→cX t) (aU:aC .i64 w sv sizes) (aj:∀ r,leads sv r→¬ba g gs A r∧r<w.heap.size) (aV:∀ z∈sizes,1≤z∧z≤ak) (aW:sizes.length≤100001) (aX:dW w) (h1:bQ g gs A B 1):
  ah x5 Bi [.pointer (some ⟨g,0,none⟩),sv] w fun v w'=>er w g gs A B clean ((gp sizes s).map (·.2)) w'∧ ∃ l,Seen (fun r=>bQ g gs A B r∨w.heap.size≤r) w' [v] (show List (List Int×Int) from l)∧ ∀ q,gp sizes s=some q→l=q.1:=by
 have aY:=h.side;obtain⟨bw,bx,bz,aZ,bB⟩:=id aY;have gT:∀ r,ba g gs A r→r<w.heap.size:=aZ;refine aq func201 ?_;refine (je (lo:=-ak) (hi:=ak) h).mono ?_;rintro _ ay _ ⟨a1,n,at_,rfl,az,a2⟩;obtain⟨al,aJ⟩:=a1.of;have bD:=al.size;have J:=wX sizes s;rw[av (v:=.int .i64 n) rfl,av (v:=.int .i64 at_) rfl];have aK:aC .i64 ay sv sizes:=hg aU al fun r Y a n c ac aA=>(aj r ⟨a,n,c,ac,aA⟩).1 Y;have bE:∀ r,leads sv r→¬ba g gs A r∧r<ay.heap.size:=fun r Y=>⟨(aj r Y).1,by have:=(aj r Y).2;omega⟩;have rest:∀ X,Ext ay X→(∀ q,aO (-ak) ak s=some q→¬n<0)→ ∀ N:Nat,n=(N:Int)→(N:Int)≤ak→ ∀ W,af (ba g gs A) X W→cw W g gs A B clean (((aO (-ak) ak s).map (·.2)).map (hq n))→
   ∀ v w' l,er W g gs A B clean ((dX (cV sizes) N [] (((aO (-ak) ak s).map (·.2)).map (hq n))).map (·.2)) w'→de (dD W.heap.size) a8 w' [v] (show List (List Int×Int) from l)→(∀ q,dX (cV sizes) N [] (((aO (-ak) ak s).map (·.2)).map (hq n))=some q→l=q.1)→
   er w g gs A B clean ((gp sizes s).map (·.2)) w'∧ ∃ l,Seen (fun r=>bQ g gs A B r∨w.heap.size≤r) w' [v] (show List (List Int×Int) from l)∧ ∀ q,gp sizes s=some q→l=q.1:=by
  intro X O am N aB aD W ab aE v w' l a6 a7 bb;obtain⟨bc,bd⟩:=a6.of;have be:=O.size;have z3:=ab.size;have e:gp sizes s=dX (cV sizes) N [] (((aO (-ak) ak s).map (·.2)).map (hq n)):=by
   rw[J];cases E:aO (-ak) ak s with
   |none=>rfl
   |some q=>
    obtain⟨bf,ad⟩:=q;have:=az _ E;subst this;simp only;rw[if_neg (am _ E),aB,c8];rfl
  rw[e];refine⟨er.mk (((al.trans (O.U _)).trans ab).trans bc) bd,l,oh a7 fun r _ h=>?_,bb⟩;rcases h with h|h
  ·have h:W.heap.size≤r:=h;exact .inr (by omega)
  ·exact h.elim
 refine aL (fun v X=>Ext ay X∧v= .bool (decide (n<0∧(aO (-ak) ak s).isSome=true))) ?_ ?_
 rotate_left
 ·intro bg au;refine (lK aJ).mono ?_;rintro _ X _ ⟨rfl,O⟩;cases E:aO (-ak) ak s with
  |none=>
   rw[show ((none:Option (Int×aw)).map (·.2)).isSome=false from rfl,aP];exact au _ _ ⟨O,by rw[decide_eq_false];rintro⟨_,h⟩;rw[E] at h;cases h⟩
  |some q=>
   rw[show ((some q:Option (Int×aw)).map (·.2)).isSome=true from rfl,bh,ao];exact au _ _ ⟨O,by congr 1;rw[X5,decide_eq_true_eq,decide_eq_true_eq,E];exact⟨fun h=>⟨h,rfl⟩,fun h=>h.1⟩⟩
 rintro _ X ⟨O,rfl⟩;have ag:=aJ.ext O;have be:=O.size;rw[aa];refine⟨fun am=>?_,fun bi=>?_⟩
 rotate_left
 ·have am:∀ q,aO (-ak) ak s=some q→¬n<0:=fun q E h=>bi ⟨h,by rw[E];rfl⟩;obtain⟨N,aB,aD⟩:∃ N:Nat,n=(N:Int)∧(N:Int)≤ak:=by
   cases E:aO (-ak) ak s with
   |none=>rw[a2 E];exact⟨0,rfl,by unfold ak;omega⟩
   |some q=>
    have h1:=am q E;have bj:=jP (n:=q.1) (s':=q.2) E;have bk:=az q E;exact⟨n.toNat,by omega,by omega⟩
  refine EY (at_:=at_) ag (fun t bl=>?_) fun W ab aE=>?_
  ·obtain⟨q,E,rfl⟩:=b8.1 bl;have bj:=jP (n:=q.1) (s':=q.2) E;have bk:=az q E;refine⟨by omega,by omega,?_⟩;cases s with
   |none=>cases E
   |some s0=>
    have aM:=(cN (n:=q.1) (s':=q.2) E).eqs;have aN:=hi s0 rfl;intro aQ;rw[aM.1];rw[aM.2.1] at aQ;exact aN aQ
  ·have z3:=ab.size;have bm:af (ba g gs A) w W:=(al.trans (O.U _)).trans ab;subst aB;refine E3 (N:=N) aE ((hg (aK.ext O) ab fun r Y a n c ac aA=>(aj r ⟨a,n,c,ac,aA⟩).1 Y)) (fun r Y=>⟨(aj r Y).1,by have:=(aj r Y).2;omega⟩) aV aW (aX.U bm h1.1) h1 aD fun v w' l a b c=>?_;exact rest X O am N rfl aD W ab aE v w' l a b c
 ·obtain⟨bn,bo⟩:=am;obtain⟨⟨bf,ad⟩,E⟩:=Option.isSome_iff_exists.1 bo;have:=az _ E;subst this;have bF:=jP E;rw[E] at J ag;simp only at J;rw[if_pos bn] at J;have ag:cq X g gs A B ad clean:=ag;obtain⟨_,aN,bG,big,bH,bI,told,bK,aF,bL,aG⟩:=id ag;have bM:ak=4611686018427387904:=rfl;refine aL (fun v W=>Ext X W∧v= .bool (decide (gp sizes s=none))) ?_ ?_
  ·rintro _ W ⟨Z,rfl⟩;rw[aa];refine⟨fun bp=>?_,fun aR=>?_⟩
   ·refine (oM (ag.ext Z) (by omega)).mono ?_;rintro _ bN _ ⟨bq,br⟩;rw[bp];refine⟨er.mk (((al.trans (O.U _)).trans (Z.U _)).trans (bq.mono fun r _ h=>.inl h)) br,[],im,fun q E=>by cases E⟩
   ·cases ap:ad.shared[(-n-1).toNat]? with
    |none=>rw[ap] at J;exact absurd J aR
    |some q=>
     obtain⟨z,l⟩:=q;rw[ap] at J;simp only at J;have bt:z=sizes:=by
      by_cases ai:z=sizes
      ·exact ai
      ·rw[if_neg ai] at J;exact absurd J aR
     rw[if_pos bt] at J;rw[ax,ae bC.p rfl,V (by kernel_rfl) ((aF.ext Z).cell (o:=0+6) rfl),iZ,wrap_i64 (by omega) (by omega),cY,wrap_i64 (by omega) (by omega)];refine oj (α:=gm) (m:=true) (S:=A) (R:=bQ g gs A B) (i:=(-n-1).toNat) (a:=(z,l)) (by omega) fj.u hb.i (cT aG Z) ap fun b o cs aH aI=>?_;obtain⟨u,v,rfl,hu,ac⟩:=wY aI;rw[ae hb.p rfl,V (by kernel_rfl) (aH 1 v rfl)];rw[J];refine⟨er.mk ((al.trans (O.U _)).trans (Z.U _)) (ag.ext Z),l,oh ac fun r _ h=>?_,fun q E=>by cases E;rfl⟩;rcases h with h|h
     ·exact h.elim
     ·exact .inl h
  ·intro bg au;rw[iZ,wrap_i64 (by omega) (by omega),ax,ae bC.p rfl,V (by kernel_rfl) (aF.cell (o:=0+6) rfl),io fj.u aG,bA,aa];refine⟨fun aS=>au _ _ ⟨Ext.refl _,?_⟩,fun aT=>?_⟩
   ·have aS:(ad.shared.length:Int)<0-n:=aS;rw[c6 (by omega)] at J;rw[decide_eq_true J]
   ·have aT:¬(ad.shared.length:Int)<0-n:=aT;have bu:(-n-1).toNat<ad.shared.length:=by omega
    obtain⟨⟨z,l⟩,ap⟩:∃ q,ad.shared[(-n-1).toNat]? =some q:=⟨_,y0 bu⟩;rw[ax,ae bC.p rfl,V (by kernel_rfl) (aF.cell (o:=0+6) rfl),iZ,wrap_i64 (by omega) (by omega),cY,wrap_i64 (by omega) (by omega)];refine oj (α:=gm) (m:=true) (S:=A) (R:=bQ g gs A B) (i:=(-n-1).toNat) (a:=(z,l)) (by omega) fj.u hb.i aG ap fun b o cs aH aI=>?_;obtain⟨u,v,rfl,hu,ac⟩:=wY aI;rw[ae hb.p rfl,V (by kernel_rfl) (aH 0 u rfl)];refine (CE (jH hu) (aK.ext O)).mono ?_;rintro _ W _ ⟨rfl,Z⟩;rw[bJ];refine au _ _ ⟨Z,?_⟩;rw[ap] at J;simp only at J;by_cases ai:z=sizes
    ·rw[if_pos ai] at J;rw[decide_eq_true ai,decide_eq_false (by rw[J];simp)];rfl
    ·rw[if_neg ai] at J;rw[decide_eq_false ai,decide_eq_true J];rfl
abbrev lL (n:Nat):an:=fun r=>r<n
def mX (n:Int) (k:Nat) (s:Option aw):Option (List Int×aw):=s.bind (dJ n k)
theorem E5 {w:x2} {g gs k:Nat} {A B:an} {s:Option aw} {clean:Bool} {m:Int} (h:cw w g gs A B clean s) (V:k≤4611686018427387904) (hm:0≤m∧m≤1000000):
  ah x5 tX [.pointer (some ⟨g,0,none⟩),.int .i64 (k:Int),.int .i64 m] w fun v w'=>er w g gs A B clean ((mX m k s).map (·.2)) w'∧
   ∃ W l,am .i64 aj w' W v l∧(∀ r,leads v r→w.heap.size≤r)∧l.length≤100001∧ ∀ q,mX m k s=some q→l=q.1:=by
 cases s with
 |some s=>exact DT (s:=s) h V hm
 |none=>
  have h:dn w g gs A B:=h;refine aq func199 ?_;refine⟨fun out X Y=>w=Y∧out= .slice none 0 0∧X= .int .i64 0,fun _ _ _=>0,⟨rfl,rfl,rfl⟩,?_⟩;rintro _ _ _ ⟨rfl,rfl,rfl⟩;refine aL (fun v J=>Ext w J∧v= .bool false) ?_ ?_
  ·rintro _ J ⟨E,rfl⟩;rw[aP];exact⟨er.mk (E.U _) (h.ext E),0,[],am.nil _ _ _ _,fun r Z=>absurd Z (fun h=>by obtain⟨a,n,c,h,_⟩:=h;cases h),by simp,fun q ab=>by cases ab⟩
  ·intro ac O;rw[ao,aa];refine⟨fun _=>?_,fun _=>O _ _ ⟨Ext.refl _,rfl⟩⟩;refine (kA h).mono ?_;rintro _ J _ ⟨rfl,E⟩;exact O _ _ ⟨E,rfl⟩
def o0 (z:List Int) (l:List (List Int×Int)) (s:aw):aw:={s with shared:=s.shared++[(z,l)]}
def wZ (w:x2) (g gs:Nat):Prop:=∃ (e big E J told:Int) (sv:x1),ad w g bC (ee gs e big E J told sv)∧e≠0
def fa (w:x2) (g gs:Nat) (A:an) (B:an) (clean:Bool) (s:Option aw):Prop:=match s with
 |some s=>cq w g gs A B s clean
 |none=>wZ w g gs
theorem cw.q {w:x2} {g gs:Nat} {A:an} {B:an} {clean:Bool} {s:Option aw} (h:cw w g gs A B clean s):fa w g gs A B clean s:=by
 cases s with
 |some s=>exact h
 |none=>
  obtain⟨_,e,big,E,J,told,sv,l,O,U,_⟩:=h;exact⟨e,big,E,J,told,sv,O,U.1⟩
theorem fa.U {S:Nat→Prop} {w w':x2} {g gs:Nat} {A:an} {B:an} {clean:Bool} {s:Option aw} (h:fa w g gs A B clean s) (J:af S w w') (O:¬S g) (V:∀ r,ba g gs A r→r<w.heap.size→¬S r) (W:∀ r,bQ g gs A B r→¬S r):fa w' g gs A B clean s:=by
 cases s with
 |some s=>
  have h:cq w g gs A B s clean:=h;exact cq.U h J (fun r E=>V r E (h.1.2.2.2.1 r E)) W
 |none=>
  obtain⟨e,big,X,Y,told,sv,Z,aa⟩:=h;exact⟨e,big,X,Y,told,sv,Z.U J O,aa⟩
theorem fa.ext {w w':x2} {g gs:Nat} {A:an} {B:an} {clean:Bool} {s:Option aw} (h:fa w g gs A B clean s) (J:Ext w w'):fa w' g gs A B clean s:=h.U (J.U fun _=>False) (fun h=>h) (fun _ _ _ h=>h) (fun _ _ h=>h)
theorem w1 {w:x2} {g gs:Nat} {A:an} {B:an} {s:Option aw} {clean:Bool} (h:fa w g gs A B clean s):ah x5 ih [.pointer (some ⟨g,0,none⟩)] w fun v w'=>v= .bool s.isSome∧Ext w w':=by
 cases s with
 |none=>
  obtain⟨e,big,U,V,told,sv,E,O⟩:=h;refine (q7 E).mono ?_;rintro _ W _ ⟨rfl,J⟩;exact⟨by rw[decide_eq_false O];rfl,J⟩
 |some s=>exact lC h
theorem fl.aW {S:Nat→Prop} {w w':x2} {g:Nat} {R R':Nat→Prop} {toks:List (List Int)} {clean:Bool} (h:fl w g R toks clean) (J:af S w w') (V:¬S g) (W:∀ r,R r→¬S r) (X:∀ r,R r→R' r):fl w' g R' toks clean:=by
 obtain⟨Y,p,a,⟨h1,Z,aa,ab,ac,ad⟩,O,ae⟩:=h;exact⟨Y,p,a,⟨h1,Z,aa,ab.U J V,ac,aX ad J fun r E=>W r (O r E)⟩,fun r E=>X r (O r E),ae⟩
theorem jf {α:Type} [ay α] {m:Bool} {S R:an} {w:x2} {v:x1} {l:List α} (h:ay.rep m S R w [v] l):∃ a n c,v= .slice a n c:=by
 obtain⟨vs,J,F,O,he,E,hm⟩:=jG h;obtain⟨U,b,o,base,cap,rfl,_⟩:=E;exact⟨_,_,_,rfl⟩
def iz (w:x2) (g gs:Nat) (A:an) (B:an) (R:an) (clean:Bool) (s:Option aw):Prop:=match s with
 |some s=>iv w g gs A B∧fl w gs R s.toks clean∧(0≤s.told∧s.told≤ak∧s.shared.length+s.toks.length≤100000)∧
  ∃ big E J told sv,ad w g bC (ee gs 0 big E J told sv)∧((s.big=true↔big≠0)∧(s.big=false→told=s.told))∧de A R w [sv] (show List gm from s.shared)
 |none=>wZ w g gs
theorem iz.U {S:Nat→Prop} {w w':x2} {g gs:Nat} {A R:an} {B:an} {clean:Bool} {s:Option aw} (h:iz w g gs A B R clean s) (J:af S w w') (X:¬S g) (Y:∀ r,ba g gs A r→r<w.heap.size→¬S r) (Z:∀ r,R r→¬S r):iz w' g gs A B R clean s:=by
 cases s with
 |some s=>
  obtain⟨h1,aa,ab,big,E,O,told,sv,V,W,ac⟩:=h;have ad:=h1.2.2.2.1;exact⟨h1.U J,aa.U J (Y gs (.inr (.inl rfl)) (ad _ (.inr (.inl rfl)))) Z,ab,big,E,O,told,sv,V.U J X,W,ay.U ac J fun r ae h=>h.elim (fun h=>Y r (.inr (.inr h)) ae) (Z r)⟩
 |none=>
  obtain⟨e,big,E,O,told,sv,V,W⟩:=h;exact⟨e,big,E,O,told,sv,V.U J X,W⟩
theorem iz.out {w:x2} {g gs:Nat} {A R B E:an} {clean:Bool} {s:Option aw} (h:iz w g gs A B R clean s) (J:∀ r,R r→bQ g gs A E r) (O:∀ r,E r→r<w.heap.size):fa w g gs A E clean s:=by
 cases s with
 |some s=>
  obtain⟨⟨U,V,W,X,aj⟩,⟨Y,p,a,Z,aa,ab⟩,ac,big,ad,ae,told,sv,af,ag,ah⟩:=h;exact⟨⟨U,V,W,X,O⟩,⟨Y,p,a,Z,fun r ai=>J r (aa r ai),ab⟩,ac,big,ad,ae,told,sv,af,ag,ay.mono ah (fun _ _ h=>h) fun r _ h=>J r h⟩
 |none=>exact h
theorem cw.qr {w:x2} {g gs:Nat} {A R:an} {B:an} {clean:Bool} {s:Option aw} (h:cw w g gs A B clean s) (V:∀ r,bQ g gs A B r→R r):iz w g gs A B R clean s:=by
 cases s with
 |some s=>
  obtain⟨h1,⟨W,p,a,X,Y,Z⟩,aa,big,E,J,told,sv,O,U,ab⟩:=h;exact⟨h1,⟨W,p,a,X,fun r ac=>V r (Y r ac),Z⟩,aa,big,E,J,told,sv,O,U,ay.mono ab (fun _ _ h=>h) fun r _ h=>V r h⟩
 |none=>
  obtain⟨_,e,big,E,J,told,sv,l,O,U,_⟩:=h;exact⟨e,big,E,J,told,sv,O,U.1⟩
set_option maxHeartbeats 2000000 in
theorem E6 {w:x2} {g gs ao:Nat} {A B R:an} {s:Option aw} {clean:Bool} {aN aT u v:x1} {z:List Int} {l:List (List Int×Int)} {K:x2→Prop} (h:cw w g gs A B clean s) (aq:∀ r,bQ g gs A B r→R r) (aH:∀ r,R r→bQ g gs A (lL w.heap.size) r)
  (aI:∀ t,s=some t→t.shared.length+1+t.toks.length≤100000) (aJ:ad w ao bp [aN,u,aT,v])
  (hu:ay.rep (α:=List Int) false a8 R w [u] z) (ac:ay.rep (α:=List (List Int×Int)) false a8 R w [v] l)
  (aU:∀ w' W,af (ba g gs A) w w'→(∀ r,W r→A r∨w.heap.size≤r)→iz w' g gs W (lL w.heap.size) R clean (s.map (o0 z l))→K w'):
  O x5 (bk (.pointer (some ⟨g,0,none⟩))) w fun au=>
  O x5 (x8 bC au 3) w fun av=>
  O x5 (x7 fj av) w fun aK=>
  O x5 (x8 bp (.pointer (some ⟨ao,0,none⟩)) 1) w fun t76=>
  O x5 (x7 ap t76) w fun t77=>
  O x5 (x8 bp (.pointer (some ⟨ao,0,none⟩)) 3) w fun aV=>
  O x5 (x7 gh aV) w fun aX=>
  O x5 (Instr.build hb #[(0,t77),(1,aX)]) w fun aY=>
  aA x5 (j9 fj 1 #[(0,aY)]) w fun a1 ag=>
   (Ext w ag∨bL x5 (x7 fj av) aK ag∧bL x5 (x8 bC au 3) av ag∧bL x5 (bk (.pointer (some ⟨g,0,none⟩))) au ag∧True)∧
   aA x5 (l5 #[fj,fj] fj #[aK,a1]) ag fun a2 az=>
    O x5 (bk (.pointer (some ⟨g,0,none⟩))) az fun a6=>
    O x5 (x8 bC a6 3) az fun a7=>
    aA x5 (o7 fj a7 a2) az fun(_:Unit) bb=>K bb:=by
 obtain⟨bc,e,big,X,Y,told,sv,aj,Z,ak,bn,bd⟩:iv w g gs A B∧ ∃ e big X Y told sv,∃ aj:List gm,ad w g bC (ee gs e big X Y told sv)∧de A R w [sv] aj∧aj.length≤100000∧
   ∀ w' W aa,iv w' g gs W (lL w.heap.size)→af (fun r=>A r∨r=g) w w'→ad w' g bC (ee gs e big X Y told aa)→de W R w' [aa] (aj++[((z,l):gm)])→iz w' g gs W (lL w.heap.size) R clean (s.map (o0 z l)):=by
  cases s with
  |none=>
   obtain⟨h1,e,big,X,Y,told,sv,l',aB,al,aC⟩:=h;exact⟨h1,e,big,X,Y,told,sv,l',aB,ay.mono aC (fun _ _ h=>h) fun r _ h=>aq r h,al.2,fun w' W aa aL _ Z ak=>⟨e,big,X,Y,told,aa,Z,al.1⟩⟩
  |some s=>
   obtain⟨h1,be,aM,big,X,Y,told,sv,aB,al,aC⟩:=h;have aI:=aI s rfl;refine⟨h1,0,big,X,Y,told,sv,s.shared,aB,ay.mono aC (fun _ _ h=>h) fun r _ h=>aq r h,(show s.shared.length≤100000 by omega),fun w' W aa aL bf Z ak=>⟨aL,?_,⟨aM.1,aM.2.1,?_⟩,big,X,Y,told,aa,Z,al,ak⟩⟩
   ·exact fl.aW be bf (fun he=>he.elim h1.2.2.1 fun h=>h1.1 h.symm) (fun r E he=>he.elim (fun h=>E.1 (.inr (.inr h))) fun h=>E.1 (.inl h)) aq
   ·show (s.shared++[(z,l)]).length+s.toks.length≤100000;simp;omega
 obtain⟨bg,aD,bh,aO,bo⟩:=id bc;rw[ax,ae bC.p rfl,V (by kernel_rfl) (Z.cell (o:=0+6) rfl),ae bp.p rfl,V (by kernel_rfl) (aJ.cell (o:=0+1) rfl),ae bp.p rfl,V (by kernel_rfl) (aJ.cell (o:=0+3) rfl)];rw[cI (cs:=#[u,v]) (by obtain⟨_,_,_,rfl⟩:=jf hu;obtain⟨_,_,_,rfl⟩:=jf ac;kernel_rfl)];have aP:de (fun _=>False) R w [u,v] ((z,l):gm):=⟨[u],[v],a8,a8,rfl,fun _ h=>h,fun _ h=>h,fun _ _ h _=>h,hu,ac⟩;refine kp (α:=gm) (a:=(z,l)) (cs:=[u,v]) (A:=fun _=>False) (R:=R) fj.u hb.i (by decide) rfl aP fun x bq ab _ J=>?_;have br:=ab.size;refine⟨.inl ab,?_⟩;refine ll (α:=gm) (a:=(z,l)) (A:=fun _=>False) (R:=R) fj.u hb.i rfl (cT ak ab) J (cT aP ab) (fun r _ bi ah=>?_) (by omega) (by omega) fun aQ bj aE aF=>?_
 ·rcases ah with ah|ah
  ·exact ah
  ·exact (aH r ah).1 (.inr (.inr bi))
 have bt:=aF.size;have bl:=(Z.ext ab).U aF aD;rw[ax,ae bC.p rfl];refine aZ (g:=g) (o:=6) fj.i (oi aE) (qG aE) bl (by simp[ee]) fun am aR bu aG=>?_;have aG:ad am g bC (ee gs e big X Y told aQ):=aG;have aS:af (fun r=>A r∨r=g) w am:=((ab.U _).trans (aF.mono fun r _ h=>.inl h)).trans (aR.mono fun r _ h=>.inr h);let W:an:=fun r=>(A r∨w.heap.size≤r)∧r<bj.heap.size;have bw:g<w.heap.size:=aO g (.inl rfl);have bx:gs<w.heap.size:=aO gs (.inr (.inl rfl));have bm:=ay.mono (S':=W) (R':=R) aE (fun r E h=>⟨h.elim .inl fun h=>h.elim False.elim fun h=>.inr (by omega),E⟩) (fun r E h=>h);refine aU am W (aS.mono fun r _ h=>h.elim (fun h=>.inr (.inr h)) .inl) (fun r E=>E.1) (bd am W aQ ⟨bg,fun h=>h.1.elim aD fun h=>by omega,fun h=>h.1.elim bh fun h=>by omega,fun r E=>?_,?_⟩ aS aG (ay.U bm aR fun r E ai he=>?_))
 ·rcases E with rfl|rfl|E
  ·omega
  ·omega
  ·have:=E.2;omega
 ·intro r E;have E:r<w.heap.size:=E;omega
 ·have he:r=g:=he;subst he;rcases ai with ai|ai
  ·exact ai.1.elim aD fun h=>by omega
  ·exact (aH _ ai).1 (.inl rfl)
set_option maxHeartbeats 2000000 in
theorem E7 {w:x2} {E:Nat} {aN ai:x1} {scope all:List Int} {aG:x2→Prop} (aH:ad w E bp [aN,.slice none 0 0,.int .i64 0,.slice none 0 0]) (aI:aC .i64 w aN scope) (aS:∀ r,leads aN r→r≠E)
  (aT:aC .i64 w ai all) (aU:∀ r,leads ai r→r≠E) (ac:∀ v∈scope,0≤v∧v<all.length) (bi:scope.length≤100001)
  (aV:∀ w' au J,af (fun r=>r=E) w w'→ad w' E bp [aN,au,.int .i64 0,.slice none 0 0]→am .i64 aj w' J au (scope.map fun v=>all.getD v.toNat 0)→w.heap.size≤J→aG w'):
 bV (.int .i64 0) w fun aw ag k=>
  O x5 (aB .lss ab false false aw (.int .i64 (scope.length:Int))) ag fun aW=>
  Split aW (O x5 (j4 ap aN aw) ag fun aX=>
  O x5 (x7 aj aX) ag fun aY=>
  dj ag fun X=>
  O x5 (x8 bp (.pointer (some ⟨E,0,none⟩)) 1) X fun t39=>
  O x5 (x7 ap t39) X fun aJ=>
  O x5 (j4 ap ai aY) X fun a2=>
  O x5 (x7 aj a2) X fun a6=>
  aA x5 (j9 ap 1 #[(0,a6)]) X fun t45 ak=>
   (Ext X ak∨bL x5 (x7 ap t39) aJ ak∧bL x5 (x8 bp (.pointer (some ⟨E,0,none⟩)) 1) t39 ak∧True)∧
  aA x5 (l5 #[ap,ap] ap #[aJ,t45]) ak fun t46 aK=>
   O x5 (x8 bp (.pointer (some ⟨E,0,none⟩)) 1) aK fun a7=>
   aA x5 (o7 ap a7 t46) aK fun(_:Unit) aL=>
    O x5 (aB .add ab false true aw (.int .i64 1)) aL fun a8=>
  k a8 aL) (aG ag):=by
 have bj:=aH.lt;refine bV.range scope.length (fun i W=>af (fun r=>r=E) w W∧ ∃ au J,ad W E bp [aN,au,.int .i64 0,.slice none 0 0]∧am .i64 aj W J au ((scope.take i).map fun v=>all.getD v.toNat 0)∧w.heap.size≤J) aI.le ⟨af.refl _ _,_,w.heap.size,aH,am.nil _ _ _ _,u9 _⟩ ?_ ?_
 rotate_left
 ·rintro W ba ⟨Y,au,J,al,aq,aM⟩;rw[o3] at aq;rw[ao,aa];exact⟨fun h=>by omega,fun _=>aV W au J Y al aq aM⟩
 rintro i W ba hi ⟨Y,au,J,al,aq,aM⟩ bb;obtain⟨v,ax⟩:∃ v,scope[i]? =some v:=⟨_,y0 hi⟩;have bk:=ac v (x4 ax);have bc:all[v.toNat]? =some (all.getD v.toNat 0):=by
  rw[u6,y0 (by omega)];rfl
 have bd:aC .i64 W aN scope:=hg aI Y fun r av a n c ay az=>aS r ⟨a,n,c,ay,az⟩ av;have be:aC .i64 W ai all:=hg aT Y fun r av a n c ay az=>aU r ⟨a,n,c,ay,az⟩ av;rw[ao,aa];refine⟨fun _=>?_,fun h=>by omega⟩;rw[a1 ap.u aj.i (by kernel_rfl) bd ax];intro bl Z _ _;have bm:=Y.size;have bn:=Z.size;rw[ae bp.p rfl,V (by kernel_rfl) ((al.ext Z).cell (o:=0+1) rfl)];rw[eS (y:=v) (i:=v.toNat) (by omega) ap.u aj.i (by kernel_rfl) (be.ext Z) bc];refine dC ap.u aj.i rfl fun a bo bq br ah bf=>?_;refine⟨.inl ah,?_⟩;have z3:=ah.size;refine gM ap.u aj.i rfl ((aq.ext Z).ext ah) bf.ls (by simp;omega) (by simp;omega) fun aO aP bt bu aD aQ=>?_;rw[ae bp.p rfl];have bg:=((al.ext Z).ext ah).U aQ (fun he=>by have he:E=J:=he;omega);refine aZ (g:=E) (o:=1) ap.i aD.ls.cells.1 aD.ls.cells.2 bg (by simp) fun bh aR bw aE=>?_;have aE:ad bh E bp [aN,aO,.int .i64 0,.slice none 0 0]:=aE;rw[aF];refine bb _ ⟨(fk (Y.trans ((Z.trans ah).U _)) aQ fun r av he=>by have he:r=J:=he;omega).trans aR,aO,aP,aE,?_,by omega⟩;rw[u4,ax,l9,o9];exact aD.U aR (fun _ he=>by have he:aP=E:=he;omega)
abbrev fp:Type:=Rd (List Int)×Rd (List Int)×Int×Rd (List (List Int×Int))
def fb (f:bH):fp:=(f.scope,f.sizes,f.other,f.lines)
theorem w2 {w:x2} {R:an} {aN au bo:x1} {o:Int} {sc E:List Int} {l:List (List Int×Int)} (h1:ay.rep (α:=List Int) false a8 R w [aN] sc) (J:ay.rep (α:=List Int) false a8 R w [au] E) (O:ay.rep (α:=List (List Int×Int)) false a8 R w [bo] l):
  Seen R w [aN,au,.int .i64 o,bo] ((sc,E,o,l):fp):=
 ⟨[aN],[au,.int .i64 o,bo],a8,a8,rfl,fun _ h=>h,fun _ h=>h,fun _ _ h _=>h,h1,[au],[.int .i64 o,bo],a8,a8,rfl,fun _ h=>h,fun _ h=>h,fun _ _ h _=>h,J,[.int .i64 o],[bo],a8,a8,rfl,fun _ h=>h,fun _ h=>h,fun _ _ h _=>h,rfl,O⟩
theorem mY {w:x2} {R:an} {g:Nat} {v:x1} {l:List Int} {e:u5} (h:am .i64 e w g v l) (U:∀ r,leads v r→R r):ay.rep (α:=List Int) false a8 R w [v] l:=by
 have h1:de (fun r=>r=g) a8 w [v] l:=lm h;obtain⟨vs,V,F,ad,he,W,hm⟩:=jG h1;refine⟨v,rfl,vs,V,fun _ _=>False,⟨fun _ _ h=>h,fun h=>(by cases h),fun h=>by cases h⟩,⟨he.1,fun i c a X Y=>?_⟩,?_,fun h=>by cases h⟩
 ·exact he.2 i c a X Y
 ·obtain⟨E,b,o,base,cap,rfl,Z,aa,J,ae,ab⟩:=W;refine⟨E,b,o,base,cap,rfl,Z,aa,J,fun O=>.inr (U b ?_),ab⟩;have ac:0<l.length:=by
   rw[E] at O;rcases Nat.eq_zero_or_pos l.length with h|h
   ·rw[h,Nat.zero_mul] at O;omega
   ·exact h
  exact⟨⟨b,o,none⟩,l.length,cap,by rw[J ac],rfl⟩
theorem w3 {α:Type} [ay α] {w:x2} {R R':an} {cs:List x1} {a:α} (h:Seen R w cs a) (E:∀ r,r<w.heap.size→R r→R' r):Seen R' w cs a:=ay.mono h (fun _ _ h=>h) E
end Go.Proofs.YtgbkinibgjmodaaGreatDoor
